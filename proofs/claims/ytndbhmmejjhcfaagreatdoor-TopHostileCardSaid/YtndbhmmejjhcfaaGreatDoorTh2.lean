/- Own texts of this claim, joined: walks and plain laws. Conditions: those of each theorem, on its arguments. -/
import Derived.Test.YtndbhmmejjhcfaaGreatDoorTh1
import Derived.Deep.AppendSrc
import Derived.Lib.AppendZeros
import Derived.Lib.UnsafeStr
import Derived.Laws.BytesString
import Derived.Laws.StructEq
namespace Go.Cx
open Go Go.Sx Go.RowKit
noncomputable section
theorem foldl_setAll (y : Lay) (off : Nat) : ∀ (vs l : List AV) (i : Nat), ((AV.gs y vs).zipIdx i).foldl (fun cs (p : Value × Nat) => cs.setIfInBounds (off + p.2) p.1) (AV.gs y l).toArray = (AV.gs y (setAll l (off + i) vs)).toArray
  | [], l, i => by simp only [AV.gs, List.zipIdx_nil, List.foldl_nil, setAll]
  | v :: vs, l, i => by
    rw [AV.gs, List.zipIdx_cons, List.foldl_cons, setAll]
    simp only [List.setIfInBounds_toArray]
    rw [← gs_set, foldl_setAll y off vs (l.set (off + i) v) (i + 1), Nat.add_assoc]
theorem foldl_setAll' (y : Lay) (off : Nat) (v : AV) (l : List AV) : ((v.g y).cells.zipIdx.foldl (fun cs (c, j) => cs.setIfInBounds (off + j) c) (AV.gs y l).toArray) = (AV.gs y (setAll l off v.cells)).toArray := by
  rw [cellsL_eq', ← AV.g_cells, ← Array.foldl_toList, Array.toList_zipIdx]
  exact foldl_setAll y off v.cells l 0
def fillA (place : Nat → Option (Nat × Nat)) (l : List AV) : List (Nat × AV) → Option (List AV)
  | [] => some l
  | (i, v) :: rest => match place i with
    | none => none
    | some (off, size) => cond (Nat.beq v.cells.length size && Nat.ble (off + size) l.length) (fillA place (setAll l off v.cells) rest) none
theorem fillA_of (y : Lay) {place : Nat → Option (Nat × Nat)} : ∀ {ps : List (Nat × AV)} {l l' : List AV}, fillA place l ps = some l' →
    Instr.fill place (AV.gs y l).toArray (ps.map fun p => (p.1, p.2.g y)) = some (AV.gs y l').toArray
  | [], l, l', h => by cases (Option.some.inj h); rfl
  | (i, v) :: ps, l, l', h => by
    rw [fillA] at h
    rw [List.map_cons, Instr.fill]
    split at h
    · cases h
    · rename_i off size hp
      rw [hp]
      cases hb : (Nat.beq v.cells.length size && Nat.ble (off + size) l.length) <;> rw [hb] at h
      · cases h
      simp only [Bool.and_eq_true, Nat.ble_eq] at hb
      have b1 := Nat.eq_of_beq_eq_true hb.1
      have hsz : (v.g y).cells.size = size := by rw [cellsL_eq', ← AV.g_cells]; simpa [gs_length] using b1
      have hsz2 : (AV.gs y l).toArray.size = l.length := by simpa using gs_length y l
      simp only
      rw [if_neg (by rw [hsz, hsz2]; simp; omega), foldl_setAll']
      exact fillA_of y h
theorem setAll_lts {n : Nat} : ∀ {vs l : List AV} {o : Nat}, AV.lts n l = true → AV.lts n vs = true → AV.lts n (setAll l o vs) = true
  | [], _, _, h, _ => h
  | v :: vs, l, o, h, hv => by
    rw [AV.lts, Bool.and_eq_true] at hv
    rw [setAll]
    refine setAll_lts (AV.all_lts n fun u hu => ?_) hv.2
    rcases List.mem_or_eq_of_mem_set hu with hu | rfl
    · exact AV.lts_all n h u hu
    · exact hv.1
theorem fillA_lts {n : Nat} {place : Nat → Option (Nat × Nat)} : ∀ {ps : List (Nat × AV)} {l l' : List AV}, fillA place l ps = some l' → AV.lts n l = true → (∀ p ∈ ps, p.2.lt n = true) → AV.lts n l' = true
  | [], l, l', h, hl, _ => by cases (Option.some.inj h); exact hl
  | (i, v) :: ps, l, l', h, hl, hp => by
    rw [fillA] at h
    split at h
    · cases h
    · rename_i off size _
      cases hb : (Nat.beq v.cells.length size && Nat.ble (off + size) l.length) <;> rw [hb] at h
      · cases h
      exact fillA_lts h (setAll_lts hl (AV.lts_cells (hp _ List.mem_cons_self))) fun p hp' => hp p (List.mem_cons_of_mem _ hp')
def placesA (T : Tab) : List Field → Option (List (Nat × Nat))
  | [] => some []
  | f :: fs => match T.sz f.type, placesA T fs with
    | some z, some l => some ((f.offset, z) :: l)
    | _, _ => none
theorem places_run {P : Program} {T : Tab} (hT : TabOk P T) : ∀ {fs : List Field} {l : List (Nat × Nat)}, placesA T fs = some l → ∀ w, (fs.mapM fun f => (do pure (f.offset, ← sizeOf f.type) : Sem (Nat × Nat))).run P w = .ok l w
  | [], l, h, w => by cases (Option.some.inj h); simp
  | f :: fs, l, h, w => by
    rw [placesA] at h
    split at h
    · rename_i z l' hz hl
      cases h
      obtain ⟨k1, k2⟩ := hT.hasT hz
      rw [List.mapM_cons]
      simp only [Sem.run_bind, hasT_of k1, Result.andThen_ok, Sem.run_pure, places_run hT hl w, k2]
    · cases h
def rdPA (e : Tr AV) : List (Nat × Operand) → Option (List (Nat × AV))
  | [] => some []
  | (i, x) :: l => match rdA e x, rdPA e l with
    | some v, some vs => some ((i, v) :: vs)
    | _, _ => none
section
variable {P : Program} {T : Tab} {y : Lay} {m n G : Nat} {e : Tr AV} {env : Env} {a : Act} {o : Oper} {v : AV} {w0 w : World} {S : AS}
theorem rdPA_of (ha : Agr m env a) (h : EnvR y n e env) (hG : ∀ r, r < G → y.b r = r) (hn : G ≤ n) : ∀ {ps : List (Nat × Operand)} {l : List (Nat × AV)}, rdPA e ps = some l → (∀ p ∈ ps, glOk G p.2 = true) →
    (ps.map fun (i, x) => (i, a.eval x)) = l.map (fun p => (p.1, p.2.g y)) ∧ ∀ p ∈ l, p.2.lt n = true
  | [], l, hl, _ => by cases (Option.some.inj hl); exact ⟨rfl, fun p hp => absurd hp List.not_mem_nil⟩
  | (i, x) :: ps, l, hl, hg => by
    rw [rdPA] at hl
    split at hl
    · rename_i u us hu hus
      cases hl
      obtain ⟨h1, h2⟩ := h.eval ha hG hn hu (hg _ List.mem_cons_self)
      obtain ⟨h3, h4⟩ := rdPA_of ha h hG hn hus fun p hp => hg p (List.mem_cons_of_mem _ hp)
      refine ⟨by rw [List.map_cons, List.map_cons, h3]; exact congrArg (fun q => (i, q) :: us.map fun p => (p.1, p.2.g y)) h1, fun p hp => ?_⟩
      rcases List.mem_cons.1 hp with rfl | hp
      · exact h2
      · exact h4 p hp
    · cases hl
def exBd (T : Tab) (e : Tr AV) (o : Oper) : Option AV :=
  match o.op with
  | .build t parts => match T.inf.get t, rdPA e parts.toList with
    | some i, some ps => match i.zero, T.und t with
      | some z, some (.struct fs) => match placesA T fs.toList with
        | some pl => match fillA (fun i => pl[i]?) ((cellsL z).map .lit) ps with
          | some l => some (.agg l)
          | none => none
        | none => none
      | some z, some (.array _ el) => match T.sz el with
        | some s => match fillA (fun i => some (i * s, s)) ((cellsL z).map .lit) ps with
          | some l => some (.agg l)
          | none => none
        | none => none
      | _, _ => none
    | _, _ => none
  | _ => none
theorem exBd_of (hT : TabOk P T) (ha : Agr m env a) (h : EnvR y n e env) (hG : ∀ r, r < G → y.b r = r) (hn : G ≤ n)
    (hg : glsOk G o = true) (hv : exBd T e o = some v) : Makes P o a (v.g y) ∧ v.lt n = true := by
  unfold exBd at hv
  split at hv
  · rename_i t parts ho
    split at hv
    · rename_i i ps hi hps
      have hgp : ∀ p ∈ parts.toList, glOk G p.2 = true := fun p hp => List.all_eq_true.1 hg _ (by rw [ho]; simp only [Op.operands]; exact List.mem_map.2 ⟨p, hp, rfl⟩)
      obtain ⟨h1, h2⟩ := rdPA_of ha h hG hn hps hgp
      have hI := hT.inf t i hi
      have hpt : (parts.map fun (i, x) => (i, a.eval x)).toList = ps.map (fun p => (p.1, p.2.g y)) := by rw [Array.toList_map]; exact h1
      split at hv
      · rename_i z fs hz hd
        split at hv
        · rename_i pl hpl
          split at hv
          · rename_i l hl
            cases hv
            have hf := fillA_of y hl
            rw [gs_lits, ← hpt] at hf
            refine ⟨fun w => ?_, fillA_lts hl (lts_lits _ _) h2⟩
            have hm : (fs.mapM fun f => (do pure (f.offset, ← sizeOf f.type) : Sem (Nat × Nat))).run P w = .ok pl.toArray w := by
              rw [← Array.toArray_toList (xs := fs), List.mapM_toArray, Sem.run_map, places_run hT hpl]
              rfl
            have hf2 : Instr.fill (fun x => pl.toArray[x]?) z.cells (parts.map fun (i, x) => (i, a.eval x)).toList = some (AV.gs y l).toArray := by
              rw [cellsL_eq']
              simpa using hf
            rw [AV.g]
            simp only [execOp, ho, Instr.build, Sem.run_bind, zeroValue, typeInfo, run_program, hI, hz, und_run (hT.und hd), Result.andThen_ok, Sem.run_pure, hm, hf2]
          · cases hv
        · cases hv
      · rename_i z k el hz hd
        split at hv
        · rename_i s hs
          split at hv
          · rename_i l hl
            cases hv
            obtain ⟨k1, k2⟩ := hT.hasT hs
            have hf := fillA_of y hl
            rw [gs_lits, ← hpt] at hf
            refine ⟨fun w => ?_, fillA_lts hl (lts_lits _ _) h2⟩
            have hf2 : Instr.fill (fun i => some (i * s, s)) z.cells (parts.map fun (i, x) => (i, a.eval x)).toList = some (AV.gs y l).toArray := by
              rw [cellsL_eq']
              exact hf
            rw [AV.g]
            simp only [execOp, ho, Instr.build, Sem.run_bind, zeroValue, typeInfo, run_program, hI, hz, und_run (hT.und hd), Result.andThen_ok, Sem.run_pure, hasT_of k1, k2, hf2]
          · cases hv
        · cases hv
      · cases hv
    · cases hv
  · cases hv
end
end
end Go.Cx
namespace Go.Cx
open Go Go.Sx Go.RowKit
noncomputable section
def AS.row (S : AS) (t : TypeId) (s : Nat) (l : List AV) : AS := ⟨S.rows.put (dp S.next) S.next (some ⟨t, s, l, none⟩), S.next + 1⟩
section
variable {P : Program} {T : Tab} {y : Lay} {m n G : Nat} {e : Tr AV} {env : Env} {a : Act} {o : Oper} {v : AV} {w0 : Frm} {w : World} {S : AS}
theorem Rel.row (h : Rel w0 G y S w) {t : TypeId} {s c b : Nat} {cur : Array Value} {l : List AV} (hs : s ≠ 0) (hsz : cur.size = c * s) (hc : c ≤ maxLen) (hl : l.length ≤ cur.size)
    (ht : cur.toList.take l.length = AV.gs y l) (hlt : AV.lts S.next l = true) {w' : World} (hx : Ext no w w') {fr : Nat × Nat} (hfr : fr = (0, 0) ∨ cur.size ≤ fr.1) (hb : w'.heap[b]? = some (.cells cur t fr)) (hbn : w.heap.size ≤ b) :
    ∃ y', Rel w0 G y' (S.row t s l) w' ∧ Lay.same S.next y y' ∧ y'.b S.next = b ∧ y'.c S.next = c := by
  have hb := h.born (w' := w') hx (b := b) (c := c) hbn (R := ⟨t, s, l, none⟩) (AV.lts_mono (Nat.le_succ _) hlt) ?_
  · exact ⟨_, hb.1, hb.2, if_pos rfl, if_pos rfl⟩
  · unfold Lies
    rw [if_neg hs]
    have hs : AV.gs y l = AV.gs (⟨fun r => if r = S.next then b else y.b r, fun r => if r = S.next then c else y.c r⟩ : Lay) l := by
      refine AV.gs_same (n := S.next) (fun r hr => ?_) hlt
      have : r ≠ S.next := by omega
      simp only [if_neg this, and_self]
    simp only [if_true]
    rw [← hs]
    exact ⟨cur, fr, hb, hfr, hsz, hc, hl, ht⟩
def zrow (z : Value) (n : Nat) : List AV := (List.range n).map fun i => .lit (z.cells[i % z.cells.size]!)
theorem zrow_g (y : Lay) (z : Value) (n : Nat) : (AV.gs y (zrow z n)).toArray = (Array.range n).map (z.cells[· % z.cells.size]!) := by
  rw [AV.gs_map, zrow, List.map_map]
  apply Array.ext'
  simp [Function.comp_def, AV.g, Array.toList_range]
theorem zrow_lts (k : Nat) (z : Value) (n : Nat) : AV.lts k (zrow z n) = true := AV.all_lts k fun v hv => by
  obtain ⟨i, _, rfl⟩ := List.mem_map.1 hv
  rfl
theorem fillA_length {place : Nat → Option (Nat × Nat)} : ∀ {ps : List (Nat × AV)} {l l' : List AV}, fillA place l ps = some l' → l'.length = l.length
  | [], l, l', h => by cases (Option.some.inj h); rfl
  | (i, v) :: ps, l, l', h => by
    rw [fillA] at h
    split at h
    · cases h
    · rename_i off size _
      cases hb : (Nat.beq v.cells.length size && Nat.ble (off + size) l.length) <;> rw [hb] at h
      · cases h
      rw [fillA_length h, setAll_length]
def exRw (T : Tab) (S : AS) (e : Tr AV) (o : Oper) : Option (AV × AS) :=
  match o.op with
  | .buildSlice t len parts => match T.und t with
    | some (.slice el) => match T.inf.get el, rdPA e parts.toList with
      | some i, some ps => cond (Nat.beq len 0 && parts.toList.isEmpty && Nat.blt 0 i.size) (some (.sl S.next 0 i.size 0 (some 0), S.row el i.size [])) (match i.zero with
        | some z => match fillA (fun k => some (k * i.size, i.size)) (zrow z (len * i.size)) ps with
          | some l => cond (Nat.ble (len * i.size) 16777216 && Nat.blt 0 (len * i.size)) (some (.sl S.next 0 i.size len (some len), S.row el i.size l)) none
          | none => none
        | none => none)
      | _, _ => none
    | _ => none
  | _ => none
theorem rdPA_rdP (h : EnvR y n e env) (hG : ∀ r, r < G → y.b r = r) (hn : G ≤ n) : ∀ {ps : List (Nat × Operand)} {l : List (Nat × AV)} {K : List (Nat × Value) → Prop}, rdPA e ps = some l → (∀ p ∈ ps, glOk G p.2 = true) →
    K (l.map fun p => (p.1, p.2.g y)) → rdP env ps K
  | [], l, K, hl, _, hK => by cases (Option.some.inj hl); exact hK
  | (i, x) :: ps, l, K, hl, hg, hK => by
    rw [rdPA] at hl
    split at hl
    · rename_i u us hu hus
      cases hl
      rw [rdP, rd, (h.rd hG hn hu (hg _ List.mem_cons_self)).1]
      exact rdPA_rdP h hG hn hus (fun p hp => hg p (List.mem_cons_of_mem _ hp)) hK
    · cases hl
theorem rdPA_lt (h : EnvR y n e env) (hG : ∀ r, r < G → y.b r = r) (hn : G ≤ n) : ∀ {ps : List (Nat × Operand)} {l : List (Nat × AV)}, rdPA e ps = some l → (∀ p ∈ ps, glOk G p.2 = true) → ∀ p ∈ l, p.2.lt n = true
  | [], l, hl, _ => by cases (Option.some.inj hl); exact fun p hp => absurd hp List.not_mem_nil
  | (i, x) :: ps, l, hl, hg => by
    rw [rdPA] at hl
    split at hl
    · rename_i u us hu hus
      cases hl
      intro p hp
      rcases List.mem_cons.1 hp with rfl | hp
      · exact (h.rd hG hn hu (hg _ List.mem_cons_self)).2
      · exact rdPA_lt h hG hn hus (fun p hp => hg p (List.mem_cons_of_mem _ hp)) p hp
    · cases hl
theorem exRw_of (hT : TabOk P T) (hR : Rel w0 G y S w) (h : EnvR y S.next e env) (hg : glsOk G o = true) {S' : AS} (hv : exRw T S e o = some (v, S')) :
    evEff P o env w (Out w0 G y S S' v) := by
  unfold exRw at hv
  split at hv
  · rename_i t len parts ho
    split at hv
    · rename_i el hd
      split at hv
      · rename_i i ps hi hps
        cases hz0 : (Nat.beq len 0 && parts.toList.isEmpty && Nat.blt 0 i.size) <;> rw [hz0] at hv
        case true =>
          cases (Option.some.inj hv)
          simp only [Bool.and_eq_true, Nat.blt_eq] at hz0
          have hI := hT.inf el i hi
          unfold evEff
          rw [ho]
          simp only
          rw [hT.und hd]
          simp only
          rw [show (Nat.beq len 0 && parts.toList.isEmpty && hasT P el) = true by rw [Bool.and_eq_true, Bool.and_eq_true]; exact ⟨hz0.1, by unfold Sx.hasT; rw [hI]; rfl⟩]
          obtain ⟨y', h1, h2, h3, h4⟩ := hR.row (t := el) (s := i.size) (c := 0) (b := w.heap.size) (cur := #[]) (l := []) (by omega) (by simp) (Nat.zero_le _) (by simp) rfl rfl (Ext.alloc w (.cells #[] el)) (.inl rfl) Array.getElem?_push_size (Nat.le_refl _)
          refine ⟨y', h1, h2, Nat.le_succ _, by simp [AV.lt, AS.row], ?_⟩
          rw [AV.g, h3, Nat.zero_mul]
          rfl
        simp only [cond_false] at hv
        split at hv
        · rename_i z hz
          split at hv
          · rename_i l hl
            cases hb : (Nat.ble (len * i.size) 16777216 && Nat.blt 0 (len * i.size)) <;> rw [hb] at hv
            · cases hv
            cases (Option.some.inj hv)
            simp only [Bool.and_eq_true, Nat.ble_eq, Nat.blt_eq] at hb
            have hs0 : i.size ≠ 0 := by intro h0; rw [h0] at hb; omega
            have hl0 : len ≠ 0 := by intro h0; rw [h0] at hb; omega
            have hgp : ∀ p ∈ parts.toList, glOk G p.2 = true := fun p hp => List.all_eq_true.1 hg _ (by rw [ho]; simp only [Op.operands]; exact List.mem_map.2 ⟨p, hp, rfl⟩)
            have hI := hT.inf el i hi
            have hsz : szOf P el = i.size := by unfold szOf; rw [hI]
            unfold evEff
            rw [ho]
            simp only
            rw [hT.und hd]
            simp only
            have hc1 : (Nat.beq len 0 && parts.toList.isEmpty && hasT P el) = false := by
              rw [beqF hl0]; rfl
            have hc2 : (Nat.ble (len * szOf P el) 16777216 && Nat.blt 0 (len * szOf P el)) = true := by
              rw [hsz, Bool.and_eq_true, Nat.ble_eq, Nat.blt_eq]; exact hb
            rw [hc1, hc2]
            refine rdPA_rdP h hR.gl hR.gn hps hgp ?_
            have hf := fillA_of y hl
            rw [zrow_g] at hf
            have hbs : bsl P el len (ps.map fun p => (p.1, p.2.g y)) = some (AV.gs y l).toArray := by
              unfold bsl
              rw [hI]
              simp only [hz]
              exact hf
            rw [hbs]
            have hll : l.length = len * i.size := by rw [fillA_length hl, zrow, List.length_map, List.length_range]
            have hlt := fillA_lts hl (zrow_lts S.next z _) (rdPA_lt h hR.gl hR.gn hps hgp)
            obtain ⟨y', h1, h2, h3, h4⟩ := hR.row (t := el) (s := i.size) (c := len) (b := w.heap.size) (cur := (AV.gs y l).toArray) (l := l) hs0 (by rw [List.size_toArray, gs_length, hll])
              (by have : len ≤ len * i.size := Nat.le_mul_of_pos_right _ (by omega)
                  have : maxLen = 2 ^ 62 ∨ 16777216 ≤ maxLen := .inr (by decide)
                  omega) (by rw [List.size_toArray, gs_length]; exact Nat.le_refl _) (by rw [List.take_of_length_le (by simp [gs_length])]) hlt (Ext.alloc w (.cells (AV.gs y l).toArray el)) (.inl rfl) Array.getElem?_push_size (Nat.le_refl _)
            refine ⟨y', h1, h2, Nat.le_succ _, by simp [AV.lt, AS.row], ?_⟩
            rw [AV.g, h3, Nat.zero_mul]
            rfl
          · cases hv
        · cases hv
      · cases hv
    · cases hv
  · cases hv
end
end
end Go.Cx
namespace Go.Cx
open Go Go.Sx Go.RowKit
noncomputable section
def AS.kill (S : AS) (r : Nat) : AS := ⟨S.rows.put (dp r) r none, S.next⟩
section
variable {P : Program} {T : Tab} {y : Lay} {m n G : Nat} {e : Tr AV} {env : Env} {a : Act} {o : Oper} {v : AV} {w0 : Frm} {w : World} {S : AS}
theorem Rel.kill (h : Rel w0 G y S w) (r : Nat) : Rel w0 G y (S.kill r) w := by
  have sub : ∀ q Q, (S.kill r).rows.get q = some Q → q ≠ r ∧ S.rows.get q = some Q := fun q Q hq => by
    rw [AS.kill] at hq
    simp only [Tr.put_get] at hq
    by_cases e : q = r
    · rw [if_pos e] at hq; cases hq
    · rw [if_neg e] at hq; exact ⟨e, hq⟩
  exact ⟨h.ext, h.gl, fun q Q hq => h.lies q Q (sub q Q hq).2, fun q Q hq => h.own q Q (sub q Q hq).2, fun q q' Q Q' h1 h2 => h.inj q q' Q Q' (sub q Q h1).2 (sub q' Q' h2).2, h.gn, h.gz⟩
theorem Rel.born2 (h : Rel w0 G y S w) {M : Nat → Prop} {w' : World} (hx : Ext M w w') (hM : ∀ r R, S.rows.get r = some R → ¬ M (y.b r)) (hM0 : ∀ i, w0.pr i → ¬ M i)
    {t : TypeId} {s c b : Nat} {cur : Array Value} {l : List AV} (hs : s ≠ 0) (hsz : cur.size = c * s) (hc : c ≤ maxLen) (hl : l.length ≤ cur.size)
    (ht : cur.toList.take l.length = AV.gs y l) (hlt : AV.lts S.next l = true) {fr : Nat × Nat} (hfr : fr = (0, 0) ∨ cur.size ≤ fr.1) (hb : w'.heap[b]? = some (.cells cur t fr)) (hb0 : ¬ w0.pr b) (hbn : ∀ r R, S.rows.get r = some R → y.b r ≠ b) :
    ∃ y', Rel w0 G y' (S.row t s l) w' ∧ Lay.same S.next y y' ∧ y'.b S.next = b ∧ y'.c S.next = c := by
  have hsm : Lay.same S.next y ⟨fun r => if r = S.next then b else y.b r, fun r => if r = S.next then c else y.c r⟩ := fun r hr => by
    have : r ≠ S.next := by omega
    simp only [if_neg this, and_self]
  have hgn := h.gn
  refine ⟨⟨fun r => if r = S.next then b else y.b r, fun r => if r = S.next then c else y.c r⟩, ⟨h.ext.then hx (fun i _ hm hp => hM0 i hp hm), fun r hr => ?_, fun r R' hr => ?_, fun r R' hr hG => ?_, fun r r' R1 R2 h1 h2 e => ?_, ?_, h.gz⟩, hsm, if_pos rfl, if_pos rfl⟩
  · have : r ≠ S.next := by omega
    simp only [if_neg this]
    exact h.gl r hr
  · simp only [AS.row, Tr.put_get] at hr
    by_cases e : r = S.next
    · subst e
      rw [if_pos rfl] at hr
      cases hr
      refine ⟨by simp only [AS.row]; omega, AV.lts_mono (Nat.le_succ _) hlt, ?_⟩
      unfold Lies
      rw [if_neg hs]
      simp only [if_true]
      rw [← AV.gs_same hsm hlt]
      exact ⟨cur, fr, hb, hfr, hsz, hc, hl, ht⟩
    · rw [if_neg e] at hr
      obtain ⟨k1, k2, k3⟩ := h.lies r R' hr
      exact ⟨by simp only [AS.row]; omega, AV.lts_mono (Nat.le_succ _) k2, (k3.ext hx (hM r R' hr)).same hsm k1 k2⟩
  · simp only [AS.row, Tr.put_get] at hr
    by_cases e : r = S.next
    · simp only [if_pos e]
      exact hb0
    · rw [if_neg e] at hr
      simp only [if_neg e]
      exact h.own r R' hr hG
  · simp only [AS.row, Tr.put_get] at h1 h2
    by_cases e1 : r = S.next <;> by_cases e2 : r' = S.next
    · omega
    · rw [if_neg e2] at h2
      simp only [if_pos e1, if_neg e2] at e
      exact absurd e.symm (hbn r' R2 h2)
    · rw [if_neg e1] at h1
      simp only [if_neg e1, if_pos e2] at e
      exact absurd e (hbn r R1 h1)
    · rw [if_neg e1] at h1
      rw [if_neg e2] at h2
      simp only [if_neg e1, if_neg e2] at e
      exact h.inj r r' R1 R2 h1 h2 e
  · simp only [AS.row]; omega
end
end
end Go.Cx
namespace Go.Cx
open Go Go.Sx Go.RowKit
noncomputable section
def Turns (P : Program) (o : Oper) (a : Act) (w : World) (K : Value → World → Prop) : Prop := ∃ v w', (execOp a.eval o).run P w = .ok (.value v) w' ∧ K v w'
def bytesA (b : ByteArray) : List AV := b.data.toList.map fun x => AV.lit (.int .u8 x.toNat)
def srcA (T : Tab) (S : AS) (s : Nat) (t : TypeId) (u : AV) : Option (Nat × List AV) :=
  match T.und t with
  | some (.slice _) => match u with
    | .lit (.slice none 0 _) => some (0, [])
    | .sl r i s' m _ => match S.rows.get r with
      | some R => cond (R.m.isNone && Nat.beq s' s && Nat.ble ((i + m) * s) R.cells.length) (some (m, (R.cells.drop (i * s)).take (m * s))) none
      | none => none
    | _ => none
  | some .string => match u with
    | .lit (.string b) => cond (Nat.beq s 1) (some (b.size, bytesA b)) none
    | _ => none
  | _ => none
def apFits (b n : Nat) : Bool := Nat.ble n 16777216 && Nat.ble (n * b) 140737488355328
def exAp (T : Tab) (G : Nat) (S : AS) (e : Tr AV) (o : Oper) : Option (AV × AS) :=
  match o.op with
  | .call c => match c.callee, c.args.toList, c.argTypes.toList with
    | .builtin .append, [x, q], [t, t'] => match T.und t with
      | some (.slice el) => match T.inf.get el with
        | some i => match i.zero, rdA e q, rdA e x with
          | some z, some u, some b => match srcA T S i.size t' u with
            | some (m, news) => cond (Nat.beq z.cells.size i.size && Nat.blt 0 i.size && news.all AV.one)
                (match b with
                | .lit (.slice none 0 0) => cond (apFits i.bytes m) (cond (Nat.beq m 0) (some (.lit (.slice none 0 0), S)) (some (.sl S.next 0 i.size m none, S.row el i.size news))) none
                | .sl r k s n cap => match S.rows.get r with
                  | some R => cond (R.m.isNone && Nat.beq s i.size && Nat.beq R.s s && Nat.ble ((k + n) * s) R.cells.length && apFits i.bytes (n + m))
                      (match cap with
                      | none => cond (Nat.beq k 0 && Nat.beq R.t el && Nat.ble G r) (some (.sl S.next 0 s (n + m) none, (S.kill r).row el s (R.cells.take (n * s) ++ news))) none
                      | some cp => cond (Nat.ble (n + m) cp)
                          (cond (Nat.ble G r && Nat.ble ((k + (n + m)) * s) R.cells.length) (some (.sl r k s (n + m) (some cp), S.wr r R ((k + n) * s) news)) none)
                          (some (.sl S.next 0 s (n + m) none, S.row el s ((R.cells.drop (k * s)).take (n * s) ++ news)))) none
                  | none => none
                | _ => none) none
            | none => none
          | _, _, _ => none
        | none => none
      | _ => none
    | _, _, _ => none
  | _ => none
def setG {α : Type} : List α → Nat → List α → List α
  | l, _, [] => l
  | l, o, v :: vs => setG (l.set o v) (o + 1) vs
theorem setG_length {α : Type} : ∀ (vs l : List α) (o : Nat), (setG l o vs).length = l.length
  | [], _, _ => rfl
  | v :: vs, l, o => by rw [setG, setG_length vs, List.length_set]
theorem setG_take {α : Type} : ∀ (vs l : List α) (o : Nat), o + vs.length ≤ l.length → (setG l o vs).take (o + vs.length) = l.take o ++ vs
  | [], l, o, _ => by simp [setG]
  | v :: vs, l, o, h => by
    rw [List.length_cons] at h
    have := setG_take vs (l.set o v) (o + 1) (by rw [List.length_set]; omega)
    rw [setG, List.length_cons, show o + (vs.length + 1) = o + 1 + vs.length by omega, this]
    rw [List.take_add_one, List.getElem?_set_self (by omega), List.take_set_of_le (Nat.le_refl o)]
    simp
theorem blk_setCells {b : Nat} {t : TypeId} {fr : Nat × Nat} : ∀ (vs : List Value) (o : Nat) (w : World) (cur : Array Value), w.heap[b]? = some (.cells cur t fr) → (w.setCells b o vs).heap[b]? = some (.cells (setG cur.toList o vs).toArray t fr)
  | [], o, w, cur, h => by simpa [World.setCells, setG] using h
  | v :: vs, o, w, cur, h => by
    have := blk_setCells vs (o + 1) (w.setCell ⟨b, o, none⟩ v) _ (blk_set h o v)
    rw [World.setCells, this, setG]
    simp
theorem Ext.sets (b : Nat) : ∀ (vs : List Value) (o : Nat) (w : World), Ext (onl b) w (w.setCells b o vs)
  | [], _, w => Ext.refl _ w
  | v :: vs, o, w => (Ext.set w ⟨b, o, none⟩ v).trans (Ext.sets b vs (o + 1) _)
theorem lts_append' {n : Nat} {l m : List AV} (h : AV.lts n l = true) (k : AV.lts n m = true) : AV.lts n (l ++ m) = true := AV.all_lts n fun v hv => by
  rcases List.mem_append.1 hv with hv | hv
  · exact AV.lts_all n h v hv
  · exact AV.lts_all n k v hv
section
variable {P : Program} {T : Tab} {y : Lay} {m n G : Nat} {e : Tr AV} {env : Env} {a : Act} {o : Oper} {v : AV} {w0 : Frm} {w : World} {S : AS}
theorem ap_run {c : Call} {x q : Operand} {t t' : TypeId} (ho : o.op = .call c) (hc : c.callee = .builtin .append) (hx : c.args.toList = [x, q]) (ht : c.argTypes.toList = [t, t']) {K : Value → World → Prop}
    {v : Value} {w' : World} (hr : (Builtin.append_ #[t, t'] o.type #[a.eval x, a.eval q]).run P w = .ok v w') (h : K v w') : Turns P o a w K := by
  have hargs : c.args = #[x, q] := by rw [← Array.toArray_toList (xs := c.args), hx]
  have hts : c.argTypes = #[t, t'] := by rw [← Array.toArray_toList (xs := c.argTypes), ht]
  refine ⟨v, w', ?_, h⟩
  simp [execOp, ho, resolve, hc, invoke, builtin, hargs, hts, hr]
theorem Rel.sets : ∀ (vs : List AV) {S : AS} {w : World} {r k : Nat} {R : ARow}, Rel w0 G y S w → S.rows.get r = some R → R.wr = true → k + vs.length ≤ R.cells.length →
    AV.lts S.next vs = true → G ≤ r → Rel w0 G y (S.wr r R k vs) (w.setCells (y.b r) k (AV.gs y vs))
  | [], S, w, r, k, R, h, hr, _, _, _, _ => by
    refine h.rows_eq rfl fun q => ?_
    simp only [AS.wr, Tr.put_get]
    by_cases e : q = r
    · rw [if_pos e, e, hr]; rfl
    · rw [if_neg e]
  | v :: vs, S, w, r, k, R, h, hr, hm, hlen, hlt, hG => by
    rw [AV.gs, World.setCells]
    rw [AV.lts, Bool.and_eq_true] at hlt
    rw [List.length_cons] at hlen
    have hk : k < R.cells.length := by omega
    have h1 := h.store1 hr hm hk hlt.1 hG
    have hr1 : (S.rows.put (dp r) r (some (⟨R.t, R.s, R.cells.set k v, none⟩ : ARow))).get r = some ⟨R.t, R.s, R.cells.set k v, none⟩ := by
      rw [Tr.put_get, if_pos rfl]
    have h2 := Rel.sets vs (k := k + 1) h1 hr1 (by rw [ARow.wr, ARow.wr_m hm] at hm; exact hm) (by simp only [List.length_set]; omega) hlt.2 hG
    refine h2.rows_eq rfl fun q => ?_
    simp only [AS.wr, Tr.put_get]
    by_cases e : q = r
    · rw [if_pos e, if_pos e, setAll, ARow.wr_m hm]
    · rw [if_neg e, if_neg e, if_neg e]
theorem bytesA_g (y : Lay) (b : ByteArray) : AV.gs y (bytesA b) = byteCells b := by
  rw [AV.gs_map, bytesA, List.map_map, byteCells]
  rfl
theorem bytesA_lts (n : Nat) (b : ByteArray) : AV.lts n (bytesA b) = true := AV.all_lts n fun v hv => by
  obtain ⟨_, _, rfl⟩ := List.mem_map.1 hv
  rfl
theorem ones_g (y : Lay) {l : List AV} (h : l.all AV.one = true) : ∀ u ∈ AV.gs y l, u.oneCell' = true := fun v hv => by
  rw [AV.gs_map] at hv
  obtain ⟨v', hv', rfl⟩ := List.mem_map.1 hv
  exact (one_oneCell' _).symm.trans (AV.one_g y (List.all_eq_true.1 h v' hv'))
theorem Rel.piece (h : Rel w0 G y S w) {r : Nat} {R : ARow} (hr : S.rows.get r = some R) (hm : R.m = none) (k n : Nat) : ∀ j u, (AV.gs y ((R.cells.drop k).take n))[j]? = some u → w.cell? ((⟨y.b r, k, none⟩ : Addr).add j) = some u := by
  intro j u hu
  rw [AV.gs_map, List.getElem?_map] at hu
  cases hj : ((R.cells.drop k).take n)[j]? with
  | none => rw [hj] at hu; cases hu
  | some x =>
    rw [hj] at hu
    cases hu
    rw [List.getElem?_take] at hj
    split at hj
    · rw [List.getElem?_drop] at hj
      rw [Addr.add_off]
      exact (h.load hr hm hj).1
    · cases hj
theorem srcA_of (hT : TabOk P T) (h : Rel w0 G y S w) {s : Nat} {u : AV} {t : TypeId} (hu : u.lt S.next = true) {m : Nat} {l : List AV} (hs : srcA T S s t u = some (m, l)) (hone : l.all AV.one = true) :
    Src P s t (u.g y) m (AV.gs y l) w ∧ AV.lts S.next l = true := by
  unfold srcA at hs
  split at hs
  · rename_i el hd
    split at hs
    · cases hs
      exact ⟨Src.ofNil w (hT.und hd) _, rfl⟩
    · rename_i r i s' m' c
      split at hs
      · rename_i R hr
        cases hb : (R.m.isNone && Nat.beq s' s && Nat.ble ((i + m') * s) R.cells.length) <;> rw [hb] at hs
        · cases hs
        cases (Option.some.inj hs)
        simp only [Bool.and_eq_true, Nat.ble_eq] at hb
        obtain ⟨⟨b0, b1⟩, b2⟩ := hb
        have b0 : R.m = none := by simpa using b0
        have b1 := Nat.eq_of_beq_eq_true b1
        subst b1
        rw [Nat.add_mul] at b2
        obtain ⟨_, hlt, _⟩ := h.lies r R hr
        rw [AV.g]
        exact ⟨Src.ofSlice w (hT.und hd) _ _ _ _ (by rw [gs_length, List.length_take, List.length_drop]; omega) (h.piece hr b0 _ _) (ones_g y hone), lts_sub hlt fun v hv => List.mem_of_mem_drop (List.mem_of_mem_take hv)⟩
      · cases hs
    · cases hs
  · rename_i hd
    split at hs
    · rename_i b
      cases hb : Nat.beq s 1 <;> rw [hb] at hs
      · cases hs
      cases (Option.some.inj hs)
      have := Nat.eq_of_beq_eq_true hb
      subst this
      rw [bytesA_g]
      exact ⟨Src.ofString w (hT.und hd) b, bytesA_lts _ b⟩
    · cases hs
  · cases hs
theorem apFits_of {b n : Nat} (h : apFits b n = true) : n ≤ 16777216 ∧ n * b ≤ 140737488355328 := by
  unfold apFits at h
  simpa only [Bool.and_eq_true, Nat.ble_eq] using h
theorem max_of {n : Nat} (h : n ≤ 16777216) : n ≤ maxLen := Nat.le_trans h (by decide)
theorem Rel.fresh (h : Rel w0 G y S w) {el : TypeId} {i : TypeInfo} {z : Value} (hzs : z.cells.size = i.size) (hpos : 0 < i.size) {need cap : Nat} (hn : need ≤ 16777216) {l : List AV} (hl : l.length = need * i.size) (hlt : AV.lts S.next l = true) :
    Out w0 G y S (S.row el i.size l) (.sl S.next 0 i.size need none) (.slice (some ⟨w.heap.size, 0, none⟩) need (grownCap w need cap el))
      (w.drew.alloc (.cells ((AV.gs y l).toArray ++ Builtin.zeroCells z.cells (grownCap w need cap el - need)) el)) := by
  have hge := grownCap_ge w need cap el
  have hle := grownCap_le_maxLen w need cap el (max_of hn)
  obtain ⟨y', q1, q2, q3, q4⟩ := h.row (t := el) (s := i.size) (c := grownCap w need cap el) (b := w.heap.size) (cur := (AV.gs y l).toArray ++ Builtin.zeroCells z.cells (grownCap w need cap el - need)) (l := l) (by omega)
    (by rw [Array.size_append, List.size_toArray, size_zeroCells, hzs, gs_length, hl, ← Nat.add_mul]; congr 1; omega) hle
    (by rw [Array.size_append, List.size_toArray, gs_length]; omega)
    (by rw [Array.toList_append]
        have : l.length = (AV.gs y l).length := (gs_length y l).symm
        rw [this]
        exact List.take_left) hlt
    (w' := w.drew.alloc (.cells ((AV.gs y l).toArray ++ Builtin.zeroCells z.cells (grownCap w need cap el - need)) el)) ((Ext.drew w).trans (Ext.alloc _ _)) (.inl rfl) (heap_alloc_new w.drew _) (Nat.le_refl _)
  refine ⟨y', q1, q2, Nat.le_succ _, by simp [AV.lt, AS.row], ?_⟩
  rw [AV.g, q3, cp, q4, Nat.zero_mul, Nat.sub_zero]
theorem nil_app {t t' ty el : TypeId} {i : TypeInfo} (hu : P.underlying t = some (.slice el)) (hi : P.info? el = some i) {u : Value} (hs : Src P i.size t' u 0 [] w) : (Builtin.append_ #[t, t'] ty #[.slice none 0 0, u]).run P w = .ok (.slice none 0 0) w := by
  have hc := hs.cells
  rcases hs.kind with ⟨e', hk⟩ | hk <;> simp [Builtin.append_, run_underlying hu, run_underlying hk, sizeOf, typeInfo, hi, hs.len, hc]
theorem Out.kill {S' : AS} {v : AV} {u : Value} {w' : World} {r : Nat} (h : Out w0 G y (S.kill r) S' v u w') : Out w0 G y S S' v u w' := by
  obtain ⟨y', h1, h2, h3, h4, h5⟩ := h
  exact ⟨y', h1, h2, h3, h4, h5⟩
theorem exAp_of (hT : TabOk P T) (hR : Rel w0 G y S w) (ha : Agr m env a) (h : EnvR y S.next e env) (hg : glsOk G o = true) {S' : AS} (hv : exAp T G S e o = some (v, S')) :
    Turns P o a w (Out w0 G y S S' v) := by
  unfold exAp at hv
  split at hv
  · rename_i c ho
    split at hv
    · rename_i x q t t' hc hx hts
      have hgx : ∀ z ∈ [x, q], glOk G z = true := fun z hz => List.all_eq_true.1 hg _ (by rw [ho]; simp only [Op.operands, Call.operands, Array.toList_append]; exact List.mem_append_right _ (by rw [hx]; exact hz))
      split at hv
      · rename_i el hd
        split at hv
        · rename_i i hi
          split at hv
          · rename_i z u b hz hu hb
            split at hv
            · rename_i k news hsrc
              cases hcd : (Nat.beq z.cells.size i.size && Nat.blt 0 i.size && news.all AV.one) <;> rw [hcd] at hv
              · cases hv
              simp only [Bool.and_eq_true, Nat.blt_eq] at hcd
              obtain ⟨⟨c2, c3⟩, c4⟩ := hcd
              have c2 := Nat.eq_of_beq_eq_true c2
              obtain ⟨e1, e2⟩ := h.eval ha hR.gl hR.gn hu (hgx q (by simp))
              obtain ⟨e3, e4⟩ := h.eval ha hR.gl hR.gn hb (hgx x (by simp))
              obtain ⟨f1, f5⟩ := srcA_of hT hR e2 hsrc c4
              have hund := hT.und hd
              have hinf := hT.inf el i hi
              have hnl := f1.newsLen
              rw [gs_length] at hnl
              simp only [cond_true] at hv
              split at hv
              · -- onto nil
                rw [AV.g] at e3
                cases hb1 : apFits i.bytes k <;> rw [hb1] at hv
                · cases hv
                obtain ⟨d6, d7⟩ := apFits_of hb1
                cases hk : Nat.beq k 0 <;> rw [hk] at hv
                · cases (Option.some.inj hv)
                  have hk0 : 0 < k := by
                    rcases Nat.eq_zero_or_pos k with h0 | h0
                    · rw [h0] at hk; cases hk
                    · exact h0
                  have hr := run_append_grow_src (P := P) w t t' o.type el i z hund hinf hz none 0 0 [] (by exact run_firstCells_none w.drew _ _ _ _) (u.g y) k (AV.gs y news) f1 (by omega) (by omega) (growslice_fits (by omega) (by rw [Nat.zero_add]; exact d7))
                  rw [Nat.zero_add, List.nil_append] at hr
                  refine ap_run ho hc hx hts (by rw [e1, e3]; exact hr) ?_
                  exact hR.fresh c2 c3 d6 hnl f5
                · cases (Option.some.inj hv)
                  have hk0 := Nat.eq_of_beq_eq_true hk
                  subst hk0
                  have hn0 : news = [] := List.eq_nil_of_length_eq_zero (by omega)
                  subst hn0
                  exact ap_run ho hc hx hts (by rw [e1, e3]; exact nil_app hund hinf f1) ⟨y, hR, Lay.same_refl _ _, Nat.le_refl _, rfl, rfl⟩
              · rename_i r q0 s j cap
                split at hv
                · rename_i R hr
                  cases hb1 : (R.m.isNone && Nat.beq s i.size && Nat.beq R.s s && Nat.ble ((q0 + j) * s) R.cells.length && apFits i.bytes (j + k)) <;> rw [hb1] at hv
                  · cases hv
                  simp only [Bool.and_eq_true, Nat.ble_eq] at hb1
                  obtain ⟨⟨⟨⟨d0, d1⟩, d2⟩, d4⟩, d5⟩ := hb1
                  simp only [cond_true] at hv
                  have d0 : R.m = none := by simpa using d0
                  have d1 := Nat.eq_of_beq_eq_true d1
                  have d2 := Nat.eq_of_beq_eq_true d2
                  obtain ⟨d6, d7⟩ := apFits_of d5
                  subst d1
                  have hjm : (q0 + j) * i.size = q0 * i.size + j * i.size := Nat.add_mul _ _ _
                  have hjk : (j + k) * i.size = j * i.size + k * i.size := Nat.add_mul _ _ _
                  obtain ⟨_, hlt, hlies⟩ := hR.lies r R hr
                  have hlt2 : ∀ a b, AV.lts S.next ((R.cells.drop a).take b) = true := fun a b => lts_sub hlt fun v hv => List.mem_of_mem_drop (List.mem_of_mem_take hv)
                  rw [AV.g] at e3
                  have grow : ∀ {S0 : AS}, Rel w0 G y S0 w → S0.next = S.next → cp y r q0 cap < j + k → Turns P o a w (Out w0 G y S0 (S0.row el i.size ((R.cells.drop (q0 * i.size)).take (j * i.size) ++ news)) (.sl S0.next 0 i.size (j + k) none)) := by
                    intro S0 hR0 hn0 hlt0
                    have hlen : ((R.cells.drop (q0 * i.size)).take (j * i.size) ++ news).length = (j + k) * i.size := by
                      rw [List.length_append, List.length_take, List.length_drop, hnl]; omega
                    have hold := run_firstCells_some (P := P) w.drew i.size j ⟨y.b r, q0 * i.size, none⟩ j (cp y r q0 cap) (AV.gs y ((R.cells.drop (q0 * i.size)).take (j * i.size))) (by rw [gs_length, List.length_take, List.length_drop]; omega)
                      (by simpa using hR.piece hr d0 (q0 * i.size) (j * i.size))
                    have hrun := run_append_grow_src (P := P) w t t' o.type el i z hund hinf hz (some ⟨y.b r, q0 * i.size, none⟩) j (cp y r q0 cap) _ hold (u.g y) k (AV.gs y news) f1 hlt0 (by omega) (growslice_fits hlt0 d7)
                    rw [← gs_append] at hrun
                    refine ap_run ho hc hx hts (by rw [e1, e3]; exact hrun) ?_
                    refine hR0.fresh c2 c3 d6 hlen ?_
                    rw [hn0]
                    exact lts_append' (hlt2 _ _) f5
                  split at hv
                  · -- room that is not known
                    cases hb2 : (Nat.beq q0 0 && Nat.beq R.t el && Nat.ble G r) <;> rw [hb2] at hv
                    · cases hv
                    cases (Option.some.inj hv)
                    simp only [Bool.and_eq_true, Nat.ble_eq] at hb2
                    obtain ⟨⟨g1, g2⟩, g3⟩ := hb2
                    have g1 := Nat.eq_of_beq_eq_true g1
                    have g2 := Nat.eq_of_beq_eq_true g2
                    subst g1
                    by_cases hroom : j + k ≤ y.c r
                    · have hs0 : R.s ≠ 0 := by omega
                      unfold Lies at hlies
                      rw [if_neg hs0] at hlies
                      obtain ⟨cur, fr, hb, hfr, hsz, hcm, hle, htk⟩ := hlies
                      have hsz2 : (j + k) * i.size ≤ cur.size := by rw [hsz, d2]; exact Nat.mul_le_mul_right _ hroom
                      have hfz : ∀ x, x < cur.size → w.frozen? ⟨y.b r, x, none⟩ = false := fun x hx => by
                        rcases hfr with rfl | hfr
                        · exact blk_frozen hb x
                        · have : ¬ fr.1 ≤ x := by omega
                          simp [World.frozen?, hb, this]
                      have hrun := run_append_room_src (P := P) w t t' o.type el i hund hinf (y.b r) (0 * i.size) j (cp y r 0 none) (u.g y) k (AV.gs y news) f1 (by simpa [cp] using hroom)
                        (fun x hx => by
                          rw [gs_length, hnl] at hx
                          rw [blk_cell hb]
                          simp only [Nat.zero_mul, Nat.zero_add]
                          simp; omega)
                        (fun x hx => by
                          rw [gs_length, hnl] at hx
                          exact hfz _ (by omega))
                      refine ap_run ho hc hx hts (by rw [e1, e3]; exact hrun) ?_
                      have hblk := blk_setCells (AV.gs y news) (0 * i.size + j * i.size) w cur hb
                      have hown := hR.own r R hr g3
                      obtain ⟨y', q1, q2, q3, q4⟩ := (hR.kill r).born2 (Ext.sets (y.b r) (AV.gs y news) (0 * i.size + j * i.size) w)
                        (fun q Q hq he => by
                          have hq2 : q ≠ r ∧ S.rows.get q = some Q := by
                            simp only [AS.kill, Tr.put_get] at hq
                            by_cases e : q = r
                            · rw [if_pos e] at hq; cases hq
                            · rw [if_neg e] at hq; exact ⟨e, hq⟩
                          exact hq2.1 (hR.inj q r Q R hq2.2 hr he))
                        (fun x hx he => hown (by rw [← (show x = y.b r from he)]; exact hx))
                        (t := R.t) (s := i.size) (c := y.c r) (b := y.b r) (cur := (setG cur.toList (0 * i.size + j * i.size) (AV.gs y news)).toArray) (l := R.cells.take (j * i.size) ++ news) (by omega)
                        (by simp only [List.size_toArray, setG_length, Array.length_toList, hsz, d2]) hcm
                        (by simp only [List.size_toArray, setG_length, Array.length_toList, List.length_append, List.length_take, hnl]; omega)
                        (by
                          have h1 : (R.cells.take (j * i.size) ++ news).length = 0 * i.size + j * i.size + (AV.gs y news).length := by
                            rw [List.length_append, List.length_take, gs_length]; omega
                          rw [h1]
                          simp only
                          rw [setG_take (AV.gs y news) cur.toList (0 * i.size + j * i.size) (by simp only [Array.length_toList, gs_length]; omega), gs_append, gs_take, ← htk, List.take_take]
                          congr 2
                          omega)
                        (lts_append' (show AV.lts S.next _ = true by have := hlt2 0 (j * i.size); simpa using this) f5) (fr := fr) (by simpa [setG_length] using hfr) hblk hown
                        (fun q Q hq he => by
                          have hq2 : q ≠ r ∧ S.rows.get q = some Q := by
                            simp only [AS.kill, Tr.put_get] at hq
                            by_cases e : q = r
                            · rw [if_pos e] at hq; cases hq
                            · rw [if_neg e] at hq; exact ⟨e, hq⟩
                          exact hq2.1 (hR.inj q r Q R hq2.2 hr he))
                      refine ⟨y', by rw [g2] at q1; exact q1, q2, Nat.le_succ _, by simp [AV.lt, AS.row, AS.kill], ?_⟩
                      have hnx : (S.kill r).next = S.next := rfl
                      rw [hnx] at q3 q4
                      rw [AV.g, q3, cp, cp, q4, Nat.zero_mul, Nat.sub_zero]
                    · have := grow (hR.kill r) rfl (by simp only [cp]; omega)
                      rw [Nat.zero_mul, List.drop_zero] at this
                      exact this.imp fun v' ⟨w', h1, h2⟩ => ⟨w', h1, h2.kill⟩
                  · rename_i cpn
                    cases hfit : Nat.ble (j + k) cpn <;> rw [hfit] at hv
                    · cases (Option.some.inj hv)
                      refine grow hR rfl ?_
                      have : ¬ j + k ≤ cpn := fun h => by rw [Nat.ble_eq_true_of_le h] at hfit; cases hfit
                      simp only [cp]; omega
                    · cases hb2 : (Nat.ble G r && Nat.ble ((q0 + (j + k)) * i.size) R.cells.length) <;> rw [hb2] at hv
                      · cases hv
                      cases (Option.some.inj hv)
                      simp only [Bool.and_eq_true, Nat.ble_eq] at hb2 hfit
                      obtain ⟨g3, g4⟩ := hb2
                      rw [Nat.add_mul, hjk] at g4
                      have hwr : R.wr = true := ARow.wr_of d0 (by omega)
                      have hcell : ∀ x, x < news.length → q0 * i.size + j * i.size + x < R.cells.length := fun x hx => by omega
                      have hrun := run_append_room_src (P := P) w t t' o.type el i hund hinf (y.b r) (q0 * i.size) j (cp y r q0 (some cpn)) (u.g y) k (AV.gs y news) f1 hfit
                        (fun x hx => by
                          rw [gs_length] at hx
                          obtain ⟨u', hu'⟩ : ∃ u', R.cells[q0 * i.size + j * i.size + x]? = some u' := ⟨_, List.getElem?_eq_getElem (hcell x hx)⟩
                          rw [hlies.cell d0 hu']; rfl)
                        (fun x hx => by rw [gs_length] at hx; exact hlies.frozen hwr (hcell x hx))
                      refine ap_run ho hc hx hts (by rw [e1, e3]; exact hrun) ?_
                      rw [hjm]
                      exact ⟨y, hR.sets news hr hwr (by omega) f5 g3, Lay.same_refl _ _, Nat.le_refl _, e4, by rw [AV.g]⟩
                · cases hv
              · cases hv
            · cases hv
          · cases hv
        · cases hv
      · cases hv
    · cases hv
  · cases hv
end
end
end Go.Cx
namespace Go.Cx
open Go Go.Sx Go.RowKit
noncomputable section
section
variable {P : Program} {T : Tab} {y : Lay} {m n G : Nat} {e : Tr AV} {env : Env} {a : Act} {o : Oper} {v : AV} {w0 : Frm} {w : World} {S : AS}
theorem Ext.freeze (w : World) (p : Addr) (k : Nat) : Ext (onl p.block) w (w.freeze p k) := by
  unfold World.freeze
  split
  · exact Ext.refl _ _
  · refine ⟨rfl, rfl, rfl, by simp, fun j _ hn => ?_⟩
    have : p.block ≠ j := fun e => hn e.symm
    simp [Array.getElem?_modify, this]
theorem make_run {t el : TypeId} {i : TypeInfo} {z : Value} (hu : P.underlying t = some (.slice el)) (hi : P.info? el = some i) (hz : i.zero = some z) {k k' : IntKind} {l c : Nat}
    (hlc : l ≤ c) (hb : i.bytes * c ≤ 281474976710656) (hc : c ≤ 16777216) (y : Lay) (w : World) :
    (Instr.makeSlice t (.int k l) (.int k' c)).run P w = .ok (.slice (some ⟨w.heap.size, 0, none⟩) l c) (w.alloc (.cells (AV.gs y (zrow z (c * i.size))).toArray el)) := by
  have hw : ∀ j : Nat, j ≤ 16777216 → IntKind.i64.wrap (j : Int) = j := fun j hj => by rw [IntKind.wrap_i64]; omega
  have h1 : ¬ ((l : Int) < 0) := by omega
  have h2 : ¬ ((c : Int) < 0) := by omega
  have h3 : ¬ ((281474976710656 : Int) < (i.bytes : Int) * (c : Int)) := by
    rw [← Int.natCast_mul]; omega
  have h4 : ¬ ((c : Int) < (l : Int)) := by omega
  rw [zrow_g]
  by_cases h0 : c * i.size = 0
  · have h00 : ∀ f : Nat → Value, Array.map f (Array.range 0) = #[] := fun f => Array.eq_empty_of_size_eq_zero (by simp)
    simp [h00, Instr.makeSlice, run_underlying hu, typeInfo, hi, asInt, asIntOf, hw l (by omega), hw c hc, h1, h2, h3, h4, sizeOf, h0, newRow]
  · simp [Instr.makeSlice, run_underlying hu, typeInfo, hi, asInt, asIntOf, hw l (by omega), hw c hc, h1, h2, h3, h4, sizeOf, h0, zeroValue, hz, newRow]
def exMk (T : Tab) (S : AS) (e : Tr AV) (o : Oper) : Option (AV × AS) :=
  match o.op with
  | .makeSlice t l c => match T.und t, rdN e l, rdN e c with
    | some (.slice el), some l, some c => match T.inf.get el with
      | some i => match i.zero with
        | some z => cond (Nat.ble l c && Nat.ble (i.bytes * c) 281474976710656 && Nat.ble c 16777216 && Nat.blt 0 i.size) (some (.sl S.next 0 i.size l (some c), S.row el i.size (zrow z (c * i.size)))) none
        | none => none
      | none => none
    | _, _, _ => none
  | _ => none
theorem exMk_of (hT : TabOk P T) (hR : Rel w0 G y S w) (ha : Agr m env a) (h : EnvR y S.next e env) (hg : glsOk G o = true) {S' : AS} (hv : exMk T S e o = some (v, S')) :
    Turns P o a w (Out w0 G y S S' v) := by
  unfold exMk at hv
  split at hv
  · rename_i t l c ho
    split at hv
    · rename_i el l' c' hd hl hc
      split at hv
      · rename_i i hi
        split at hv
        · rename_i z hz
          cases hb : (Nat.ble l' c' && Nat.ble (i.bytes * c') 281474976710656 && Nat.ble c' 16777216 && Nat.blt 0 i.size) <;> rw [hb] at hv
          · cases hv
          cases (Option.some.inj hv)
          simp only [Bool.and_eq_true, Nat.ble_eq, Nat.blt_eq] at hb
          obtain ⟨⟨⟨b1, b2⟩, b3⟩, b4⟩ := hb
          have hgl : ∀ x ∈ [l, c], glOk G x = true := fun x hx => List.all_eq_true.1 hg x (by rw [ho]; simpa [Op.operands] using hx)
          obtain ⟨k1, h1⟩ := rdN_of ha h hR.gl hR.gn hl (hgl l (by simp))
          obtain ⟨k2, h2⟩ := rdN_of ha h hR.gl hR.gn hc (hgl c (by simp))
          have hrun := make_run (hT.und hd) (hT.inf el i hi) hz (k := k1) (k' := k2) b1 b2 b3 y w
          refine ⟨_, _, by simp only [execOp, ho, h1, h2, Sem.run_bind, hrun, Result.andThen_ok, Sem.run_pure]; rfl, ?_⟩
          have hll : (zrow z (c' * i.size)).length = c' * i.size := by rw [zrow, List.length_map, List.length_range]
          obtain ⟨y', q1, q2, q3, q4⟩ := hR.row (t := el) (s := i.size) (c := c') (b := w.heap.size) (cur := (AV.gs y (zrow z (c' * i.size))).toArray) (l := zrow z (c' * i.size)) (by omega)
            (by rw [List.size_toArray, gs_length, hll]) (max_of b3) (by rw [List.size_toArray, gs_length]; exact Nat.le_refl _) (by rw [List.take_of_length_le (by simp [gs_length])]) (zrow_lts _ _ _)
            (Ext.alloc w _) (.inl rfl) Array.getElem?_push_size (Nat.le_refl _)
          refine ⟨y', q1, q2, Nat.le_succ _, by simp [AV.lt, AS.row], ?_⟩
          rw [AV.g, q3, Nat.zero_mul]
          rfl
        · cases hv
      · cases hv
    · cases hv
  · cases hv
theorem copy_run {t t' ty el : TypeId} {i : TypeInfo} (hu : P.underlying t = some (.slice el)) (hi : P.info? el = some i) {b off dLen cap' : Nat} {x : Value} {k : Nat} {news : List Value} (hs : Src P i.size t' x k news w)
    (hk : k ≤ dLen) (hc : ∀ j, j < news.length → (w.cell? ⟨b, off + j, none⟩).isSome = true) (hf : ∀ j, j < news.length → w.frozen? ⟨b, off + j, none⟩ = false) :
    (Builtin.copy_ #[t, t'] ty #[.slice (some ⟨b, off, none⟩) dLen cap', x]).run P w = .ok (goInt k) (w.setCells b off news) := by
  have hst := run_storeCells_cells (P := P) b off news 0 w (by simpa using hc) (by simpa using hf) hs.one
  simp only [Nat.add_zero] at hst
  have hmin : Nat.min k dLen = k := Nat.min_eq_left hk
  simp [Builtin.copy_, run_underlying hu, sizeOf, typeInfo, hi, hs.len, hs.cells, hmin, hst]
def exCo (T : Tab) (G : Nat) (S : AS) (e : Tr AV) (o : Oper) : Option (AV × AS) :=
  match o.op with
  | .call c => match c.callee, c.args.toList, c.argTypes.toList with
    | .builtin .copy, [x, q], [t, t'] => match T.und t with
      | some (.slice el) => match T.inf.get el with
        | some i => match rdA e q, rdA e x with
          | some u, some (.sl r k s n cap) => match srcA T S i.size t' u, S.rows.get r with
            | some (j, news), some R => cond (R.wr && Nat.beq s i.size && Nat.ble j n && Nat.ble (k * s + news.length) R.cells.length && Nat.ble G r && news.all AV.one)
                (some (.lit (goInt j), S.wr r R (k * s) news)) none
            | _, _ => none
          | _, _ => none
        | none => none
      | _ => none
    | _, _, _ => none
  | _ => none
theorem bi_turns {c : Call} {x q : Operand} {t t' : TypeId} {b : Builtin} {f : Array TypeId → TypeId → Array Value → Sem Value} (hf : ∀ ts ty cs as, builtin b ts ty cs as = do pure (.value (← f ts ty as))) (ho : o.op = .call c) (hc : c.callee = .builtin b)
    (hx : c.args.toList = [x, q]) (ht : c.argTypes.toList = [t, t']) {K : Value → World → Prop} {v : Value} {w' : World} (hr : (f #[t, t'] o.type #[a.eval x, a.eval q]).run P w = .ok v w') (h : K v w') : Turns P o a w K := by
  have hargs : c.args = #[x, q] := by rw [← Array.toArray_toList (xs := c.args), hx]
  have hts : c.argTypes = #[t, t'] := by rw [← Array.toArray_toList (xs := c.argTypes), ht]
  refine ⟨v, w', ?_, h⟩
  simp [execOp, ho, resolve, hc, invoke, hf, hargs, hts, hr]
theorem exCo_of (hT : TabOk P T) (hR : Rel w0 G y S w) (ha : Agr m env a) (h : EnvR y S.next e env) (hg : glsOk G o = true) {S' : AS} (hv : exCo T G S e o = some (v, S')) :
    Turns P o a w (Out w0 G y S S' v) := by
  unfold exCo at hv
  split at hv
  · rename_i c ho
    split at hv
    · rename_i x q t t' hc hx hts
      have hgx : ∀ z ∈ [x, q], glOk G z = true := fun z hz => List.all_eq_true.1 hg _ (by rw [ho]; simp only [Op.operands, Call.operands, Array.toList_append]; exact List.mem_append_right _ (by rw [hx]; exact hz))
      split at hv
      · rename_i el hd
        split at hv
        · rename_i i hi
          split at hv
          · rename_i u r k s n' cap hu hb
            split at hv
            · rename_i j news R hsrc hr
              cases hcd : (R.wr && Nat.beq s i.size && Nat.ble j n' && Nat.ble (k * s + news.length) R.cells.length && Nat.ble G r && news.all AV.one) <;> rw [hcd] at hv
              · cases hv
              cases (Option.some.inj hv)
              simp only [Bool.and_eq_true, Nat.ble_eq] at hcd
              obtain ⟨⟨⟨⟨⟨d0, d1⟩, d2⟩, d3⟩, d4⟩, d5⟩ := hcd
              have d1 := Nat.eq_of_beq_eq_true d1
              subst d1
              obtain ⟨e1, e2⟩ := h.eval ha hR.gl hR.gn hu (hgx q (by simp))
              obtain ⟨e3, _⟩ := h.eval ha hR.gl hR.gn hb (hgx x (by simp))
              obtain ⟨f1, f5⟩ := srcA_of hT hR e2 hsrc d5
              obtain ⟨_, _, hlies⟩ := hR.lies r R hr
              have hrun := copy_run (ty := o.type) (b := y.b r) (off := k * i.size) (cap' := cp y r k cap) (hT.und hd) (hT.inf el i hi) f1 d2
                (fun x hx => by
                  rw [gs_length] at hx
                  obtain ⟨u', hu'⟩ : ∃ u', R.cells[k * i.size + x]? = some u' := ⟨_, List.getElem?_eq_getElem (by omega)⟩
                  rw [hlies.cell (ARow.wr_m d0) hu']; rfl)
                (fun x hx => by rw [gs_length] at hx; exact hlies.frozen d0 (by omega))
              rw [AV.g] at e3
              refine bi_turns (f := Builtin.copy_) (fun _ _ _ _ => rfl) ho hc hx hts (by rw [e1, e3]; exact hrun) ?_
              exact ⟨y, hR.sets news hr d0 d3 f5 d4, Lay.same_refl _ _, Nat.le_refl _, rfl, rfl⟩
            · cases hv
          · cases hv
        · cases hv
      · cases hv
    · cases hv
  · cases hv
def exZ (T : Tab) (S : AS) (e : Tr AV) (o : Oper) : Option (AV × AS) :=
  match o.op with
  | .call c => match c.callee, c.args.toList, c.argTypes.toList with
    | .builtin .append, [x, q], [t, t'] => match T.und t, T.und t' with
      | some (.slice el), some (.int _) => match T.inf.get el with
        | some i => match i.zero, rdA e x, rdN e q with
          | some z, some (.lit (.slice none 0 0)), some k => cond (Nat.beq z.cells.size i.size && Nat.blt 0 i.size && Nat.blt 0 k && apFits i.bytes k)
              (some (.sl S.next 0 i.size k none, S.row el i.size (zrow z (k * i.size)))) none
          | _, _, _ => none
        | none => none
      | _, _ => none
    | _, _, _ => none
  | _ => none
theorem exZ_of (hT : TabOk P T) (hR : Rel w0 G y S w) (ha : Agr m env a) (h : EnvR y S.next e env) (hg : glsOk G o = true) {S' : AS} (hv : exZ T S e o = some (v, S')) :
    Turns P o a w (Out w0 G y S S' v) := by
  unfold exZ at hv
  split at hv
  · rename_i c ho
    split at hv
    · rename_i x q t t' hc hx hts
      have hgx : ∀ z ∈ [x, q], glOk G z = true := fun z hz => List.all_eq_true.1 hg _ (by rw [ho]; simp only [Op.operands, Call.operands, Array.toList_append]; exact List.mem_append_right _ (by rw [hx]; exact hz))
      split at hv
      · rename_i el ik hd hd'
        split at hv
        · rename_i i hi
          split at hv
          · rename_i z k hz hb hk
            cases hcd : (Nat.beq z.cells.size i.size && Nat.blt 0 i.size && Nat.blt 0 k && apFits i.bytes k) <;> rw [hcd] at hv
            · cases hv
            cases (Option.some.inj hv)
            simp only [Bool.and_eq_true, Nat.blt_eq] at hcd
            obtain ⟨⟨⟨d1, d2⟩, d3⟩, d4⟩ := hcd
            have d1 := Nat.eq_of_beq_eq_true d1
            obtain ⟨d5, d6⟩ := apFits_of d4
            obtain ⟨e3, _⟩ := h.eval ha hR.gl hR.gn hb (hgx x (by simp))
            obtain ⟨kk, e1⟩ := rdN_of ha h hR.gl hR.gn hk (hgx q (by simp))
            rw [AV.g] at e3
            have hrun := Lib.run_append_nil_zeros (P := P) w t t' o.type el i z kk ik (hT.und hd) (hT.und hd') (hT.inf el i hi) hz k d3 d2 (by omega) (by omega)
            refine ap_run ho hc hx hts (by rw [e1, e3]; exact hrun) ?_
            have hz1 : Builtin.zeroCells z.cells k = (AV.gs y (zrow z (k * i.size))).toArray := by rw [zrow_g, Builtin.zeroCells, d1]
            rw [hz1]
            exact hR.fresh d1 d2 d5 (by rw [zrow, List.length_map, List.length_range]) (zrow_lts _ _ _)
          · cases hv
        · cases hv
      · cases hv
    · cases hv
  · cases hv
def byteOf : AV → Option UInt8
  | .lit (.int .u8 (.ofNat n)) => cond (Nat.blt n 256) (some (UInt8.ofNat n)) none
  | _ => none
def bytesOf : List AV → Option (List UInt8)
  | [] => some []
  | v :: l => match byteOf v, bytesOf l with
    | some b, some bs => some (b :: bs)
    | _, _ => none
theorem byteOf_eq {v : AV} {b : UInt8} (h : byteOf v = some b) : v = .lit (.int .u8 b.toNat) := by
  unfold byteOf at h
  split at h
  · rename_i n
    cases hb : Nat.blt n 256 <;> rw [hb] at h
    · cases h
    · cases (Option.some.inj h)
      have : n < 256 := by simpa using hb
      rw [UInt8.toNat_ofNat_of_lt' this]
      rfl
  · cases h
theorem bytesOf_eq : ∀ {l : List AV} {bs : List UInt8}, bytesOf l = some bs → l = bs.map fun b => .lit (.int .u8 b.toNat)
  | [], bs, h => by cases (Option.some.inj h); rfl
  | v :: l, bs, h => by
    rw [bytesOf] at h
    split at h
    · rename_i b bs' hb hbs
      cases h
      rw [List.map_cons, byteOf_eq hb, ← bytesOf_eq hbs]
    · cases h
def rowBytes (S : AS) (r k n : Nat) : Option (List UInt8) := match S.rows.get r with
  | some R => cond (R.m.isNone && Nat.ble (k + n) R.cells.length) (bytesOf ((R.cells.drop k).take n)) none
  | none => none
theorem rowBytes_of (hR : Rel w0 G y S w) {r k n : Nat} {bs : List UInt8} (h : rowBytes S r k n = some bs) : bs.length = n ∧ ∀ j x, bs[j]? = some x → w.cell? ((⟨y.b r, k, none⟩ : Addr).add j) = some (.int .u8 x.toNat) := by
  unfold rowBytes at h
  split at h
  · rename_i R hr
    cases hb : (R.m.isNone && Nat.ble (k + n) R.cells.length) <;> rw [hb] at h
    · cases h
    simp only [Bool.and_eq_true, Nat.ble_eq] at hb
    have h0 : R.m = none := by simpa using hb.1
    have he := bytesOf_eq h
    have hl := congrArg List.length he
    rw [List.length_take, List.length_drop, List.length_map] at hl
    refine ⟨by omega, fun j x hx => hR.piece hr h0 k n j _ ?_⟩
    rw [he, AV.gs_map, List.map_map, List.getElem?_map, hx]
    rfl
  · cases h
theorem foldl_bytes (l : List UInt8) : ∀ s : ByteArray, (l.map fun b => (b.toNat : Int)).foldl (fun r n => r.push (UInt8.ofNat n.toNat)) s = ⟨s.data ++ l.toArray⟩ := by
  induction l with
  | nil => intro s; simp
  | cons b l ih =>
    intro s
    rw [List.map_cons, List.foldl_cons, ih]
    simp [ByteArray.push, Int.toNat_natCast, UInt8.ofNat_toNat]
def exBS (T : Tab) (S : AS) (e : Tr AV) (o : Oper) : Option AV :=
  match o.op with
  | .convert s d x => match T.und s, T.und d with
    | some (.slice el), some .string => match T.und el, rdA e x with
      | some (.int .u8), some (.sl r k sz n _) => cond (Nat.beq sz 1) (match rowBytes S r k n with | some bs => some (.lit (.string ⟨bs.toArray⟩)) | none => none) none
      | _, _ => none
    | _, _ => none
  | _ => none
theorem exBS_of (hT : TabOk P T) (hR : Rel w0 G y S w) (ha : Agr m env a) (h : EnvR y S.next e env) (hg : glsOk G o = true) (hv : exBS T S e o = some v) :
    Turns P o a w (Out w0 G y S S v) := by
  unfold exBS at hv
  split at hv
  · rename_i s d x ho
    split at hv
    · rename_i el hs hd
      split at hv
      · rename_i r k sz n' c hel hx
        cases hb : Nat.beq sz 1 <;> rw [hb] at hv
        · cases hv
        have := Nat.eq_of_beq_eq_true hb
        subst this
        simp only [cond] at hv
        split at hv
        · rename_i bs hbs
          cases hv
          obtain ⟨e1, _⟩ := h.eval ha hR.gl hR.gn hx (List.all_eq_true.1 hg x (by rw [ho]; simp [Op.operands]))
          obtain ⟨h1, h2⟩ := rowBytes_of hR hbs
          rw [AV.g, Nat.mul_one] at e1
          have hl := run_loadCells_list (P := P) w ⟨y.b r, k, none⟩ (bs.map fun b => Value.int .u8 b.toNat) (fun j u hu => by
            rw [List.getElem?_map] at hu
            cases hj : bs[j]? with
            | none => rw [hj] at hu; cases hu
            | some b => rw [hj] at hu; cases hu; exact h2 j b hj)
          rw [List.length_map, h1] at hl
          have hc := run_bytesToString (P := P) w ⟨y.b r, k, none⟩ n' (cp y r k c) (bs.map fun b => (b.toNat : Int)) (by rw [hl, List.map_map]; rfl)
          rw [foldl_bytes] at hc
          refine ⟨_, w, ?_, y, hR, Lay.same_refl _ _, Nat.le_refl _, rfl, rfl⟩
          have := run_convert_bytes_string (P := P) w s d el (some ⟨y.b r, k, none⟩) n' (cp y r k c) (hT.und hs) (hT.und hel) (hT.und hd)
          rw [hc] at this
          simp only [execOp, ho, e1, Sem.run_bind, this, Result.andThen_ok, Sem.run_pure]
          simp [AV.g]
        · cases hv
      · cases hv
    · cases hv
  · cases hv
def exSB (T : Tab) (S : AS) (e : Tr AV) (o : Oper) : Option (AV × AS) :=
  match o.op with
  | .convert s d x => match T.und s, T.und d with
    | some .string, some (.slice el) => match T.und el, rdA e x with
      | some (.int .u8), some (.lit (.string b)) => cond (Nat.ble b.size 16777216) (some (.sl S.next 0 1 b.size none, S.row el 1 (bytesA b))) none
      | _, _ => none
    | _, _ => none
  | _ => none
theorem stringToBytes_run (el : TypeId) (s : ByteArray) (w : World) : (Conv.stringToBytes el s).run P w = .ok (.slice (some ⟨w.heap.size, 0, none⟩) s.size (grownCap w s.size 0 el))
    ((w.drew.alloc (.cells ((byteCells s).toArray ++ Array.replicate (grownCap w s.size 0 el - s.size) (.int .u8 0)) el)).freeze ⟨w.heap.size, (byteCells s).length + (grownCap w s.size 0 el - s.size), none⟩ 1) := by
  have hc : (s.data.map fun b => Value.int .u8 b.toNat) = (byteCells s).toArray := by
    apply Array.ext'
    simp [byteCells]
  have hsh : ∀ c : Array Value, (w.drew.alloc (.cells c el)).shape? w.heap.size = some (el, c.size) := fun c => by
    simp only [World.shape?]
    rw [show (w.drew.alloc (.cells c el)).heap[w.heap.size]? = some (.cells c el) from heap_alloc_new w.drew _]
  simp [Conv.stringToBytes, hc, Question.forced, newRow, markStringish, hsh, grownCap]
theorem exSB_of (hT : TabOk P T) (hR : Rel w0 G y S w) (ha : Agr m env a) (h : EnvR y S.next e env) (hg : glsOk G o = true) {S' : AS} (hv : exSB T S e o = some (v, S')) :
    Turns P o a w (Out w0 G y S S' v) := by
  unfold exSB at hv
  split at hv
  · rename_i s d x ho
    split at hv
    · rename_i el hs hd
      split at hv
      · rename_i b hel hx
        cases hb : Nat.ble b.size 16777216 <;> rw [hb] at hv
        · cases hv
        cases (Option.some.inj hv)
        have hb : b.size ≤ 16777216 := by simpa using hb
        obtain ⟨e1, _⟩ := h.eval ha hR.gl hR.gn hx (List.all_eq_true.1 hg x (by rw [ho]; simp [Op.operands]))
        rw [AV.g] at e1
        have hrun := stringToBytes_run (P := P) el b w
        refine ⟨_, _, by simp only [execOp, ho, e1, Sem.run_bind, convert, run_underlying (hT.und hs), run_underlying (hT.und hd), run_underlying (hT.und hel), hrun, Result.andThen_ok, Sem.run_pure]; rfl, ?_⟩
        have hge := grownCap_ge w b.size 0 el
        have hle := grownCap_le_maxLen w b.size 0 el (max_of hb)
        have hbl := byteCells_length b
        have hblk : ((w.drew.alloc (.cells ((byteCells b).toArray ++ Array.replicate (grownCap w b.size 0 el - b.size) (.int .u8 0)) el)).freeze ⟨w.heap.size, (byteCells b).length + (grownCap w b.size 0 el - b.size), none⟩ 1).heap[w.heap.size]? =
            some (.cells ((byteCells b).toArray ++ Array.replicate (grownCap w b.size 0 el - b.size) (.int .u8 0)) el ((byteCells b).length + (grownCap w b.size 0 el - b.size), (byteCells b).length + (grownCap w b.size 0 el - b.size) + 1)) := by
          simp only [World.freeze, Nat.one_ne_zero, if_false, Array.getElem?_modify, if_true]
          rw [show (w.drew.alloc (.cells ((byteCells b).toArray ++ Array.replicate (grownCap w b.size 0 el - b.size) (.int .u8 0)) el)).heap[w.heap.size]? = some (.cells _ el) from heap_alloc_new w.drew _]
          rfl
        have hx2 : Ext no w ((w.drew.alloc (.cells ((byteCells b).toArray ++ Array.replicate (grownCap w b.size 0 el - b.size) (.int .u8 0)) el)).freeze ⟨w.heap.size, (byteCells b).length + (grownCap w b.size 0 el - b.size), none⟩ 1) := by
          have h1 := (Ext.drew w).trans (Ext.alloc w.drew (.cells ((byteCells b).toArray ++ Array.replicate (grownCap w b.size 0 el - b.size) (.int .u8 0)) el))
          refine h1.then (M' := onl w.heap.size) ⟨rfl, rfl, rfl, by simp [World.freeze], fun k _ hn => ?_⟩ fun i hi hm => ?_
          · simp only [World.freeze, Nat.one_ne_zero, if_false, Array.getElem?_modify]
            rw [if_neg (fun e => hn (show k = w.heap.size from e.symm))]
          · have : i = w.heap.size := hm
            omega
        obtain ⟨y', q1, q2, q3, q4⟩ := hR.row (t := el) (s := 1) (c := grownCap w b.size 0 el) (b := w.heap.size) (l := bytesA b) (by omega)
          (by rw [Array.size_append, List.size_toArray, Array.size_replicate, hbl]; omega) hle (by rw [Array.size_append, List.size_toArray, hbl, bytesA, List.length_map, Array.length_toList]; exact Nat.le_trans (Nat.le_refl b.size) (Nat.le_add_right _ _))
          (by rw [bytesA_g, Array.toList_append]
              have : (bytesA b).length = (byteCells b).length := by rw [← bytesA_g y, gs_length]
              rw [this]
              exact List.take_left) (bytesA_lts _ _) hx2 (.inr (by rw [Array.size_append, List.size_toArray, Array.size_replicate]; exact Nat.le_refl _)) hblk (Nat.le_refl _)
        refine ⟨y', q1, q2, Nat.le_succ _, by simp [AV.lt, AS.row], ?_⟩
        rw [AV.g, q3, cp, q4, Nat.zero_mul, Nat.sub_zero]
      · cases hv
    · cases hv
  · cases hv
def exSS (T : Tab) (G : Nat) (S : AS) (e : Tr AV) (o : Oper) : Option AV :=
  match o.op with
  | .convert s d x => match T.und s, rdA e x with
    | some (.slice el), some (.sl r k z n c) => match T.und el, S.rows.get r with
      | some (.int .u8), some R => cond (Nat.beq s d && Nat.ble G r && Nat.blt 0 R.s) (some (.sl r k z n c)) none
      | _, _ => none
    | _, _ => none
  | _ => none
theorem Rel.markOn (h : Rel w0 G y S w) {r : Nat} {R : ARow} (hr : S.rows.get r = some R) (hG : G ≤ r) (hs : R.s ≠ 0) : ∃ w', (markStringish ⟨y.b r, 0, none⟩).run P w = .ok () w' ∧ Rel w0 G y S w' ∧ ∀ k, markStringish ⟨y.b r, k, none⟩ = markStringish ⟨y.b r, 0, none⟩ := by
  obtain ⟨k1, k2, hl⟩ := h.lies r R hr
  have hown := h.own r R hr hG
  unfold Lies at hl
  rw [if_neg hs] at hl
  obtain ⟨cur, fr, hb, hfr, hsz, hm, hle, ht⟩ := hl
  have hsh : w.shape? (y.b r) = some (R.t, cur.size) := by simp [World.shape?, hb]
  refine ⟨w.freeze ⟨y.b r, cur.size, none⟩ 1, by simp [markStringish, hsh], ?_, fun k => rfl⟩
  have hx := Ext.freeze w ⟨y.b r, cur.size, none⟩ 1
  obtain ⟨fr', hb', hfr'⟩ : ∃ fr' : Nat × Nat, (w.freeze ⟨y.b r, cur.size, none⟩ 1).heap[y.b r]? = some (.cells cur R.t fr') ∧ cur.size ≤ fr'.1 := by
    obtain ⟨lo, hi⟩ := fr
    by_cases hlh : lo = hi
    · refine ⟨(cur.size, cur.size + 1), ?_, Nat.le_refl _⟩
      subst hlh
      simp [World.freeze, Array.getElem?_modify, hb]
    · refine ⟨(min lo cur.size, max hi (cur.size + 1)), ?_, ?_⟩
      · simp [World.freeze, Array.getElem?_modify, hb, hlh]
      · rcases hfr with h0 | h0
        · simp only [Prod.mk.injEq] at h0
          exact absurd (h0.1.trans h0.2.symm) hlh
        · simp only at h0 ⊢
          omega
  refine ⟨h.ext.then hx fun i hi hm => ?_, h.gl, fun q Q hq => ?_, h.own, h.inj, h.gn, h.gz⟩
  · have : i = y.b r := hm
    rw [this]
    exact hown
  · obtain ⟨q1, q2, q3⟩ := h.lies q Q hq
    by_cases e : q = r
    · subst e
      rw [hr] at hq
      cases hq
      refine ⟨q1, q2, ?_⟩
      unfold Lies
      rw [if_neg hs]
      exact ⟨cur, fr', hb', .inr hfr', hsz, hm, hle, ht⟩
    · exact ⟨q1, q2, q3.ext hx fun hm => e (h.inj q r Q R hq hr hm)⟩
theorem exSS_of (hT : TabOk P T) (hR : Rel w0 G y S w) (ha : Agr m env a) (h : EnvR y S.next e env) (hg : glsOk G o = true) (hv : exSS T G S e o = some v) :
    Turns P o a w (Out w0 G y S S v) := by
  unfold exSS at hv
  split at hv
  · rename_i s d x ho
    split at hv
    · rename_i el r k z n' c hs hx
      split at hv
      · rename_i R hel hr
        cases hb : (Nat.beq s d && Nat.ble G r && Nat.blt 0 R.s) <;> rw [hb] at hv
        · cases hv
        cases (Option.some.inj hv)
        simp only [Bool.and_eq_true, Nat.ble_eq, Nat.blt_eq] at hb
        obtain ⟨⟨b1, b2⟩, b3⟩ := hb
        have b1 := Nat.eq_of_beq_eq_true b1
        subst b1
        obtain ⟨e1, e2⟩ := h.eval ha hR.gl hR.gn hx (List.all_eq_true.1 hg x (by rw [ho]; simp [Op.operands]))
        obtain ⟨w', h1, h2, h3⟩ := hR.markOn (P := P) hr b2 (by omega)
        have h4 := h3 (k * z)
        rw [AV.g] at e1
        refine ⟨(AV.sl r k z n' c).g y, w', ?_, y, h2, Lay.same_refl _ _, Nat.le_refl _, e2, rfl⟩
        have hc : (convert s s (.slice (some ⟨y.b r, k * z, none⟩) n' (cp y r k c))).run P w = .ok (.slice (some ⟨y.b r, k * z, none⟩) n' (cp y r k c)) w' := by
          simp only [convert, Sem.run_bind, run_underlying (hT.und hs), Result.andThen_ok, beq_self_eq_true, run_underlying (hT.und hel), h4, h1, Sem.run_pure]
        simp only [execOp, ho, e1, Sem.run_bind, hc, Result.andThen_ok, Sem.run_pure, AV.g]
      · cases hv
    · cases hv
  · cases hv
end
end
end Go.Cx
namespace Go.Cx
open Go Go.Sx Go.RowKit
noncomputable section
def Skips (P : Program) (o : Oper) (a : Act) (w : World) (K : World → Prop) : Prop := ∃ w', (execOp a.eval o).run P w = .ok .skip w' ∧ K w'
def findA (d : TypeDesc) (k : Value) : List Value → List AV → Nat → Option (Option (Nat × AV))
  | [], [], _ => some none
  | key :: ks, v :: vs, i => match Instr.sameNow d k key with
    | some true => some (some (i, v))
    | some false => findA d k ks vs (i + 1)
    | none => none
  | _, _, _ => none
def plainKey : TypeDesc → Bool
  | .int _ => true
  | .string => true
  | _ => false
def mapRow (S : AS) (r : Nat) : Option (ARow × List Value) := match S.rows.get r with
  | some R => match R.m with
    | some ks => cond (Nat.beq R.s 0) (some (R, ks)) none
    | none => none
  | none => none
def exLk (T : Tab) (S : AS) (e : Tr AV) (o : Oper) : Option AV :=
  match o.op with
  | .lookup t x k ok => match T.und t, rdA e x, rdA e k with
    | some (.map kt el), some (.mp r), some (.lit kv) => match T.und kt, mapRow S r with
      | some d, some (R, ks) => cond (plainKey d) (match findA d kv ks R.cells 0 with
        | some (some (_, v)) => some (cond ok (.tup [v, .lit (.bool true)]) v)
        | some none => match T.inf.get el with
          | some i => match i.zero with
            | some z => some (cond ok (.tup [.lit z, .lit (.bool false)]) (.lit z))
            | none => none
          | none => none
        | none => none) none
      | _, _ => none
    | _, _, _ => none
  | _ => none
def upd : Op → Option (TypeId × Operand × Operand × Operand)
  | .mapUpdate t x k z => some (t, x, k, z)
  | .insert t x k z => some (t, x, k, z)
  | _ => none
theorem upd_eq {o : Oper} {t : TypeId} {x k z : Operand} (h : upd o.op = some (t, x, k, z)) : (∀ ρ, execOp ρ o = do Instr.mapUpdate t (ρ x) (ρ k) (ρ z); pure .skip) ∧ o.op.operands.toList = [x, k, z] := by
  unfold upd at h
  split at h
  · rename_i ho; cases h; exact ⟨fun ρ => by simp only [execOp, ho], by rw [ho]; rfl⟩
  · rename_i ho; cases h; exact ⟨fun ρ => by simp only [execOp, ho], by rw [ho]; rfl⟩
  · cases h
def exUp (T : Tab) (G : Nat) (S : AS) (e : Tr AV) (o : Oper) : Option AS :=
  match upd o.op with
  | some (t, x, k, z) => match T.und t, rdA e x, rdA e k, rdA e z with
    | some (.map kt _), some (.mp r), some (.lit kv), some v => match T.und kt, mapRow S r with
      | some d, some (R, ks) => cond (plainKey d && Nat.ble G r) (match findA d kv ks R.cells 0 with
        | some (some (i, _)) => some ⟨S.rows.put (dp r) r (some ⟨R.t, R.s, R.cells.set i v, some (ks.set i kv)⟩), S.next⟩
        | some none => some ⟨S.rows.put (dp r) r (some ⟨R.t, R.s, R.cells ++ [v], some (ks ++ [kv])⟩), S.next⟩
        | none => none) none
      | _, _ => none
    | _, _, _, _ => none
  | _ => none
def exNm (S : AS) (o : Oper) : Option (AV × AS) :=
  match o.op with
  | .makeMap _ none => some (.mp S.next, ⟨S.rows.put (dp S.next) S.next (some ⟨0, 0, [], some []⟩), S.next + 1⟩)
  | _ => none
section
variable {P : Program} {T : Tab} {y : Lay} {m n G : Nat} {e : Tr AV} {env : Env} {a : Act} {o : Oper} {v : AV} {w0 : Frm} {w : World} {S : AS}
theorem checkKey_plain {kt : TypeId} {d : TypeDesc} (hu : P.underlying kt = some d) (hd : plainKey d = true) (b : Bool) (v : Value) (w : World) : (Instr.checkKey b 10000 kt v).run P w = .ok () w := by
  have key : ∀ f, (Instr.checkKey b (f + 1) kt v).run P w = .ok () w := fun f => by
    unfold Instr.checkKey
    rw [Sem.run_bind, run_underlying hu, Result.andThen_ok]
    cases d <;> first | rfl | cases hd
  exact key 9999
theorem findA_now (y : Lay) {d : TypeDesc} {k : Value} : ∀ {es : List MapEntry} {ks : List Value} {vs : List AV} {i : Nat} {r : Option (Nat × AV)}, es.map (·.key) = ks → es.map (·.val) = AV.gs y vs → findA d k ks vs i = some r →
    Instr.findNow d k es i = some (r.map fun p => (p.1, p.2.g y))
  | [], ks, vs, i, r, h1, h2, h => by
    cases h1
    cases vs with
    | nil => cases (Option.some.inj h); rfl
    | cons v vs => cases h2
  | en :: es, ks, vs, i, r, h1, h2, h => by
    cases h1
    cases vs with
    | nil => cases h2
    | cons v vs =>
      rw [List.map_cons, AV.gs, List.cons.injEq] at h2
      rw [List.map_cons, findA] at h
      rw [Instr.findNow]
      split at h
      · rename_i hs
        cases (Option.some.inj h)
        rw [hs, h2.1]
        rfl
      · rename_i hs
        rw [hs]
        exact findA_now y rfl h2.2 h
      · cases h
theorem findA_get {d : TypeDesc} {k : Value} : ∀ {ks : List Value} {vs : List AV} {i j : Nat} {v : AV}, findA d k ks vs i = some (some (j, v)) → i ≤ j ∧ vs[j - i]? = some v ∧ ∃ key, ks[j - i]? = some key ∧ Instr.sameNow d k key = some true
  | [], vs, i, j, v, h => by cases vs <;> cases h
  | key :: ks, [], i, j, v, h => by cases h
  | key :: ks, u :: vs, i, j, v, h => by
    rw [findA] at h
    split at h
    · rename_i hs
      cases h
      exact ⟨Nat.le_refl _, by simp, key, by simp, hs⟩
    · obtain ⟨h1, h2, key', h3, h4⟩ := findA_get h
      have : j - i = (j - (i + 1)) + 1 := by omega
      exact ⟨by omega, by rw [this]; simpa using h2, key', by rw [this]; simpa using h3, h4⟩
    · cases h
theorem mapRow_eq {r : Nat} {R : ARow} {ks : List Value} (h : mapRow S r = some (R, ks)) : S.rows.get r = some R ∧ R.m = some ks ∧ R.s = 0 := by
  unfold mapRow at h
  split at h
  · rename_i R' hr
    split at h
    · rename_i ks' hk
      cases hb : Nat.beq R'.s 0 <;> rw [hb] at h
      · cases h
      · cases (Option.some.inj h)
        exact ⟨hr, hk, Nat.eq_of_beq_eq_true hb⟩
    · cases h
  · cases h
theorem Rel.map (h : Rel w0 G y S w) {r : Nat} {R : ARow} {ks : List Value} (hr : mapRow S r = some (R, ks)) :
    ∃ (es : Array MapEntry) (clock : Nat), w.heap[y.b r]? = some (.map es clock) ∧ es.toList.map (·.key) = ks ∧ es.toList.map (·.val) = AV.gs y R.cells := by
  obtain ⟨h1, h2, h3⟩ := mapRow_eq hr
  obtain ⟨_, _, h4⟩ := h.lies r R h1
  unfold Lies at h4
  rw [if_pos h3, h2] at h4
  exact h4
theorem getObj_map {b : Nat} {es : Array MapEntry} {ck : Nat} (h : w.heap[b]? = some (.map es ck)) : (getObj b).run P w = .ok (.map es ck) w := by
  simp [getObj, Sem.run, h]
theorem litOf_eval (ha : Agr m env a) (h : EnvR y n e env) {x : Operand} {v : Value} (hx : rdA e x = some (.lit v)) : a.eval x = v := by
  cases x with
  | tmp t => exact ha.eval (x := .tmp t) (by rw [rdO, h.tmp, show e.get t = some (.lit v) from hx]; rfl)
  | const u => cases (Option.some.inj hx : AV.lit u = .lit v); rfl
  | global g => cases (Option.some.inj hx)
  | func f => cases (Option.some.inj hx)
theorem exLk_of (hT : TabOk P T) (hR : Rel w0 G y S w) (ha : Agr m env a) (h : EnvR y S.next e env) (hg : glsOk G o = true) (hv : exLk T S e o = some v) :
    Cx.Reads P o a w (v.g y) ∧ v.lt S.next = true := by
  unfold exLk at hv
  split at hv
  · rename_i t x k ok ho
    split at hv
    · rename_i kt el r kv hu hx hk
      split at hv
      · rename_i d R ks hd hr
        cases hp : plainKey d <;> rw [hp] at hv
        · cases hv
        simp only [cond] at hv
        obtain ⟨es, ck, hb, hks, hvs⟩ := hR.map hr
        obtain ⟨hr1, _, _⟩ := mapRow_eq hr
        obtain ⟨_, hlt, _⟩ := hR.lies r R hr1
        obtain ⟨e1, _⟩ := h.eval ha hR.gl hR.gn hx (List.all_eq_true.1 hg x (by rw [ho]; simp [Op.operands]))
        have e2 := litOf_eval ha h hk
        rw [AV.g] at e1
        have pack : ∀ {u : AV}, (Instr.lookup t (a.eval x) (a.eval k) ok).run P w = .ok (u.g y) w → u.lt S.next = true → Cx.Reads P o a w (u.g y) ∧ u.lt S.next = true := fun {u} hrun hl => by
          refine ⟨⟨[.r (Instr.lookup t (a.eval x) (a.eval k) ok) (u.g y)], fun w' hw' => ?_, fun z hz => ?_⟩, hl⟩
          · have : (Instr.lookup t (a.eval x) (a.eval k) ok).run P w' = .ok (u.g y) w' := hw' _ (List.mem_singleton.2 rfl)
            simp [execOp, ho, this]
          · rw [List.mem_singleton] at hz
            subst hz
            exact hrun
        have run : ∀ {q : Option (Nat × AV)}, findA d kv ks R.cells 0 = some q → ∀ {z : Value}, (q = none → ∃ i, P.info? el = some i ∧ i.zero = some z) →
            (Instr.lookup t (a.eval x) (a.eval k) ok).run P w = .ok (match q with | some (_, u) => if ok then .tuple #[u.g y, .bool true] else u.g y | none => if ok then .tuple #[z, .bool false] else z) w := by
          intro q hq z hz
          have hn := findA_now y hks hvs hq
          rw [e1, e2]
          cases q with
          | none =>
            obtain ⟨i, hi, hiz⟩ := hz rfl
            simp only [Option.map_none] at hn
            simp [Instr.lookup, run_underlying (hT.und hu), getObj_map hb, checkKey_plain (hT.und hd) hp, Instr.findKey, run_underlying (hT.und hd), hn, zeroValue, typeInfo, hi, hiz]
          | some q =>
            simp only [Option.map_some] at hn
            simp [Instr.lookup, run_underlying (hT.und hu), getObj_map hb, checkKey_plain (hT.und hd) hp, Instr.findKey, run_underlying (hT.und hd), hn]
        split at hv
        · rename_i j u hf
          cases (Option.some.inj hv)
          obtain ⟨_, hget, _⟩ := findA_get hf
          have hul := AV.lts_all _ hlt u (List.mem_of_getElem? hget)
          have hrun := run hf (z := undef) (fun h => by cases h)
          cases ok
          · exact pack hrun hul
          · exact pack (u := .tup [u, .lit (.bool true)]) (by simpa [AV.g, AV.gs] using hrun) (by simp [AV.lt, AV.lts, hul])
        · rename_i hf
          split at hv
          · rename_i i hi
            split at hv
            · rename_i z hz
              cases (Option.some.inj hv)
              have hrun := run hf (z := z) (fun _ => ⟨i, hT.inf el i hi, hz⟩)
              cases ok
              · exact pack (u := .lit z) hrun rfl
              · exact pack (u := .tup [.lit z, .lit (.bool false)]) (by simpa [AV.g, AV.gs] using hrun) (by simp [AV.lt, AV.lts])
            · cases hv
          · cases hv
        · cases hv
      · cases hv
    · cases hv
  · cases hv
theorem ba_eq {a b : ByteArray} : (a == b) = true ↔ a = b := by
  cases a
  cases b
  rename_i x y
  constructor
  · intro h
    have h : (x == y) = true := h
    rw [eq_of_beq h]
  · intro h
    cases h
    exact (beq_self_eq_true x : (x == x) = true)
theorem sameBits_of {d : TypeDesc} {k key : Value} (h : Instr.sameNow d k key = some true) (f : Nat) : Instr.sameBits f key k = true ∧ key = k := by
  unfold Instr.sameNow at h
  split at h
  · rename_i k1 a1 k2 a2
    split at h
    · rename_i hk
      have h := Option.some.inj h
      subst hk
      have : a1 = a2 := by simpa using h
      subst this
      refine ⟨?_, rfl⟩
      cases f <;> simp [Instr.sameBits]
    · cases h
  · rename_i a1 a2
    have h := Option.some.inj h
    have : a1 = a2 := ba_eq.1 h
    subst this
    refine ⟨?_, rfl⟩
    cases f <;> (simp only [Instr.sameBits]; exact ba_eq.2 rfl)
  · rename_i a1 a2
    have h := Option.some.inj h
    have : a1 = a2 := by simpa using h
    subst this
    refine ⟨?_, rfl⟩
    cases f <;> simp [Instr.sameBits]
  · cases h
theorem Rel.remap (h : Rel w0 G y S w) {r : Nat} {R : ARow} (hr : S.rows.get r = some R) (hG : G ≤ r) {R' : ARow} {w' : World} (hx : Ext (onl (y.b r)) w w') (hl : AV.lts S.next R'.cells = true) (hL : Lies y r R' w') :
    Rel w0 G y ⟨S.rows.put (dp r) r (some R'), S.next⟩ w' := by
  have hown := h.own r R hr hG
  have sub : ∀ q Q, (S.rows.put (dp r) r (some R')).get q = some Q → (q = r ∧ Q = R') ∨ (q ≠ r ∧ S.rows.get q = some Q) := fun q Q hq => by
    rw [Tr.put_get] at hq
    by_cases e : q = r
    · rw [if_pos e] at hq; exact .inl ⟨e, (Option.some.inj hq).symm⟩
    · rw [if_neg e] at hq; exact .inr ⟨e, hq⟩
  have old : ∀ q Q, (S.rows.put (dp r) r (some R')).get q = some Q → ∃ Q', S.rows.get q = some Q' := fun q Q hq => by
    rcases sub q Q hq with ⟨rfl, _⟩ | ⟨_, h1⟩
    · exact ⟨R, hr⟩
    · exact ⟨Q, h1⟩
  refine ⟨h.ext.then hx fun i hi hm => ?_, h.gl, fun q Q hq => ?_, fun q Q hq hGq => ?_, fun q q' Q Q' h1 h2 e => ?_, h.gn, h.gz⟩
  · have : i = y.b r := hm
    rw [this]
    exact hown
  · rcases sub q Q hq with ⟨rfl, rfl⟩ | ⟨hne, h1⟩
    · exact ⟨(h.lies q R hr).1, hl, hL⟩
    · obtain ⟨k1, k2, k3⟩ := h.lies q Q h1
      exact ⟨k1, k2, k3.ext hx fun hm => hne (h.inj q r Q R h1 hr hm)⟩
  · obtain ⟨Q', hQ'⟩ := old q Q hq
    exact h.own q Q' hQ' hGq
  · obtain ⟨Q1, g1⟩ := old q Q h1
    obtain ⟨Q2, g2⟩ := old q' Q' h2
    exact h.inj q q' Q1 Q2 g1 g2 e
theorem setObj_map {b : Nat} {es : Array MapEntry} {ck : Nat} (h : w.heap[b]? = some (.map es ck)) (o' : Obj) : (setObj b o').run P w = .ok () { w with heap := w.heap.setIfInBounds b o' } := by
  simp [setObj, Sem.run, h]
theorem Ext.obj (w : World) (b : Nat) (o' : Obj) : Ext (onl b) w { w with heap := w.heap.setIfInBounds b o' } :=
  ⟨rfl, rfl, rfl, by simp, fun k _ hn => by
    have : b ≠ k := fun e => hn e.symm
    simp [Array.getElem?_setIfInBounds_ne this]⟩
theorem exUp_of (hT : TabOk P T) (hR : Rel w0 G y S w) (ha : Agr m env a) (h : EnvR y S.next e env) (hg : glsOk G o = true) {S' : AS} (hv : exUp T G S e o = some S') :
    Skips P o a w (fun w' => Rel w0 G y S' w' ∧ S'.next = S.next) := by
  unfold exUp at hv
  split at hv
  · rename_i t x k z ho
    split at hv
    · rename_i kt el r kv v hu hx hk hz
      split at hv
      · rename_i d R ks hd hr
        cases hp : (plainKey d && Nat.ble G r) <;> rw [hp] at hv
        · cases hv
        rw [Bool.and_eq_true, Nat.ble_eq] at hp
        simp only [cond] at hv
        obtain ⟨es, ck, hb, hks, hvs⟩ := hR.map hr
        obtain ⟨hr1, hr2, hr3⟩ := mapRow_eq hr
        obtain ⟨_, hlt, _⟩ := hR.lies r R hr1
        obtain ⟨hop, hops⟩ := upd_eq ho
        have hgo : ∀ q ∈ [x, k, z], glOk G q = true := fun q hq => List.all_eq_true.1 hg q (by rw [hops]; exact hq)
        obtain ⟨e1, _⟩ := h.eval ha hR.gl hR.gn hx (hgo x (by simp))
        have e2 := litOf_eval ha h hk
        obtain ⟨e3, e4⟩ := h.eval ha hR.gl hR.gn hz (hgo z (by simp))
        rw [AV.g] at e1
        have hlt' := blk_lt hb
        split at hv
        · rename_i j u hf
          cases (Option.some.inj hv)
          have hn := findA_now y hks hvs hf
          obtain ⟨_, hget, key, hkey, hsame⟩ := findA_get hf
          rw [Nat.sub_zero] at hget hkey
          obtain ⟨hbits, hkk⟩ := sameBits_of hsame 10000
          subst hkk
          have hek : (es[j]?).map (·.key) = some key := by
            rw [← hks, List.getElem?_map] at hkey
            simpa using hkey
          have hgd : ((es[j]?).map (·.key)).getD key = key := by rw [hek]; rfl
          refine ⟨{ w with heap := w.heap.setIfInBounds (y.b r) (.map (es.modify j fun e => { e with key := key, val := v.g y }) ck) }, ?_, ?_, rfl⟩
          · simp only [Option.map_some] at hn
            simp [hop, e1, e2, e3, Instr.mapUpdate, run_underlying (hT.und hu), getObj_map hb, checkKey_plain (hT.und hd) hp.1, Instr.findKey, run_underlying (hT.und hd), hn, hgd, Instr.keyThatStays, hbits, setObj_map hb]
          · refine hR.remap hr1 hp.2 (Ext.obj w _ _) (AV.all_lts _ fun q hq => ?_) ?_
            · rcases List.mem_or_eq_of_mem_set hq with hq | rfl
              · exact AV.lts_all _ hlt q hq
              · exact e4
            · unfold Lies
              rw [if_pos hr3]
              refine ⟨es.modify j fun e => { e with key := key, val := v.g y }, ck, by simp [hlt'], ?_, ?_⟩
              · apply List.ext_getElem?
                intro q
                rw [← hks] at hkey ⊢
                simp only [Array.toList_modify, List.getElem?_map, List.getElem?_modify, List.getElem?_set, List.length_map, Array.length_toList, Array.getElem?_toList]
                by_cases hq : j = q
                · subst hq
                  rw [List.getElem?_map, Array.getElem?_toList] at hkey
                  cases hes : es[j]? with
                  | none => rw [hes] at hkey; cases hkey
                  | some en =>
                    have := (Array.getElem?_eq_some_iff.1 hes).1
                    simp [this]
                · simp [hq]
              · rw [gs_set, ← hvs]
                apply List.ext_getElem?
                intro q
                simp only [Array.toList_modify, List.getElem?_map, List.getElem?_modify, List.getElem?_set, List.length_map, Array.length_toList, Array.getElem?_toList]
                by_cases hq : j = q
                · subst hq
                  cases hes : es[j]? with
                  | none => rw [hes] at hek; cases hek
                  | some en =>
                    have := (Array.getElem?_eq_some_iff.1 hes).1
                    simp [this]
                · simp [hq]
        · rename_i hf
          cases (Option.some.inj hv)
          have hn := findA_now y hks hvs hf
          refine ⟨{ w with heap := w.heap.setIfInBounds (y.b r) (.map (es.push { key := kv, val := v.g y, born := ck }) (ck + 1)) }, ?_, ?_, rfl⟩
          · simp only [Option.map_none] at hn
            simp [hop, e1, e2, e3, Instr.mapUpdate, run_underlying (hT.und hu), getObj_map hb, checkKey_plain (hT.und hd) hp.1, Instr.findKey, run_underlying (hT.und hd), hn, setObj_map hb]
          · refine hR.remap hr1 hp.2 (Ext.obj w _ _) (AV.all_lts _ fun q hq => ?_) ?_
            · rcases List.mem_append.1 hq with hq | hq
              · exact AV.lts_all _ hlt q hq
              · rw [List.mem_singleton.1 hq]; exact e4
            · unfold Lies
              rw [if_pos hr3]
              refine ⟨es.push { key := kv, val := v.g y, born := ck }, ck + 1, by simp [hlt'], by simp [hks], ?_⟩
              rw [gs_append, ← hvs]
              simp [AV.gs]
        · cases hv
      · cases hv
    · cases hv
  · cases hv
theorem exNm_of (hR : Rel w0 G y S w) {S' : AS} (hv : exNm S o = some (v, S')) : Turns P o a w (Out w0 G y S S' v) := by
  unfold exNm at hv
  split at hv
  · rename_i t ho
    cases (Option.some.inj hv)
    refine ⟨.map (some w.heap.size), w.alloc (.map #[] 0), by simp [execOp, ho, Instr.makeMap], ?_⟩
    have hb := hR.born (w' := w.alloc (.map #[] 0)) (Ext.alloc w _) (b := w.heap.size) (c := 0) (Nat.le_refl _) (R := ⟨0, 0, [], some []⟩) rfl ?_
    · refine ⟨_, hb.1, hb.2, Nat.le_succ _, by simp [AV.lt], by simp [AV.g]⟩
    · unfold Lies
      rw [if_pos rfl]
      simp only [if_true]
      exact ⟨#[], 0, Array.getElem?_push_size, rfl, rfl⟩
  · cases hv
end
end
end Go.Cx
namespace Go.Cx
open Go Go.Sx Go.RowKit
noncomputable section
def objTop (P : Program) (T : Tab) (S : AS) (r k : Nat) (u : TypeId) : Bool := match S.rows.get r, T.sz u with
  | some R, some z => R.wr && Nat.beq R.s 0 && Nat.blt 0 z && Nat.blt k R.cells.length && liesAt P P.depth R.t (R.cells.length / P.cellsOf R.t) k u 1
  | _, _ => false
def exPt (P : Program) (T : Tab) (S : AS) (e : Tr AV) (o : Oper) : Option AV :=
  match o.op with
  | .convert s d x => match T.und s, T.und d, rdA e x with
    | some (.pointer u), some .unsafePointer, some (.ptr r k) => cond (objTop P T S r k u) (some (.ptr r k)) none
    | some .unsafePointer, some (.pointer u), some (.ptr r k) => cond (objTop P T S r k u) (some (.ptr r k)) none
    | _, _, _ => none
  | .call c => match c.callee, c.args.toList with
    | .builtin .unsafeSliceData, [x] => match rdA e x with
      | some (.sl r i s _ q) => cond (hasRoom S r i s q 1) (some (.ptr r (i * s))) none
      | _ => none
    | _, _ => none
  | .binOp op t x z _ => match T.und t, rdA e x, rdA e z with
    | some (.pointer el), some (.ptr r k), some (.ptr r' k') => match T.sz el with
      | some sz => cond (Nat.beq r r' && Nat.blt 0 sz) (match op with
        | .eql => some (.lit (.bool (Nat.beq k k')))
        | .neq => some (.lit (.bool (!Nat.beq k k')))
        | _ => none) none
      | none => none
    | _, _, _ => none
  | _ => none
def exUs (T : Tab) (G : Nat) (S : AS) (e : Tr AV) (o : Oper) : Option (AV × AS) :=
  match o.op with
  | .call c => match c.callee, c.args.toList, c.argTypes.toList with
    | .builtin .unsafeString, [x, q], [pt, _] => match rdA e x, rdA e q with
      | some (.ptr r 0), some (.lit (.int .i64 (.ofNat j))) => match rowBytes S r 0 j, T.und pt, S.rows.get r with
        | some bs, some (.pointer el), some R => cond (R.wr && Nat.blt 0 j && Nat.beq R.t el && (match T.sz el with | some z => Nat.beq z 1 | none => false) && Nat.ble G r && Nat.ble j 16777216) (some (.lit (.string ⟨bs.toArray⟩), S.kill r)) none
        | _, _, _ => none
      | _, _ => none
    | _, _, _ => none
  | _ => none
section
variable {P : Program} {T : Tab} {y : Lay} {m n G : Nat} {e : Tr AV} {env : Env} {a : Act} {o : Oper} {v : AV} {w0 : Frm} {w : World} {S : AS}
theorem Rel.top (hT : TabOk P T) (h : Rel w0 G y S w) {r k : Nat} {u : TypeId} (ho : objTop P T S r k u = true) :
    ∃ (cs : Array Value) (t : TypeId), w.heap[y.b r]? = some (.cells cs t (0, 0)) ∧ k < cs.size ∧ 0 < szOf P u ∧ hasT P u = true ∧ liesAt P P.depth t (cs.size / P.cellsOf t) k u 1 = true := by
  unfold objTop at ho
  split at ho
  · rename_i R z hr hz
    simp only [Bool.and_eq_true, Nat.blt_eq] at ho
    obtain ⟨⟨⟨⟨h0, h1⟩, h4⟩, h5⟩, h6⟩ := ho
    have h1 := Nat.eq_of_beq_eq_true h1
    obtain ⟨k1, k2⟩ := hT.hasT hz
    obtain ⟨_, _, hl⟩ := h.lies r R hr
    unfold Lies at hl
    rw [if_pos h1, ARow.wr_m h0] at hl
    simp only [if_neg (ARow.wr_t h0 h1)] at hl
    exact ⟨_, _, hl, by rw [List.size_toArray, gs_length]; exact h5, by omega, k1, by rw [List.size_toArray, gs_length]; exact h6⟩
  · cases ho
theorem cellsOf_sz {u : TypeId} (h : hasT P u = true) : P.cellsOf u = szOf P u := by
  unfold Sx.hasT at h
  unfold Program.cellsOf szOf
  cases hi : P.info? u with
  | none => rw [hi] at h; cases h
  | some i => rfl
theorem exPt_of (hT : TabOk P T) (hR : Rel w0 G y S w) (ha : Agr m env a) (h : EnvR y S.next e env) (hg : glsOk G o = true) (hv : exPt P T S e o = some v) :
    Turns P o a w (Out w0 G y S S v) := by
  have ev : ∀ {x : Operand} {u : AV}, x ∈ o.op.operands.toList → rdA e x = some u → a.eval x = u.g y ∧ u.lt S.next = true := fun hx hu => h.eval ha hR.gl hR.gn hu (List.all_eq_true.1 hg _ hx)
  have out : ∀ {u : AV}, u.lt S.next = true → Out w0 G y S S u (u.g y) w := fun hu => ⟨y, hR, Lay.same_refl _ _, Nat.le_refl _, hu, rfl⟩
  unfold exPt at hv
  split at hv
  · rename_i s d x ho
    obtain hop : o.op.operands.toList = [x] := by rw [ho]; rfl
    split at hv
    · rename_i u r k hs hd hx
      cases hb : objTop P T S r k u <;> rw [hb] at hv
      · cases hv
      cases (Option.some.inj hv)
      obtain ⟨cs, t, hbk, hk, hz, hh, _⟩ := hR.top hT hb
      obtain ⟨e1, e2⟩ := ev (x := x) (by rw [hop]; simp) hx
      rw [AV.g] at e1
      have hsh : w.shape? (y.b r) = some (t, cs.size) := by simp [World.shape?, hbk]
      have h1 : ¬ szOf P u = 0 := by omega
      have h2 : ¬ cs.size ≤ k := by omega
      refine ⟨_, w, ?_, out e2⟩
      simp [execOp, ho, e1, convert, run_underlying (hT.und hs), run_underlying (hT.und hd), Conv.unsafePointer, Conv.seenAt, viewAt, cellsIn, hsh, hasT_of hh, h1, h2, AV.g]
    · rename_i u r k hs hd hx
      cases hb : objTop P T S r k u <;> rw [hb] at hv
      · cases hv
      cases (Option.some.inj hv)
      obtain ⟨cs, t, hbk, hk, hz, hh, hl⟩ := hR.top hT hb
      obtain ⟨e1, e2⟩ := ev (x := x) (by rw [hop]; simp) hx
      rw [AV.g] at e1
      have hsh : w.shape? (y.b r) = some (t, cs.size) := by simp [World.shape?, hbk]
      have h1 : ¬ szOf P u = 0 := by omega
      refine ⟨_, w, ?_, out e2⟩
      simp [execOp, ho, e1, convert, run_underlying (hT.und hs), run_underlying (hT.und hd), Conv.unsafePointer, Conv.seenAt, viewAt, hsh, hasT_of hh, h1, variablesAt, hl, AV.g]
    · cases hv
  · rename_i c ho
    split at hv
    · rename_i x hc hx
      have hargs : c.args = #[x] := by rw [← Array.toArray_toList (xs := c.args), hx]
      split at hv
      · rename_i r i s k q hu
        cases hb : hasRoom S r i s q 1 <;> rw [hb] at hv
        · cases hv
        cases (Option.some.inj hv)
        obtain ⟨e1, e2⟩ := ev (x := x) (by rw [ho]; simp [Op.operands, Call.operands, hargs]) hu
        rw [AV.g] at e1
        have hcap : cp y r i q ≠ 0 := by have := hR.has hb; omega
        have hrun := fun ts ty => Lib.run_unsafeSliceData_row (P := P) w ts ty ⟨y.b r, i * s, none⟩ k (cp y r i q) hcap
        refine ⟨_, w, ?_, out (u := .ptr r (i * s)) e2⟩
        simp [execOp, ho, resolve, hc, hargs, invoke, builtin, e1, hrun, AV.g]
      · cases hv
    · cases hv
  · rename_i op t x z t' ho
    split at hv
    · rename_i el r k r' k' hd hx hz
      split at hv
      · rename_i sz hsz
        cases hb : (Nat.beq r r' && Nat.blt 0 sz) <;> rw [hb] at hv
        · cases hv
        simp only [Bool.and_eq_true, Nat.blt_eq] at hb
        obtain ⟨b1, b2⟩ := hb
        have b1 := Nat.eq_of_beq_eq_true b1
        subst b1
        obtain ⟨e1, _⟩ := ev (x := x) (by rw [ho]; simp [Op.operands]) hx
        obtain ⟨e2, _⟩ := ev (x := z) (by rw [ho]; simp [Op.operands]) hz
        rw [AV.g] at e1 e2
        obtain ⟨k1, k2⟩ := hT.hasT hsz
        have h0 : ¬ szOf P el = 0 := by omega
        have heq : (Op.equal t (a.eval x) (a.eval z)).run P w = .ok (Nat.beq k k') w := by
          rw [e1, e2]
          have key : ∀ f, (Op.equalIn (f + 1) t (.pointer (some ⟨y.b r, k, none⟩)) (.pointer (some ⟨y.b r, k', none⟩))).run P w = .ok (Nat.beq k k') w := fun f => by
            have hbb : ((⟨y.b r, k, none⟩ : Addr) == ⟨y.b r, k', none⟩) = Nat.beq k k' := by
              cases hq : Nat.beq k k'
              · have : k ≠ k' := fun e => by rw [e] at hq; simp at hq
                simp [this]
              · have := Nat.eq_of_beq_eq_true hq
                subst this
                simp
            simp [Op.equalIn, run_underlying (hT.und hd), hasT_of k1, h0, sameAddr, hbb]
          exact key 9999
        have grd : ∀ op x' z', (eqGuard op t x' z' (a.eval x) (a.eval z)).run P w = .ok () w := fun op x' z' => by rw [e1, e2]; exact guard_int (by simp) (by simp) w
        have q1 : Go.binOp .eql t (a.eval x) (a.eval z) = (do pure (.bool (← Op.equal t (a.eval x) (a.eval z)))) := by rw [e1, e2]; rfl
        have q2 : Go.binOp .neq t (a.eval x) (a.eval z) = (do pure (.bool (!(← Op.equal t (a.eval x) (a.eval z))))) := by rw [e1, e2]; rfl
        simp only [cond] at hv
        split at hv
        · cases hv
          refine ⟨_, w, ?_, out (u := .lit (.bool (Nat.beq k k'))) rfl⟩
          simp [execOp, ho, grd, q1, heq, AV.g]
        · cases hv
          refine ⟨_, w, ?_, out (u := .lit (.bool (!Nat.beq k k'))) rfl⟩
          simp [execOp, ho, grd, q2, heq, AV.g]
        · cases hv
      · cases hv
    · cases hv
  · cases hv
theorem Rel.killOn (h : Rel w0 G y S w) {r : Nat} {R : ARow} (hr : S.rows.get r = some R) (hG : G ≤ r) {w' : World} (hx : Ext (onl (y.b r)) w w') : Rel w0 G y (S.kill r) w' := by
  have hown := h.own r R hr hG
  have sub : ∀ q Q, (S.kill r).rows.get q = some Q → q ≠ r ∧ S.rows.get q = some Q := fun q Q hq => by
    rw [AS.kill] at hq
    simp only [Tr.put_get] at hq
    by_cases e : q = r
    · rw [if_pos e] at hq; cases hq
    · rw [if_neg e] at hq; exact ⟨e, hq⟩
  refine ⟨h.ext.then hx fun i hi hm => ?_, h.gl, fun q Q hq => ?_, fun q Q hq => h.own q Q (sub q Q hq).2, fun q q' Q Q' h1 h2 => h.inj q q' Q Q' (sub q Q h1).2 (sub q' Q' h2).2, h.gn, h.gz⟩
  · have : i = y.b r := hm
    rw [this]
    exact hown
  · obtain ⟨hne, h1⟩ := sub q Q hq
    obtain ⟨k1, k2, k3⟩ := h.lies q Q h1
    exact ⟨k1, k2, k3.ext hx fun hm => hne (h.inj q r Q R h1 hr hm)⟩
theorem exUs_of (hT : TabOk P T) (hR : Rel w0 G y S w) (ha : Agr m env a) (h : EnvR y S.next e env) (hg : glsOk G o = true) {S' : AS} (hv : exUs T G S e o = some (v, S')) :
    Turns P o a w (Out w0 G y S S' v) := by
  unfold exUs at hv
  split at hv
  · rename_i c ho
    split at hv
    · rename_i x q pt it hc hx hts
      have hgx : ∀ z ∈ [x, q], glOk G z = true := fun z hz => List.all_eq_true.1 hg _ (by rw [ho]; simp only [Op.operands, Call.operands, Array.toList_append]; exact List.mem_append_right _ (by rw [hx]; exact hz))
      split at hv
      · rename_i r j hxr hq
        split at hv
        · rename_i bs el R hbs hd hr
          cases hb : (R.wr && Nat.blt 0 j && Nat.beq R.t el && (match T.sz el with | some z => Nat.beq z 1 | none => false) && Nat.ble G r && Nat.ble j 16777216) <;> rw [hb] at hv
          · cases hv
          cases (Option.some.inj hv)
          simp only [Bool.and_eq_true, Nat.blt_eq, Nat.ble_eq] at hb
          obtain ⟨⟨⟨⟨⟨b0, b1⟩, b2⟩, b3⟩, b4⟩, b5⟩ := hb
          have b2 := Nat.eq_of_beq_eq_true b2
          have hcell : P.cellsOf el = 1 := by
            split at b3
            · rename_i z hz
              obtain ⟨k1, k2⟩ := hT.hasT hz
              rw [cellsOf_sz k1, k2]
              exact Nat.eq_of_beq_eq_true b3
            · cases b3
          obtain ⟨e1, _⟩ := h.eval ha hR.gl hR.gn hxr (hgx x (by simp))
          have e2 := litOf_eval ha h hq
          rw [AV.g] at e1
          obtain ⟨hbl, hbc⟩ := rowBytes_of hR hbs
          have hsh : ∃ k, w.shape? (y.b r) = some (el, k) ∧ j ≤ k := by
            have hm : R.m = none ∧ j ≤ R.cells.length := by
              unfold rowBytes at hbs
              rw [hr] at hbs
              simp only at hbs
              cases hb : (R.m.isNone && Nat.ble (0 + j) R.cells.length) <;> rw [hb] at hbs
              · cases hbs
              · simp only [Bool.and_eq_true, Nat.ble_eq] at hb
                exact ⟨by simpa using hb.1, by omega⟩
            obtain ⟨_, _, hl⟩ := hR.lies r R hr
            unfold Lies at hl
            split at hl
            · rename_i h0
              rw [hm.1] at hl
              simp only [if_neg (ARow.wr_t b0 h0)] at hl
              exact ⟨_, by simp [World.shape?, hl, b2]; rfl, by rw [gs_length]; exact hm.2⟩
            · obtain ⟨cur, fr, hbk, _, _, _, hle, _⟩ := hl
              exact ⟨cur.size, by simp [World.shape?, hbk, b2], by omega⟩
          obtain ⟨k, hsh, hjk⟩ := hsh
          have hrun := Lib.run_unsafeString_row (P := P) w pt it o.type el (hT.und hd) hcell (y.b r) k hsh bs (by intro h0; rw [h0] at hbl; simp at hbl; omega) (by omega) (by omega) hbc
          rw [hbl] at hrun
          refine bi_turns (f := Builtin.unsafeString_) (fun _ _ _ _ => rfl) ho hc hx hts (by rw [e1, e2]; exact hrun) ?_
          exact ⟨y, hR.killOn hr b4 (Ext.freeze w ⟨y.b r, 0, none⟩ j), Lay.same_refl _ _, Nat.le_refl _, rfl, rfl⟩
        · cases hv
      · cases hv
    · cases hv
  · cases hv
end
end
end Go.Cx
namespace Go.Cx
open Go Go.Sx Go.RowKit
noncomputable section
def aggD : TypeDesc → Bool
  | .struct _ => true
  | .array _ _ => true
  | .pointer _ => true
  | _ => false
def ptrD : TypeDesc → Bool
  | .pointer _ => true
  | _ => false
def methA (T : Tab) (S : AS) (t : TypeId) (v : AV) (name : String) : Option (FuncId × AV) :=
  match T.inf.get t with
  | some i => match i.methods.toList.find? (·.name == name) with
    | some m => match m.func with
      | some (k, p) => match m.path.toList with
        | [] => match T.und t with
          | some d => cond (cond p (ptrD d) (!ptrD d)) (some (k, v)) none
          | none => none
        | [s] => match T.und s.struct, v with
          | some (.struct fs), .ptr r o => match fs.toList[s.index]? with
            | some f => match T.sz f.type, T.und f.type, S.rows.get r with
              | some z, some d, some R => cond (s.deref && !p && !Nat.beq z 0 && !aggD d && R.m.isNone) (match R.cells[o + f.offset]? with | some u => some (k, u) | none => none) none
              | _, _, _ => none
            | none => none
          | _, _ => none
        | _ => none
      | none => none
    | none => none
  | none => none
def calleeA (T : Tab) (S : AS) (e : Tr AV) (c : Call) : Option (FuncId × List AV) :=
  match c.callee with
  | .value f => match rdA e f, c.args.toList.mapM (rdA e) with
    | some (.fn k fs cs), some vs => some (k, fs ++ vs ++ cs)
    | _, _ => none
  | .invoke r name => match rdA e r, c.args.toList.mapM (rdA e) with
    | some (.ifc t v), some vs => match methA T S t v name with
      | some (k, u) => some (k, u :: vs)
      | none => none
    | _, _ => none
  | .builtin _ => none
def exX (T : Tab) (e : Tr AV) (o : Oper) : Option AV :=
  match o.op with
  | .call c => match c.callee with
    | .value f => match rdA e f, c.args.toList.mapM (rdA e) with
      | some (.fn k [] []), some vs => match T.ext.get k with
        | some g => g vs
        | none => none
      | _, _ => none
    | _ => none
  | _ => none
section
variable {P : Program} {T : Tab} {y : Lay} {m n G : Nat} {e : Tr AV} {env : Env} {a : Act} {o : Oper} {v : AV} {w0 : Frm} {w : World} {S : AS}
theorem methA_of (hT : TabOk P T) (hR : Rel w0 G y S w) {t : TypeId} {name : String} (hv : v.lt S.next = true) {k : FuncId} {u : AV} (h : methA T S t v name = some (k, u)) :
    (∀ f, (method (f + 1) t (v.g y) name).run P w = .ok (k, u.g y) w) ∧ u.lt S.next = true := by
  unfold methA at h
  split at h
  · rename_i i hi
    split at h
    · rename_i mt hm
      have hm' : i.methods.find? (·.name == name) = some mt := by rw [← Array.find?_toList]; exact hm
      split at h
      · rename_i k' p hf
        split at h
        · rename_i hp
          split at h
          · rename_i d hd
            cases hb : cond p (ptrD d) (!ptrD d) <;> rw [hb] at h
            · cases h
            cases (Option.some.inj h)
            have hpd : ptrD d = p := by cases p <;> cases hq : ptrD d <;> rw [hq] at hb <;> first | rfl | cases hb
            refine ⟨fun f => ?_, hv⟩
            have hpe : mt.path = #[] := by rw [← Array.toArray_toList (xs := mt.path), hp]
            unfold method
            rw [Sem.run_bind]
            simp only [typeInfo, Sem.run_bind, run_program, hT.inf t i hi, Result.andThen_ok, Sem.run_pure, hm', hf, hpe, follow, receiverAt, und_run (hT.und hd)]
            cases d <;> (first | (simp only [ptrD] at hpd; subst hpd; simp [Place.get]))
          · cases h
        · rename_i s hp
          split at h
          · rename_i fs r o' hus
            split at h
            · rename_i fd hfd
              split at h
              · rename_i z d R hz hd hr
                cases hb : (s.deref && !p && !Nat.beq z 0 && !aggD d && R.m.isNone) <;> rw [hb] at h
                · cases h
                simp only [Bool.and_eq_true, Bool.not_eq_true'] at hb
                obtain ⟨⟨⟨⟨b1, b2⟩, b3⟩, b4⟩, b5⟩ := hb
                have b5 : R.m = none := by simpa using b5
                simp only [cond] at h
                split at h
                · rename_i u' hu
                  cases h
                  obtain ⟨c1, c2⟩ := hR.load hr b5 hu
                  obtain ⟨k1, k2⟩ := hT.hasT hz
                  have hz0 : ¬ szOf P fd.type = 0 := by
                    rw [k2]
                    intro e0
                    rw [e0] at b3
                    cases b3
                  have hfs : fs[s.index]? = some fd := by simpa using hfd
                  have hag : (isAgg fd.type).run P w = .ok false w := by
                    have h1 : (P.underlying fd.type).isSome = true := by rw [hT.und hd]; rfl
                    rw [isAggT_run h1]
                    unfold isAggT
                    rw [hT.und hd]
                    cases d <;> first | rfl | cases b4
                  refine ⟨fun f => ?_, c2⟩
                  unfold method
                  simp only [typeInfo, Sem.run_bind, run_program, hT.inf t i hi, Result.andThen_ok, Sem.run_pure, hm', hf, hp, follow, und_run (hT.und hus), hfs, b1, if_true, Place.get, AV.g, asAddr, fieldPlace, hasT_of k1, hz0, if_false, Addr.add_off, receiverAt, und_run (hT.und hd), b2]
                  have hld : (loadVar fd.type ⟨y.b r, o' + fd.offset, none⟩).run P w = .ok (u.g y) w := by
                    simp only [loadVar, Sem.run_bind, hag, Result.andThen_ok]
                    simp [c1]
                  cases d <;> first | (cases b4; done) | simp [Place.get, hld]
                · cases h
              · cases h
            · cases h
          · cases h
        · cases h
      · cases h
    · cases h
  · cases h
theorem calleeA_of (hT : TabOk P T) (hR : Rel w0 G y S w) (ha : Agr m env a) (h : EnvR y S.next e env) {c : Call} (ho : o.op = .call c) (hg : glsOk G o = true) {k : FuncId} {vs : List AV} (hv : calleeA T S e c = some (k, vs)) :
    AV.lts S.next vs = true ∧ (callOk P k = true → (execOp a.eval o).run P w = .ok (.enter k (AV.gs y vs).toArray) w) := by
  unfold calleeA at hv
  split at hv
  · rename_i f hc
    have hgs : ∀ x ∈ f :: c.args.toList, glOk G x = true := fun x hx => List.all_eq_true.1 hg _ (by rw [ho]; simpa [Op.operands, Call.operands, hc] using hx)
    split at hv
    · rename_i k' fs cs us hf hvs
      cases hv
      obtain ⟨h1, h2⟩ := h.eval ha hR.gl hR.gn hf (hgs f (by simp))
      obtain ⟨h3, h4⟩ := mapM_rdA ha h hR.gl hR.gn hvs (List.all_eq_true.2 fun x hx => hgs x (List.mem_cons_of_mem _ hx))
      rw [AV.lt, Bool.and_eq_true] at h2
      rw [AV.g] at h1
      exact ⟨lts_append' (lts_append' h2.1 h4) h2.2, fun hok => by simp [execOp, ho, resolve, hc, h1, Deferred.ofValue, invoke, callOk_run hok, map_list, h3, gs_append]⟩
    · cases hv
  · rename_i r name hc
    have hgs : ∀ x ∈ r :: c.args.toList, glOk G x = true := fun x hx => List.all_eq_true.1 hg _ (by rw [ho]; simpa [Op.operands, Call.operands, hc] using hx)
    split at hv
    · rename_i t u us hr hvs
      split at hv
      · rename_i k' u' hm
        cases hv
        obtain ⟨h1, h2⟩ := h.eval ha hR.gl hR.gn hr (hgs r (by simp))
        obtain ⟨h3, h4⟩ := mapM_rdA ha h hR.gl hR.gn hvs (List.all_eq_true.2 fun x hx => hgs x (List.mem_cons_of_mem _ hx))
        rw [AV.g] at h1
        obtain ⟨q1, q2⟩ := methA_of hT hR (v := u) h2 hm
        have q1 : (method (P.types.size + Made.depth) t (u.g y) name).run P w = .ok (k, u'.g y) w := q1 (P.types.size + 99)
        refine ⟨by rw [AV.lts, q2, h4]; rfl, fun hok => ?_⟩
        simp [execOp, ho, resolve, hc, h1, invoke, callMethod, q1, callOk_run hok, map_list, h3, AV.gs]
      · cases hv
    · cases hv
  · cases hv
theorem exX_of (hT : TabOk P T) (hR : Rel w0 G y S w) (ha : Agr m env a) (h : EnvR y S.next e env) (hg : glsOk G o = true) (hv : exX T e o = some v) : Makes P o a (v.g y) ∧ v.lt S.next = true := by
  unfold exX at hv
  split at hv
  · rename_i c ho
    split at hv
    · rename_i f hc
      have hgs : ∀ x ∈ f :: c.args.toList, glOk G x = true := fun x hx => List.all_eq_true.1 hg _ (by rw [ho]; simpa [Op.operands, Call.operands, hc] using hx)
      split at hv
      · rename_i k vs hf hvs
        split at hv
        · rename_i g hgk
          obtain ⟨h1, _⟩ := h.eval ha hR.gl hR.gn hf (hgs f (by simp))
          obtain ⟨h3, h4⟩ := mapM_rdA ha h hR.gl hR.gn hvs (List.all_eq_true.2 fun x hx => hgs x (List.mem_cons_of_mem _ hx))
          rw [AV.g] at h1
          obtain ⟨q1, q2⟩ := hT.ext k g hgk vs v hv y S.next h4
          refine ⟨fun w => ?_, q1⟩
          have := q2 w
          simp [execOp, ho, resolve, hc, h1, Deferred.ofValue, invoke, map_list, h3, AV.gs, this]
        · cases hv
      · cases hv
    · cases hv
  · cases hv
end
end
end Go.Cx
namespace Go.Cx
open Go Go.Sx Go.RowKit
noncomputable section
def posI : Int → Bool
  | .ofNat n => !Nat.beq n 0
  | .negSucc _ => false
theorem posI_iff {n : Int} : posI n = decide (0 < n) := by
  cases n with
  | ofNat n => cases n with
    | zero => rfl
    | succ k =>
      have h : (0 : Int) < Int.ofNat (k + 1) := Int.natCast_pos.2 (Nat.succ_pos k)
      rw [decide_eq_true h]
      rfl
  | negSucc n => simp [posI]
def eqI : Int → Int → Bool
  | .ofNat n, .ofNat m => Nat.beq n m
  | .negSucc n, .negSucc m => Nat.beq n m
  | _, _ => false
theorem eqI_iff {x z : Int} : eqI x z = decide (x = z) := by
  cases x with
  | ofNat n => cases z with
    | ofNat m =>
      by_cases h : n = m
      · subst h; simp [eqI]
      · have : ¬ (Int.ofNat n = Int.ofNat m) := fun h0 => h (by injection h0)
        rw [decide_eq_false this]
        exact beqF h
    | negSucc m => simp [eqI]
  | negSucc n => cases z with
    | ofNat m => simp [eqI]
    | negSucc m =>
      by_cases h : n = m
      · subst h; simp [eqI]
      · have : ¬ (Int.negSucc n = Int.negSucc m) := fun h0 => h (by injection h0)
        rw [decide_eq_false this]
        exact beqF h
def intF (op : BinOp) (k : IntKind) (x z : Int) : Option Value := match op with
  | .add => some (.int k (k.wrap (x + z)))
  | .sub => some (.int k (k.wrap (x - z)))
  | .mul => some (.int k (k.wrap (x * z)))
  | .eql => some (.bool (eqI x z))
  | .neq => some (.bool (!eqI x z))
  | .lss => some (.bool (posI (z - x)))
  | .gtr => some (.bool (posI (x - z)))
  | .leq => some (.bool (!posI (x - z)))
  | .geq => some (.bool (!posI (z - x)))
  | _ => none
def bytesEq : List UInt8 → List UInt8 → Bool
  | [], [] => true
  | a :: l, b :: m => cond (Nat.beq a.toNat b.toNat) (bytesEq l m) false
  | _, _ => false
theorem bytesEq_iff : ∀ {l m : List UInt8}, bytesEq l m = decide (l = m)
  | [], [] => by simp [bytesEq]
  | [], b :: m => by simp [bytesEq]
  | a :: l, [] => by simp [bytesEq]
  | a :: l, b :: m => by
    rw [bytesEq]
    by_cases h : a = b
    · subst h
      rw [beqT rfl, cond_true, bytesEq_iff]
      simp
    · rw [beqF (fun h0 => h (UInt8.toNat_inj.1 h0)), cond_false]
      simp [h]
def strF (op : BinOp) (x z : ByteArray) : Option Value := match op with
  | .eql => some (.bool (bytesEq x.data.toList z.data.toList))
  | .neq => some (.bool (!bytesEq x.data.toList z.data.toList))
  | _ => none
def exBo (op : BinOp) : Value → Value → Option Value
  | .int k x, .int j z => cond (decide (k = j)) (intF op k x z) none
  | .string a, .string b => strF op a b
  | _, _ => none
theorem toList_data (a b : ByteArray) : (a.toList == b.toList) = bytesEq a.data.toList b.data.toList := by
  rw [← beq_toListBytes, bytesEq_iff]
  cases h : (a == b)
  · have : ¬ a = b := fun h0 => by rw [ba_eq.2 h0] at h; cases h
    symm
    rw [decide_eq_false_iff_not]
    intro h1
    refine this ?_
    cases a
    cases b
    rename_i x z
    have : x.toList = z.toList := h1
    rw [Array.toList_inj.1 this]
  · rw [ba_eq.1 h]
    simp
section
variable {P : Program} {T : Tab} {y : Lay} {m n G : Nat} {e : Tr AV} {env : Env} {a : Act} {o : Oper} {v : AV}
theorem exBo_of {op : BinOp} {u u' r : Value} (h : exBo op u u' = some r) (t : TypeId) (w : World) :
    (∀ x x', (eqGuard op t x x' u u').run P w = .ok () w) ∧ (Go.binOp op t u u').run P w = .ok r w := by
  unfold exBo at h
  split at h
  · rename_i k x j z
    cases hb : decide (k = j) <;> rw [hb] at h
    · cases h
    have hk : k = j := by simpa using hb
    subst hk
    refine ⟨fun _ _ => guard_int (by simp) (by simp) w, ?_⟩
    simp only [cond_true] at h
    have e1 : (x == z) = eqI x z := by rw [eqI_iff]; rfl
    have e2 : (x != z) = !eqI x z := by rw [eqI_iff]; rfl
    have e3 : decide (x < z) = posI (z - x) := by rw [posI_iff]; congr 1; apply propext; omega
    have e4 : decide (x > z) = posI (x - z) := by rw [posI_iff]; congr 1; apply propext; omega
    have e5 : decide (x ≤ z) = !posI (x - z) := by
      rw [posI_iff]
      by_cases hh : x ≤ z
      · rw [decide_eq_true hh, decide_eq_false (by omega)]; rfl
      · rw [decide_eq_false hh, decide_eq_true (by omega)]; rfl
    have e6 : decide (x ≥ z) = !posI (z - x) := by
      rw [posI_iff]
      by_cases hh : x ≥ z
      · rw [decide_eq_true hh, decide_eq_false (by omega)]; rfl
      · rw [decide_eq_false hh, decide_eq_true (by omega)]; rfl
    unfold intF at h
    split at h <;> first
      | (cases h; done)
      | (cases (Option.some.inj h); simp [Go.binOp, Op.intArith, Op.intCmp, e1, e2]; done)
      | (cases (Option.some.inj h); simp only [Go.binOp, Op.intCmp, e3, e4, e5, e6]; simp)
  · rename_i b1 b2
    refine ⟨fun _ _ => guard_int (by simp) (by simp) w, ?_⟩
    unfold strF at h
    split at h
    · cases h
      simp [Go.binOp, Op.stringOp, toList_data]
    · cases h
      simp [Go.binOp, Op.stringOp, toList_data]
    · cases h
  · cases h
def boF (e : Tr AV) (op : BinOp) (x z : Operand) : Option AV := match rdA e x with
  | some (.lit u) => match rdA e z with
    | some (.lit u') => match exBo op u u' with
      | some r => some (.lit r)
      | none => none
    | _ => none
  | _ => none
theorem boF_of (ha : Agr m env a) (h : EnvR y n e env) {op : BinOp} {t t' : TypeId} {x z : Operand} (ho : o.op = .binOp op t x z t') (hv : boF e op x z = some v) : Makes P o a (v.g y) ∧ v.lt n = true := by
  unfold boF at hv
  split at hv
  · rename_i u hu
    split at hv
    · rename_i u' hu'
      split at hv
      · rename_i r hr
        cases hv
        have e1 := litOf_eval ha h hu
        have e2 := litOf_eval ha h hu'
        refine ⟨fun w => bin_run ho (fun w => ?_) (fun w => ?_) w, rfl⟩
        · rw [e1, e2]; exact (exBo_of hr t w).1 _ _
        · rw [e1, e2]; exact (exBo_of hr t w).2
      · cases hv
    · cases hv
  · cases hv
def cvF (T : Tab) (e : Tr AV) (s d : TypeId) (x : Operand) : Option AV := match rdA e x with
  | some (.lit (.int _ i)) => match T.und d with
    | some (.int k) => match T.und s with
      | some _ => some (.lit (.int k (k.wrap i)))
      | none => none
    | _ => none
  | _ => none
theorem cvF_of (hT : TabOk P T) (ha : Agr m env a) (h : EnvR y n e env) {s d : TypeId} {x : Operand} (ho : o.op = .convert s d x) (hv : cvF T e s d x = some v) : Makes P o a (v.g y) ∧ v.lt n = true := by
  unfold cvF at hv
  split at hv
  · rename_i k0 i hu
    split at hv
    · rename_i k hd
      split at hv
      · rename_i ds hs
        cases hv
        have e1 := litOf_eval ha h hu
        refine ⟨fun w => ?_, rfl⟩
        simp [execOp, ho, e1, convert, run_underlying (hT.und hs), run_underlying (hT.und hd), Conv.intToInt, AV.g]
      · cases hv
    · cases hv
  · cases hv
def ixF (T : Tab) (e : Tr AV) (t : TypeId) (x i : Operand) : Option AV := match rdA e x with
  | some (.lit (.string s)) => match T.und t with
    | some .string => match rdN e i with
      | some j => match nth s.data.toList j with
        | some b => some (.lit (.int .u8 b.toNat))
        | none => none
      | none => none
    | _ => none
  | _ => none
theorem ixF_of (hT : TabOk P T) (ha : Agr m env a) (h : EnvR y n e env) (hG : ∀ r, r < G → y.b r = r) (hn : G ≤ n) (hg : glsOk G o = true) {t : TypeId} {x i : Operand} (ho : o.op = .index t x i) (hv : ixF T e t x i = some v) : Makes P o a (v.g y) ∧ v.lt n = true := by
  unfold ixF at hv
  split at hv
  · rename_i s hu
    split at hv
    · rename_i hd
      split at hv
      · rename_i j hj
        split at hv
        · rename_i b hb
          cases hv
          have e1 := litOf_eval ha h hu
          obtain ⟨k, e2⟩ := rdN_of ha h hG hn hj (List.all_eq_true.1 hg i (by rw [ho]; simp [Op.operands]))
          have hb2 : s[j]? = some b := by
            rw [nth_eq] at hb
            have h1 : s.data[j]? = some b := by simpa using hb
            have hlt : j < s.size := (Array.getElem?_eq_some_iff.1 h1).1
            rw [getElem?_pos s j hlt]
            obtain ⟨_, h2⟩ := Array.getElem?_eq_some_iff.1 h1
            exact congrArg some h2
          refine ⟨fun w => ?_, rfl⟩
          simp [execOp, ho, Instr.index, e1, e2, run_underlying (hT.und hd), asIntOf, hb2, AV.g]
        · cases hv
      · cases hv
    · cases hv
  · cases hv
def lnF (T : Tab) (e : Tr AV) (t : TypeId) (x : Operand) : Option AV := match rdA e x with
  | some (.lit (.string s)) => match T.und t with
    | some .string => some (.lit (.int .i64 (Int.ofNat s.data.toList.length)))
    | _ => none
  | some (.sl _ _ _ n _) => match T.und t with
    | some (.slice _) => some (.lit (.int .i64 (Int.ofNat n)))
    | _ => none
  | _ => none
theorem lnF_of (hT : TabOk P T) (ha : Agr m env a) (h : EnvR y n e env) (hG : ∀ r, r < G → y.b r = r) (hn : G ≤ n) (hg : glsOk G o = true) {c : Call} {t : TypeId} {x : Operand} (ho : o.op = .call c) (hc : c.callee = .builtin .len) (hx : c.args = #[x]) (ht : c.argTypes = #[t]) (hv : lnF T e t x = some v) :
    Makes P o a (v.g y) ∧ v.lt n = true := by
  unfold lnF at hv
  split at hv
  · rename_i s hu
    split at hv
    · rename_i hd
      cases hv
      have e1 := litOf_eval ha h hu
      refine ⟨fun w => ?_, rfl⟩
      simp [execOp, ho, resolve, hc, hx, ht, invoke, builtin, Builtin.len_, und_run (hT.und hd), e1, goInt, AV.g]
    · cases hv
  · rename_i r i s k c' hu
    split at hv
    · rename_i el hd
      cases hv
      obtain ⟨e1, _⟩ := h.eval ha hG hn hu (List.all_eq_true.1 hg x (by rw [ho]; simp [Op.operands, Call.operands, hx]))
      rw [AV.g] at e1
      exact ⟨fun w => by simp [execOp, ho, resolve, hc, hx, ht, invoke, builtin, Builtin.len_, und_run (hT.und hd), e1, goInt, AV.g], rfl⟩
    · cases hv
  · cases hv
end
end
end Go.Cx
namespace Go.Cx
open Go Go.Sx Go.RowKit
noncomputable section
def orE {α : Type} (a : Option α) (b : Option α) : Option α := match a with | some x => some x | none => b
theorem orE_eq {α : Type} {a b : Option α} {x : α} (h : orE a b = some x) : a = some x ∨ b = some x := by
  unfold orE at h
  split at h
  · exact .inl h
  · exact .inr h
section
variable {P : Program} {T : Tab} {y : Lay} {m n G : Nat} {e : Tr AV} {env : Env} {a : Act} {o : Oper} {v : AV} {w0 : Frm} {w : World} {S : AS}
theorem Makes.wp {u : Value} (h : Makes P o a u) (Q : Exit → Act → World → Prop) : o.wp P a w (fun a' w' => a' = a.put o.dst u ∧ w' = w) Q := by
  unfold Oper.wp
  rw [h w]
  exact ⟨rfl, rfl⟩
theorem Turns.wp {K : Value → World → Prop} (h : Turns P o a w K) (Q : Exit → Act → World → Prop) : o.wp P a w (fun a' w' => ∃ u, a' = a.put o.dst u ∧ K u w') Q := by
  obtain ⟨v, w', hr, hK⟩ := h
  unfold Oper.wp
  rw [hr]
  exact ⟨v, rfl, hK⟩
theorem EnvR.up (h : EnvR y n e env) (hv : v.lt n = true) (t : Nat) : EnvR y n (Tr.put (dp t) e t (some v)) (up env (some t) (v.g y)) := by
  refine ⟨fun q => ?_, fun q u hu => ?_⟩
  · rw [Tr.put_get, Sx.up]
    by_cases e : q = t
    · rw [if_pos e, e]; simp
    · rw [if_neg e]; simp only; rw [beqF e]; exact h.tmp q
  · rw [Tr.put_get] at hu
    by_cases e : q = t
    · rw [if_pos e] at hu; cases hu; exact hv
    · rw [if_neg e] at hu; exact h.lt q u hu
theorem EnvR.mono {z : Lay} {k : Nat} (h : EnvR y n e env) (hs : Lay.same n y z) (hk : n ≤ k) : EnvR z k e env := by
  refine ⟨fun q => ?_, fun q u hu => AV.lt_mono hk (h.lt q u hu)⟩
  rw [h.tmp]
  cases hq : e.get q with
  | none => rfl
  | some u => rw [Option.map_some, Option.map_some, AV.g_same hs (h.lt q u hq)]
theorem Reads.wp {u : Value} (h : Reads P o a w u) (Q : Exit → Act → World → Prop) : o.wp P a w (fun a' w' => a' = a.put o.dst u ∧ w' = w) Q := by
  obtain ⟨fs, h1, h2⟩ := h
  unfold Oper.wp
  rw [h1 w h2]
  exact ⟨rfl, rfl⟩
theorem Skips.wp {K : World → Prop} (h : Skips P o a w K) (Q : Exit → Act → World → Prop) : o.wp P a w (fun a' w' => a' = a.put o.dst undef ∧ K w') Q := by
  obtain ⟨w', hr, hK⟩ := h
  unfold Oper.wp
  rw [hr]
  exact ⟨rfl, hK⟩
def withS (S : AS) (v : Option AV) : Option (AV × AS) := match v with | some v => some (v, S) | none => none
theorem withS_eq {S S' : AS} {x : Option AV} {v : AV} (h : withS S x = some (v, S')) : x = some v ∧ S' = S := by
  unfold withS at h
  split at h
  · cases h; exact ⟨rfl, rfl⟩
  · cases h
def withU (S : Option AS) : Option (AV × AS) := match S with | some S => some (.lit undef, S) | none => none
theorem withU_eq {S : Option AS} {S' : AS} {v : AV} (h : withU S = some (v, S')) : S = some S' ∧ v = .lit undef := by
  unfold withU at h
  split at h
  · cases h; exact ⟨rfl, rfl⟩
  · cases h
def ldF (T : Tab) (S : AS) (e : Tr AV) (t : TypeId) (x : Operand) : Option AV := match rdA e x with
  | some (.ptr r k) => match S.rows.get r with
    | some R => cond R.m.isSome none (match T.und t with
      | some (.struct _) => match T.sz t with
        | some z => cond (Nat.ble (k + z) R.cells.length) (some (.agg ((R.cells.drop k).take z))) none
        | none => none
      | some (.array _ _) => match T.sz t with
        | some z => cond (Nat.ble (k + z) R.cells.length) (some (.agg ((R.cells.drop k).take z))) none
        | none => none
      | some _ => R.cells[k]?
      | none => none)
    | none => none
  | _ => none
theorem ldF_eq {T : Tab} {S : AS} {e : Tr AV} {o : Oper} {t : TypeId} {x : Operand} (h : o.op = .load t x) : exLd T S e o = ldF T S e t x := by
  unfold exLd
  rw [h]
  rfl
def iaF (T : Tab) (e : Tr AV) (t : TypeId) (x ix : Operand) : Option AV := match rdA e x, rdN e ix with
  | some (.sl r i s n _), some j => match T.und t with
    | some (.slice el) => match T.sz el with
      | some z => cond (Nat.blt j n) (some (.ptr r (i * s + j * z))) none
      | none => none
    | _ => none
  | some (.ptr r k), some j => match T.und t with
    | some (.array len el) => match T.sz el with
      | some z => cond (Nat.blt j len) (some (.ptr r (k + j * z))) none
      | none => none
    | _ => none
  | _, _ => none
theorem iaF_eq {T : Tab} {e : Tr AV} {o : Oper} {t : TypeId} {x ix : Operand} (h : o.op = .indexAddr t x ix) : exB T e o = iaF T e t x ix := by
  unfold exB
  rw [h]
  rfl
def faF (T : Tab) (e : Tr AV) (t : TypeId) (x : Operand) (f : Nat) : Option AV := match rdA e x with
  | some (.ptr r k) => match T.und t with
    | some (.struct fs) => match fs.toList[f]? with
      | some fd => match T.sz fd.type with
        | some z => cond (Nat.beq z 0) none (some (.ptr r (k + fd.offset)))
        | none => none
      | none => none
    | _ => none
  | _ => none
theorem faF_eq {T : Tab} {e : Tr AV} {o : Oper} {t : TypeId} {x : Operand} {f : Nat} (h : o.op = .fieldAddr t x f) : exA T e o = faF T e t x f := by
  unfold exA
  rw [h]
  rfl
def exF (e : Tr AV) (x : Operand) (k : Nat) : Option AV := match rdA e x with
  | some v => match v.nrm with
    | .tup l => l[k]?
    | _ => none
  | none => none
theorem exF_eq {T : Tab} {e : Tr AV} {o : Oper} {x : Operand} {k : Nat} (h : o.op = .extract x k) : exB T e o = exF e x k := by
  unfold exB
  rw [h]
  rfl
inductive Kd where
  | mv (x : Operand) | ld (t : TypeId) (x : Operand) | st | bo (op : BinOp) (x z : Operand) | cv (s d : TypeId) (x : Operand) | ix (t : TypeId) (x i : Operand) | ln (t : TypeId) (x : Operand)
  | ia (t : TypeId) (x i : Operand) | fa (t : TypeId) (x : Operand) (f : Nat) | ex (x : Operand) (k : Nat)
  | nw | rw | mk | nm | lk | up | bi | vl | sl | bd | ba | ot
def kd (o : Oper) : Kd := match o.op with
  | .move x => .mv x
  | .assign x => .mv x
  | .load t x => .ld t x
  | .store .. => .st
  | .alloc .. => .nw
  | .box .. => .nw
  | .buildSlice .. => .rw
  | .makeSlice .. => .mk
  | .makeMap .. => .nm
  | .lookup .. => .lk
  | .mapUpdate .. => .up
  | .insert .. => .up
  | .convert s d x => .cv s d x
  | .binOp op _ x z _ => .bo op x z
  | .slice .. => .sl
  | .build .. => .bd
  | .index t x i => .ix t x i
  | .indexAddr t x i => .ia t x i
  | .fieldAddr t x f => .fa t x f
  | .field .. => .ba
  | .extract x k => .ex x k
  | .makeInterface .. => .ba
  | .typeAssert .. => .ba
  | .call c => match c.callee with
    | .builtin b => match b, c.args.toList, c.argTypes.toList with
      | .len, [x], [t] => .ln t x
      | _, _, _ => .bi
    | .value _ => .vl
    | .invoke _ _ => .ot
  | _ => .ot
def kdGl (G : Nat) (o : Oper) : Kd → Bool
  | .mv x => glOk G x
  | .ld _ x => glOk G x
  | .bo _ x z => glOk G x && glOk G z
  | .cv _ _ x => glOk G x
  | .ix _ x i => glOk G x && glOk G i
  | .ln _ x => glOk G x
  | .ia _ x i => glOk G x && glOk G i
  | .fa _ x _ => glOk G x
  | .ex x _ => glOk G x
  | _ => glsOk G o
def KdOk (o : Oper) : Kd → Prop
  | .mv x => o.op = .move x ∨ o.op = .assign x
  | .ld t x => o.op = .load t x
  | .bo op x z => ∃ t t', o.op = .binOp op t x z t'
  | .cv s d x => o.op = .convert s d x
  | .ix t x i => o.op = .index t x i
  | .ln t x => ∃ c, o.op = .call c ∧ c.callee = .builtin .len ∧ c.args = #[x] ∧ c.argTypes = #[t]
  | .ia t x i => o.op = .indexAddr t x i
  | .fa t x f => o.op = .fieldAddr t x f
  | .ex x k => o.op = .extract x k
  | _ => True
theorem kd_eq (o : Oper) : KdOk o (kd o) := by
  unfold kd
  split <;> first
    | trivial
    | (rename_i h; exact h)
    | (rename_i h; exact .inl h)
    | (rename_i h; exact .inr h)
    | (rename_i h; exact ⟨_, _, h⟩)
    | (rename_i c h
       split
       · rename_i b hb
         split
         · rename_i x t hx ht
           exact ⟨c, h, hb, by rw [← Array.toArray_toList (xs := c.args), hx], by rw [← Array.toArray_toList (xs := c.argTypes), ht]⟩
         · trivial
       · trivial
       · trivial)
theorem kdGl_of {G : Nat} {o : Oper} (h : kdGl G o (kd o) = true) : glsOk G o = true := by
  have hk := kd_eq o
  generalize kd o = k at h hk
  unfold glsOk
  cases k <;> simp only [kdGl, KdOk, Bool.and_eq_true] at h hk
  case mv x => rcases hk with hk | hk <;> (rw [hk]; simp [Op.operands, h])
  case ld t x => rw [hk]; simp [Op.operands, h]
  case bo op x z => obtain ⟨t, t', hk⟩ := hk; rw [hk]; simp [Op.operands, h]
  case cv s d x => rw [hk]; simp [Op.operands, h]
  case ix t x i => rw [hk]; simp [Op.operands, h]
  case ln t x => obtain ⟨c, hk, h1, h2, _⟩ := hk; rw [hk]; simp [Op.operands, Call.operands, h1, h2, h]
  case ia t x i => rw [hk]; simp [Op.operands, h]
  case fa t x f => rw [hk]; simp [Op.operands, h]
  case ex x k => rw [hk]; simp [Op.operands, h]
  all_goals exact h
def skBo (P : Program) (T : Tab) (S : AS) (e : Tr AV) (o : Oper) (op : BinOp) (x z : Operand) : Option (AV × AS) := orE (withS S (boF e op x z)) (orE (withS S (exL P o e)) (orE (withS S (exC T e o)) (withS S (exPt P T S e o))))
def skCv (P : Program) (T : Tab) (G : Nat) (S : AS) (e : Tr AV) (o : Oper) (s d : TypeId) (x : Operand) : Option (AV × AS) := orE (withS S (cvF T e s d x)) (orE (withS S (exPt P T S e o)) (orE (withS S (exBS T S e o)) (orE (exSB T S e o) (orE (withS S (exSS T G S e o)) (withS S (exL P o e))))))
def skIx (P : Program) (T : Tab) (S : AS) (e : Tr AV) (o : Oper) (t : TypeId) (x i : Operand) : Option (AV × AS) := orE (withS S (ixF T e t x i)) (orE (withS S (exB T e o)) (withS S (exL P o e)))
def skLn (P : Program) (T : Tab) (S : AS) (e : Tr AV) (o : Oper) (t : TypeId) (x : Operand) : Option (AV × AS) := orE (withS S (lnF T e t x)) (orE (withS S (exC T e o)) (withS S (exL P o e)))
def skBi (P : Program) (T : Tab) (G : Nat) (S : AS) (e : Tr AV) (o : Oper) : Option (AV × AS) := orE (exAp T G S e o) (orE (withS S (exC T e o)) (orE (exCo T G S e o) (orE (withS S (exPt P T S e o)) (orE (exUs T G S e o) (orE (exZ T S e o) (withS S (exL P o e)))))))
def skSl (P : Program) (T : Tab) (S : AS) (e : Tr AV) (o : Oper) : Option (AV × AS) := orE (withS S (exS T S e o)) (orE (withS S (exSa T e o)) (withS S (exL P o e)))
def skBa (P : Program) (T : Tab) (S : AS) (e : Tr AV) (o : Oper) : Option (AV × AS) := orE (withS S (exB T e o)) (withS S (exL P o e))
def skOt (P : Program) (T : Tab) (S : AS) (e : Tr AV) (o : Oper) : Option (AV × AS) := orE (withS S (exA T e o)) (withS S (exL P o e))
def skLk (P : Program) (T : Tab) (S : AS) (e : Tr AV) (o : Oper) : Option (AV × AS) := orE (withS S (exLk T S e o)) (withS S (exL P o e))
def skR (P : Program) (T : Tab) (G : Nat) (S : AS) (e : Tr AV) (o : Oper) (k : Kd) : Option (AV × AS) := match k with
  | .nw => exNew T S e o
  | .rw => exRw T S e o
  | .mk => exMk T S e o
  | .nm => exNm S o
  | .lk => skLk P T S e o
  | .up => withU (exUp T G S e o)
  | .bi => skBi P T G S e o
  | .vl => withS S (exX T e o)
  | .sl => skSl P T S e o
  | .bd => withS S (exBd T e o)
  | .ba => skBa P T S e o
  | _ => skOt P T S e o
def stepK (P : Program) (T : Tab) (G : Nat) (S : AS) (e : Tr AV) (o : Oper) (k : Kd) : Option (AV × AS) := match k with
  | .mv x => withS S (rdA e x)
  | .ld t x => withS S (ldF T S e t x)
  | .st => exSt T G S e o
  | .bo op x z => skBo P T S e o op x z
  | .cv s d x => skCv P T G S e o s d x
  | .ix t x i => skIx P T S e o t x i
  | .ln t x => skLn P T S e o t x
  | .ia t x i => withS S (iaF T e t x i)
  | .fa t x f => withS S (faF T e t x f)
  | .ex x k => withS S (exF e x k)
  | k => skR P T G S e o k
def step (P : Program) (T : Tab) (G : Nat) (S : AS) (e : Tr AV) (o : Oper) : Option (AV × AS) :=
  cond (kdGl G o (kd o)) (stepK P T G S e o (kd o)) none
theorem step_of (hT : TabOk P T) (hR : Rel w0 G y S w) (ha : Agr m env a) (h : EnvR y S.next e env) {S' : AS} (hv : step P T G S e o = some (v, S')) (Q : Exit → Act → World → Prop) :
    o.wp P a w (fun a' w' => ∃ u, a' = a.put o.dst u ∧ Out w0 G y S S' v u w') Q := by
  unfold step at hv
  cases hgk : kdGl G o (kd o) <;> rw [hgk] at hv
  · cases hv
  simp only [cond_true] at hv
  have hg := kdGl_of hgk
  have hkd := kd_eq o
  clear hgk
  have same : ∀ {u : AV}, u.lt S.next = true → Out w0 G y S S u (u.g y) w := fun hu => ⟨y, hR, Lay.same_refl _ _, Nat.le_refl _, hu, rfl⟩
  have mk : ∀ {x : Option AV}, withS S x = some (v, S') → (x = some v → Makes P o a (v.g y) ∧ v.lt S.next = true) → o.wp P a w (fun a' w' => ∃ u, a' = a.put o.dst u ∧ Out w0 G y S S' v u w') Q := fun hx h => by
    obtain ⟨hx2, rfl⟩ := withS_eq hx
    obtain ⟨h1, h2⟩ := h hx2
    exact Oper.wp_mono (fun a' w' ⟨e1, e2⟩ => ⟨_, e1, by rw [e2]; exact same h2⟩) (h1.wp (w := w) Q)
  have rd : ∀ {x : Option AV}, withS S x = some (v, S') → (x = some v → Reads P o a w (v.g y) ∧ v.lt S.next = true) → o.wp P a w (fun a' w' => ∃ u, a' = a.put o.dst u ∧ Out w0 G y S S' v u w') Q := fun hx h => by
    obtain ⟨hx2, rfl⟩ := withS_eq hx
    obtain ⟨h1, h2⟩ := h hx2
    exact Oper.wp_mono (fun a' w' ⟨e1, e2⟩ => ⟨_, e1, by rw [e2]; exact same h2⟩) (h1.wp (w := w) Q)
  have tn : ∀ {x : Option AV}, withS S x = some (v, S') → (x = some v → Turns P o a w (Out w0 G y S S v)) → o.wp P a w (fun a' w' => ∃ u, a' = a.put o.dst u ∧ Out w0 G y S S' v u w') Q := fun hx h => by
    obtain ⟨hx2, rfl⟩ := withS_eq hx
    exact (h hx2).wp Q
  have lit := fun hx => mk (x := exL P o e) hx (exL_of ha h)
  generalize kd o = k at hv hkd
  unfold stepK at hv
  split at hv <;> (try simp only [KdOk] at hkd)
  · refine mk hv fun hx => exA_of hT ha h hR.gl hR.gn hg ?_
    unfold exA
    rcases hkd with hkd | hkd <;> rw [hkd] <;> exact hx
  · exact rd hv fun hx => exLd_of hT hR ha h hg (by rw [ldF_eq hkd]; exact hx)
  · exact evEff_of ha (exSt_of hT hR h hg hv) Q
  · obtain ⟨t, t', hkd⟩ := hkd
    rcases orE_eq hv with hv | hv
    · exact mk hv (boF_of ha h hkd)
    rcases orE_eq hv with hv | hv
    · exact lit hv
    rcases orE_eq hv with hv | hv
    · exact mk hv (exC_of hT ha h hR.gl hR.gn hg)
    · exact tn hv (exPt_of hT hR ha h hg)
  · rcases orE_eq hv with hv | hv
    · exact mk hv (cvF_of hT ha h hkd)
    rcases orE_eq hv with hv | hv
    · exact tn hv (exPt_of hT hR ha h hg)
    rcases orE_eq hv with hv | hv
    · exact tn hv (exBS_of hT hR ha h hg)
    rcases orE_eq hv with hv | hv
    · exact (exSB_of hT hR ha h hg hv).wp Q
    rcases orE_eq hv with hv | hv
    · exact tn hv (exSS_of hT hR ha h hg)
    · exact lit hv
  · rcases orE_eq hv with hv | hv
    · exact mk hv (ixF_of hT ha h hR.gl hR.gn hg hkd)
    rcases orE_eq hv with hv | hv
    · exact mk hv (exB_of hT ha h hR.gl hR.gn hg)
    · exact lit hv
  · obtain ⟨c, hc1, hc2, hc3, hc4⟩ := hkd
    rcases orE_eq hv with hv | hv
    · exact mk hv (lnF_of hT ha h hR.gl hR.gn hg hc1 hc2 hc3 hc4)
    rcases orE_eq hv with hv | hv
    · exact mk hv (exC_of hT ha h hR.gl hR.gn hg)
    · exact lit hv
  · exact mk hv fun hx => exB_of hT ha h hR.gl hR.gn hg (by rw [iaF_eq hkd]; exact hx)
  · exact mk hv fun hx => exA_of hT ha h hR.gl hR.gn hg (by rw [faF_eq hkd]; exact hx)
  · exact mk hv fun hx => exB_of hT ha h hR.gl hR.gn hg (by rw [exF_eq hkd]; exact hx)
  · clear hkd
    unfold skR at hv
    split at hv
    · exact evEff_of ha (exNew_of hT hR h hg hv) Q
    · exact evEff_of ha (exRw_of hT hR h hg hv) Q
    · exact (exMk_of hT hR ha h hg hv).wp Q
    · exact (exNm_of hR hv).wp Q
    · rcases orE_eq hv with hv | hv
      · exact rd hv (exLk_of hT hR ha h hg)
      · exact lit hv
    · obtain ⟨hv2, rfl⟩ := withU_eq hv
      refine Oper.wp_mono ?_ ((exUp_of hT hR ha h hg hv2).wp Q)
      rintro a' w' ⟨rfl, h1, h2⟩
      exact ⟨undef, rfl, y, h1, Lay.same_refl _ _, by omega, rfl, rfl⟩
    · rcases orE_eq hv with hv | hv
      · exact (exAp_of hT hR ha h hg hv).wp Q
      rcases orE_eq hv with hv | hv
      · exact mk hv (exC_of hT ha h hR.gl hR.gn hg)
      rcases orE_eq hv with hv | hv
      · exact (exCo_of hT hR ha h hg hv).wp Q
      rcases orE_eq hv with hv | hv
      · exact tn hv (exPt_of hT hR ha h hg)
      rcases orE_eq hv with hv | hv
      · exact (exUs_of hT hR ha h hg hv).wp Q
      rcases orE_eq hv with hv | hv
      · exact (exZ_of hT hR ha h hg hv).wp Q
      · exact lit hv
    · exact mk hv (exX_of hT hR ha h hg)
    · rcases orE_eq hv with hv | hv
      · exact mk hv (exS_of hT hR ha h hg)
      rcases orE_eq hv with hv | hv
      · exact mk hv (exSa_of hT ha h hR.gl hR.gn hg)
      · exact lit hv
    · exact mk hv (exBd_of hT ha h hR.gl hR.gn hg)
    · rcases orE_eq hv with hv | hv
      · exact mk hv (exB_of hT ha h hR.gl hR.gn hg)
      · exact lit hv
    · rcases orE_eq hv with hv | hv
      · exact mk hv (exA_of hT ha h hR.gl hR.gn hg)
      · exact lit hv
end
end
end Go.Cx
namespace Go.Cx
open Go Go.Sx Go.RowKit
noncomputable section
abbrev CallF := FuncId → List AV → AS → Option (AV × AS)
def CallsOk (P : Program) (w0 : Frm) (G : Nat) (call : CallF) : Prop :=
  ∀ k args S v S', call k args S = some (v, S') → ∀ y w, Rel w0 G y S w → AV.lts S.next args = true → callOk P k = true ∧ cl P k (AV.gs y args).toArray w (Out w0 G y S S' v)
def exCl (T : Tab) (call : CallF) (G : Nat) (S : AS) (e : Tr AV) (o : Oper) : Option (AV × AS) :=
  match o.op with
  | .call c => cond (glsOk G o) (match calleeA T S e c with
    | some (k, vs) => call k vs S
    | none => none) none
  | _ => none
section
variable {P : Program} {T : Tab} {y : Lay} {m n G : Nat} {e : Tr AV} {env : Env} {a : Act} {o : Oper} {v : AV} {w0 : Frm} {w : World} {S : AS} {call : CallF}
theorem exCl_of (hT : TabOk P T) (hC : CallsOk P w0 G call) (hR : Rel w0 G y S w) (ha : Agr m env a) (h : EnvR y S.next e env) {S' : AS} (hv : exCl T call G S e o = some (v, S')) (Q : Exit → Act → World → Prop) :
    o.wp P a w (fun a' w' => ∃ u, a' = a.put o.dst u ∧ Out w0 G y S S' v u w') Q := by
  unfold exCl at hv
  split at hv
  · rename_i c ho
    cases hg : glsOk G o <;> rw [hg] at hv
    · cases hv
    simp only [cond_true] at hv
    split at hv
    · rename_i k vs hc
      obtain ⟨h1, h2⟩ := calleeA_of hT hR ha h ho hg hc
      obtain ⟨hok, hcl⟩ := hC k _ S v S' hv y w hR h1
      unfold Oper.wp
      rw [h2 hok]
      simp only [Oper.upon]
      refine Calls.mono hcl ?_
      rintro e w' ⟨u, rfl, hu⟩
      exact ⟨u, rfl, hu⟩
    · cases hv
  · cases hv
def wantA (ops : List Oper) (e : Tr AV) (o : Oper) : Option Bool :=
  match o.guard with
  | none => some true
  | some (g, want) => match nth ops g with
    | none => none
    | some og => match og.dst with
      | none => none
      | some t => match e.get t with
        | some (.lit (.bool b)) => some (cond b want (!want))
        | some (.lit (.tuple _)) => some false
        | _ => none
theorem wantA_of {ops : Array Oper} (ha : Agr m env a) (h : EnvR y n e env) {r : Bool} (hw : wantA ops.toList e o = some r) : Region.wanted o (yielded ops a.tmps) = r := by
  have key : gd ops.toList o env (fun _ => r = true) (fun _ => r = false) := by
    unfold wantA at hw
    unfold gd
    split at hw
    · rename_i hg
      rw [hg]
      exact (Option.some.inj hw).symm
    · rename_i g want hg
      rw [hg]
      simp only
      split at hw
      · cases hw
      · rename_i og hog
        rw [hog]
        simp only
        split at hw
        · cases hw
        · rename_i t ht
          rw [ht]
          simp only
          split at hw
          · rename_i b hb
            have : env t = some (.bool b) := by rw [h.tmp, hb]; rfl
            rw [this]
            cases hw
            cases b <;> cases want <;> exact rfl
          · rename_i vs hb
            have : env t = some (.tuple vs) := by rw [h.tmp, hb]; rfl
            rw [this]
            cases hw
            rfl
          · cases hw
  obtain ⟨env', _, h2⟩ := gd_of ha key
  rcases h2 with ⟨h1, h2⟩ | ⟨h1, h2⟩
  · rw [h1, h2]
  · rw [h1, h2]
def putD (e : Tr AV) (d : Option Nat) (v : AV) : Tr AV := match d with | some t => Tr.put (dp t) e t (some v) | none => e
theorem EnvR.putD (h : EnvR y n e env) (hv : v.lt n = true) (d : Option Nat) : EnvR y n (Cx.putD e d v) (Sx.up env d (v.g y)) := by
  cases d with
  | none => exact h
  | some t => exact h.up hv t
def stepC (P : Program) (T : Tab) (G : Nat) (call : CallF) (S : AS) (e : Tr AV) (o : Oper) : Option (AV × AS) := orE (step P T G S e o) (exCl T call G S e o)
abbrev DefA := FuncId × List AV × List AV
inductive DefR (y : Lay) (n : Nat) : List DefA → List Deferred → Prop where
  | nil : DefR y n [] []
  | cons {k : FuncId} {us cs : List AV} {D : List DefA} {ds : List Deferred} (h1 : AV.lts n us = true) (h2 : AV.lts n cs = true) (h : DefR y n D ds) :
      DefR y n ((k, us, cs) :: D) ({ target := .fn (.func k) (AV.gs y cs).toArray, args := (AV.gs y us).toArray } :: ds)
theorem DefR.mono {y' : Lay} {n' : Nat} (hs : Lay.same n y y') (hn : n ≤ n') {D : List DefA} {ds : List Deferred} (h : DefR y n D ds) : DefR y' n' D ds := by
  induction h with
  | nil => exact .nil
  | cons h1 h2 _ ih => rw [AV.gs_same hs h1, AV.gs_same hs h2]; exact .cons (AV.lts_mono hn h1) (AV.lts_mono hn h2) ih
def nod (a : Act) : Act := { a with defers := [] }
theorem put_nod (a : Act) (d : Option Tmp) (v : Value) : nod (a.put d v) = (nod a).put d v := by cases d <;> rfl
theorem put_defers (a : Act) (d : Option Tmp) (v : Value) : (a.put d v).defers = a.defers := by cases d <;> rfl
theorem put_back (a : Act) (d : Option Tmp) (v : Value) : a.put d v = { (nod a).put d v with defers := a.defers } := by cases d <;> rfl
theorem wp_nod {K : Value → World → Prop} (h : o.wp P (nod a) w (fun a' w' => ∃ u, a' = (nod a).put o.dst u ∧ K u w') (fun _ _ _ => False)) (Q : Exit → Act → World → Prop) :
    o.wp P a w (fun a' w' => ∃ u, a' = a.put o.dst u ∧ K u w') Q := by
  have key : ∀ {v : Value} {w' : World}, (∃ u, (nod a).put o.dst v = (nod a).put o.dst u ∧ K u w') → ∃ u, a.put o.dst v = a.put o.dst u ∧ K u w' := fun ⟨u, h1, h2⟩ => ⟨u, by rw [put_back, h1, ← put_back], h2⟩
  unfold Oper.wp at h ⊢
  rw [show execOp (nod a).eval o = execOp a.eval o from rfl] at h
  generalize (execOp a.eval o).run P w = r at h ⊢
  cases r with
  | halt x w' => cases x <;> exact h.elim
  | ok nx w' =>
    cases nx with
    | value v => exact key h
    | skip => exact key h
    | defer d =>
      obtain ⟨u, h1, _⟩ := h
      have := congrArg Act.defers h1
      rw [put_defers, put_defers] at this
      cases this
    | enter f args =>
      refine Calls.mono h ?_
      intro e w'' he
      cases e with
      | returned v => exact key he
      | panicked c => exact he.elim
      | outgrown => obtain ⟨_, _, hf⟩ := he; exact hf.elim
    | row r args => exact Rows.mono h fun v w'' he => key he
    | _ => exact h.elim
def exDf (G : Nat) (e : Tr AV) (o : Oper) : Option DefA :=
  match o.op with
  | .defer c => match c.callee with
    | .value f => match rdA e f, c.args.toList.mapM (rdA e) with
      | some (.fn k fs cs), some vs => cond (glsOk G o) (some (k, fs ++ vs, cs)) none
      | _, _ => none
    | _ => none
  | _ => none
theorem exDf_of (hR : Rel w0 G y S w) (ha : Agr m env (nod a)) (h : EnvR y S.next e env) {d : DefA} (hv : exDf G e o = some d) (Q : Exit → Act → World → Prop) {ds : List Deferred} {D : List DefA} (hD : DefR y S.next D ds) (hd : a.defers = ds) :
    o.wp P a w (fun a' w' => w' = w ∧ nod a' = (nod a).put o.dst undef ∧ DefR y S.next (d :: D) a'.defers) Q := by
  unfold exDf at hv
  split at hv
  · rename_i c ho
    split at hv
    · rename_i f hc
      split at hv
      · rename_i k fs cs vs hf hvs
        cases hg : glsOk G o <;> rw [hg] at hv
        · cases hv
        cases (Option.some.inj hv)
        have hgs : ∀ x ∈ f :: c.args.toList, glOk G x = true := fun x hx => List.all_eq_true.1 hg _ (by rw [ho]; simpa [Op.operands, Call.operands, hc] using hx)
        obtain ⟨h1, h2⟩ := h.eval ha hR.gl hR.gn hf (hgs f (by simp))
        obtain ⟨h3, h4⟩ := mapM_rdA ha h hR.gl hR.gn hvs (List.all_eq_true.2 fun x hx => hgs x (List.mem_cons_of_mem _ hx))
        rw [AV.lt, Bool.and_eq_true] at h2
        rw [AV.g] at h1
        have h1 : a.eval f = .func (.func k) (AV.gs y fs).toArray (AV.gs y cs).toArray := h1
        have h3 : c.args.toList.map a.eval = AV.gs y vs := h3
        have hr : (execOp a.eval o).run P w = .ok (.defer { target := .fn (.func k) (AV.gs y cs).toArray, args := (AV.gs y (fs ++ vs)).toArray }) w := by
          simp [execOp, ho, resolve, hc, h1, Deferred.ofValue, map_list, h3, gs_append]
        unfold Oper.wp
        rw [hr]
        refine ⟨rfl, ?_, ?_⟩
        · rw [put_nod]; rfl
        · rw [put_defers, hd]
          exact .cons (lts_append' h2.1 h4) h2.2 hD
      · cases hv
    · cases hv
  · cases hv
def isDef (o : Oper) : Bool := match o.op with | .defer _ => true | _ => false
abbrev OpsR := Option (Tr AV × AS × List DefA)
def roDef (G : Nat) (e : Tr AV) (S : AS) (D : List DefA) (o : Oper) (rec : Tr AV → AS → List DefA → OpsR) : OpsR := match exDf G e o with
  | some d => rec (putD e o.dst (.lit undef)) S (d :: D)
  | none => none
def roStep (e : Tr AV) (D : List DefA) (o : Oper) (r : Option (AV × AS)) (rec : Tr AV → AS → List DefA → OpsR) : OpsR := match r with
  | some (v, S') => rec (putD e o.dst v) S' D
  | none => none
def roOp (P : Program) (T : Tab) (G m : Nat) (call : CallF) (ops : List Oper) (o : Oper) (rec : Tr AV → AS → List DefA → OpsR) (e : Tr AV) (S : AS) (D : List DefA) : OpsR :=
  cond (dstOk m o) (match wantA ops e o with
    | some true => cond (isDef o) (roDef G e S D o rec) (roStep e D o (stepC P T G call S e o) rec)
    | some false => rec (putD e o.dst (.lit undef)) S D
    | none => none) none
def runOps (P : Program) (T : Tab) (G m : Nat) (call : CallF) (ops : List Oper) (l : List Nat) : Tr AV → AS → List DefA → OpsR :=
  List.rec (motive := fun _ => Tr AV → AS → List DefA → OpsR) (fun e S D => some (e, S, D)) (fun i _ rec e S D => match nth ops i with
    | none => none
    | some o => roOp P T G m call ops o rec e S D) l
theorem runOps_cons {P : Program} {T : Tab} {G m : Nat} {call : CallF} {ops : List Oper} {i : Nat} {l : List Nat} {e : Tr AV} {S : AS} {D : List DefA} : runOps P T G m call ops (i :: l) e S D = (match nth ops i with
    | none => none
    | some o => roOp P T G m call ops o (runOps P T G m call ops l) e S D) := rfl
structure After (w0 : Frm) (G m : Nat) (y : Lay) (S : AS) (e' : Tr AV) (S' : AS) (D' : List DefA) (a' : Act) (w' : World) : Prop where
  ex : ∃ env' y', Agr m env' (nod a') ∧ EnvR y' S'.next e' env' ∧ Rel w0 G y' S' w' ∧ Lay.same S.next y y' ∧ S.next ≤ S'.next ∧ DefR y' S'.next D' a'.defers
theorem After.then {S1 : AS} {y1 : Lay} {e' : Tr AV} {S' : AS} {D' : List DefA} {a' : Act} {w' : World} (h1 : Lay.same S.next y y1) (h2 : S.next ≤ S1.next) (h : After w0 G m y1 S1 e' S' D' a' w') : After w0 G m y S e' S' D' a' w' := by
  obtain ⟨env2, y2, q1, q2, q3, q4, q5, q6⟩ := h.ex
  exact ⟨env2, y2, q1, q2, q3, Lay.same_trans h1 q4 h2, Nat.le_trans h2 q5, q6⟩
theorem stepC_of (hT : TabOk P T) (hC : CallsOk P w0 G call) (hR : Rel w0 G y S w) (ha : Agr m env (nod a)) (h : EnvR y S.next e env) {S' : AS} (hs : stepC P T G call S e o = some (v, S')) (Q : Exit → Act → World → Prop) :
    o.wp P a w (fun a' w' => ∃ u, a' = a.put o.dst u ∧ Out w0 G y S S' v u w') Q := by
  refine wp_nod ?_ Q
  rcases orE_eq hs with hs | hs
  · exact step_of hT hR ha h hs _
  · exact exCl_of hT hC hR ha h hs _
theorem runOps_of {ops : Array Oper} {Q : Exit → Act → World → Prop} (hT : TabOk P T) (hC : CallsOk P w0 G call) : ∀ (l : List Nat) {e : Tr AV} {S : AS} {D : List DefA} {env : Env} {a : Act} {w : World} {y : Lay} {e' : Tr AV} {S' : AS} {D' : List DefA},
    Rel w0 G y S w → Agr m env (nod a) → EnvR y S.next e env → DefR y S.next D a.defers → runOps P T G m call ops.toList l e S D = some (e', S', D') →
    (∀ a' w', After w0 G m y S e' S' D' a' w' → Q .normal a' w') → wpOps P ops Q l a w
  | [], e, S, D, env, a, w, y, e', S', D', hR, ha, h, hD, hr, hQ => by
    cases (Option.some.inj hr)
    exact hQ a w ⟨env, y, ha, h, hR, Lay.same_refl _ _, Nat.le_refl _, hD⟩
  | i :: l, e, S, D, env, a, w, y, e', S', D', hR, ha, h, hD, hr, hQ => by
    rw [wpOps_cons]
    unfold wpOp
    rw [runOps_cons] at hr
    split at hr
    · cases hr
    · rename_i o ho
      have ho' : ops[i]? = some o := by rw [nth_eq] at ho; simpa using ho
      rw [ho']
      simp only
      unfold roOp at hr
      cases hd : dstOk m o <;> rw [hd] at hr
      · cases hr
      simp only [cond_true] at hr
      have put : ∀ v, Agr m (Sx.up env o.dst v) (nod (a.put o.dst v)) := fun v => by rw [put_nod]; exact ha.put o.dst v (dstOk_of hd)
      split at hr
      · rename_i hw
        rw [if_pos (show Region.wanted o (yielded ops a.tmps) = true from wantA_of ha h hw)]
        cases hdf : isDef o <;> rw [hdf] at hr
        · simp only [cond_false] at hr
          unfold roStep at hr
          split at hr
          · rename_i v S1 hs
            refine .inl (Oper.wp_mono ?_ (stepC_of hT hC hR ha h hs Q))
            rintro a' w' ⟨u, rfl, y1, h1, h2, h3, h4, rfl⟩
            refine runOps_of hT hC l h1 (put _) ((h.mono h2 h3).putD h4 o.dst) (by rw [put_defers]; exact hD.mono h2 h3) hr fun a2 w2 hA => hQ a2 w2 (hA.then h2 h3)
          · cases hr
        · simp only [cond_true] at hr
          unfold roDef at hr
          split at hr
          · rename_i d hs
            refine .inl (Oper.wp_mono ?_ (exDf_of hR ha h hs Q hD rfl))
            rintro a' w' ⟨rfl, h1, h2⟩
            exact runOps_of hT hC l hR (by rw [h1]; exact ha.put o.dst undef (dstOk_of hd)) (h.putD (v := .lit undef) rfl o.dst) h2 hr hQ
          · cases hr
      · rename_i hw
        rw [if_neg (by rw [show Region.wanted o (yielded ops a.tmps) = false from wantA_of ha h hw]; decide)]
        exact runOps_of hT hC l hR (put undef) (h.putD (v := .lit undef) rfl o.dst) (by rw [put_defers]; exact hD) hr hQ
      · cases hr
end
end
end Go.Cx
namespace Go.Cx
open Go Go.Sx Go.RowKit
noncomputable section
structure Al where
  t : TypeId
  s : Nat
  cells : List AV
  k : Option Nat
def Al.val (x : Al) (r : Nat) : AV := match x.k with
  | none => .ptr r 0
  | some n => .sl r 0 x.s n (some n)
def Al.vl (x : Al) (b : Nat) : Value := match x.k with
  | none => .pointer (some ⟨b, 0, none⟩)
  | some n => .slice (some ⟨b, 0, none⟩) n n
def Al.ok (x : Al) : Bool := match x.k with
  | none => Nat.beq x.s 0
  | some n => Nat.blt 0 x.s && Nat.beq x.cells.length (n * x.s) && Nat.ble n 16777216
def AS.al (S : AS) (x : Al) : AS := ⟨S.rows.put (dp S.next) S.next (some ⟨x.t, x.s, x.cells, none⟩), S.next + 1⟩
def isAl (o : Oper) : Bool := match o.op with
  | .alloc _ => o.dst.isSome && o.guard.isNone
  | .box _ _ => o.dst.isSome && o.guard.isNone
  | .buildSlice _ _ _ => o.dst.isSome && o.guard.isNone
  | _ => false
def alA (T : Tab) (e : Tr AV) (o : Oper) : Option Al :=
  match o.op with
  | .alloc t => match T.inf.get t with
    | some i => match i.zero with
      | some z => some ⟨t, 0, (cellsL z).map .lit, none⟩
      | none => none
    | none => none
  | .box t x => match rdA e x with
    | some v => some ⟨t, 0, v.cells, none⟩
    | none => none
  | .buildSlice t len parts => match T.und t with
    | some (.slice el) => match T.inf.get el, rdPA e parts.toList with
      | some i, some ps => match i.zero with
        | some z => match fillA (fun k => some (k * i.size, i.size)) (zrow z (len * i.size)) ps with
          | some l => cond (Nat.ble (len * i.size) 16777216 && Nat.blt 0 (len * i.size)) (some ⟨el, i.size, l, some len⟩) none
          | none => none
        | none => none
      | _, _ => none
    | _ => none
  | _ => none
section
variable {P : Program} {T : Tab} {y : Lay} {m n G : Nat} {e : Tr AV} {env : Env} {a : Act} {o : Oper} {v : AV} {w0 : Frm} {w : World} {S : AS}
theorem alA_of (hT : TabOk P T) (h : EnvR y n e env) (hG : ∀ r, r < G → y.b r = r) (hn : G ≤ n) (hg : glsOk G o = true) {x : Al} (hv : alA T e o = some x) :
    AV.lts n x.cells = true ∧ x.ok = true ∧ evEff P o env w (fun u w' => u = x.vl w.heap.size ∧ w' = w.alloc (.cells (AV.gs y x.cells).toArray x.t)) := by
  have ev : ∀ {x : Operand} {u : AV}, x ∈ o.op.operands.toList → rdA e x = some u → rdO env x = some (u.g y) ∧ u.lt n = true := fun hx hu => h.rd hG hn hu (List.all_eq_true.1 hg _ hx)
  unfold alA at hv
  split at hv
  · rename_i t ho
    split at hv
    · rename_i i hi
      split at hv
      · rename_i z hz
        cases (Option.some.inj hv)
        refine ⟨lts_lits _ _, rfl, ?_⟩
        unfold evEff
        rw [ho]
        simp only
        rw [hT.inf t i hi]
        simp only [hz]
        exact ⟨rfl, by rw [gs_lits]⟩
      · cases hv
    · cases hv
  · rename_i t x ho
    split at hv
    · rename_i u hu
      cases (Option.some.inj hv)
      obtain ⟨h1, h2⟩ := ev (x := x) (by rw [ho]; simp [Op.operands]) hu
      refine ⟨AV.lts_cells h2, rfl, ?_⟩
      unfold evEff
      rw [ho]
      simp only
      rw [rd, h1]
      simp only
      rw [← AV.g_cells]
      exact ⟨rfl, rfl⟩
    · cases hv
  · rename_i t len parts ho
    split at hv
    · rename_i el hd
      split at hv
      · rename_i i ps hi hps
        split at hv
        · rename_i z hz
          split at hv
          · rename_i l hl
            cases hb : (Nat.ble (len * i.size) 16777216 && Nat.blt 0 (len * i.size)) <;> rw [hb] at hv
            · cases hv
            cases (Option.some.inj hv)
            simp only [Bool.and_eq_true, Nat.ble_eq, Nat.blt_eq] at hb
            have hs0 : i.size ≠ 0 := by intro h0; rw [h0] at hb; omega
            have hl0 : len ≠ 0 := by intro h0; rw [h0] at hb; omega
            have hgp : ∀ p ∈ parts.toList, glOk G p.2 = true := fun p hp => List.all_eq_true.1 hg _ (by rw [ho]; simp only [Op.operands]; exact List.mem_map.2 ⟨p, hp, rfl⟩)
            have hI := hT.inf el i hi
            have hsz : szOf P el = i.size := by unfold szOf; rw [hI]
            have hll : l.length = len * i.size := by rw [fillA_length hl, zrow, List.length_map, List.length_range]
            have hlen : len ≤ len * i.size := Nat.le_mul_of_pos_right _ (by omega)
            refine ⟨fillA_lts hl (zrow_lts n z _) (rdPA_lt h hG hn hps hgp), ?_, ?_⟩
            · simp only [Al.ok, Bool.and_eq_true, Nat.blt_eq, Nat.ble_eq]
              exact ⟨⟨by omega, beqT hll⟩, by omega⟩
            · unfold evEff
              rw [ho]
              simp only
              rw [hT.und hd]
              simp only
              have hc1 : (Nat.beq len 0 && parts.toList.isEmpty && hasT P el) = false := by
                rw [beqF hl0]; rfl
              have hc2 : (Nat.ble (len * szOf P el) 16777216 && Nat.blt 0 (len * szOf P el)) = true := by
                rw [hsz, Bool.and_eq_true, Nat.ble_eq, Nat.blt_eq]; exact hb
              rw [hc1, hc2]
              refine rdPA_rdP h hG hn hps hgp ?_
              have hf := fillA_of y hl
              rw [zrow_g] at hf
              have hbs : bsl P el len (ps.map fun p => (p.1, p.2.g y)) = some (AV.gs y l).toArray := by
                unfold bsl
                rw [hI]
                simp only [hz]
                exact hf
              rw [hbs]
              exact ⟨rfl, rfl⟩
          · cases hv
        · cases hv
      · cases hv
    · cases hv
  · cases hv
theorem Rel.tell (h : Rel w0 G y S w) {b : Nat} {x : Al} (hb : w.heap[b]? = some (.cells (AV.gs y x.cells).toArray x.t (0, 0))) (hok : x.ok = true) (hl : AV.lts S.next x.cells = true) (hpr : ¬ w0.pr b) (hne : ∀ r R, S.rows.get r = some R → y.b r ≠ b) :
    ∃ y', Rel w0 G y' (S.al x) w ∧ Lay.same S.next y y' ∧ x.vl b = (x.val S.next).g y' ∧ (x.val S.next).lt (S.al x).next = true := by
  have hsm : ∀ c, Lay.same S.next y ⟨fun r => if r = S.next then b else y.b r, fun r => if r = S.next then c else y.c r⟩ := fun c r hr => by
    have : r ≠ S.next := by omega
    simp only [if_neg this, and_self]
  have hgn := h.gn
  have main : ∀ c, Lies ⟨fun r => if r = S.next then b else y.b r, fun r => if r = S.next then c else y.c r⟩ S.next ⟨x.t, x.s, x.cells, none⟩ w →
      Rel w0 G ⟨fun r => if r = S.next then b else y.b r, fun r => if r = S.next then c else y.c r⟩ (S.al x) w := by
    intro c hL
    refine ⟨h.ext, fun r hr => ?_, fun r R' hr => ?_, fun r R' hr hG => ?_, fun r r' R1 R2 h1 h2 e => ?_, by simp only [AS.al]; omega, h.gz⟩
    · have : r ≠ S.next := by omega
      simp only [if_neg this]
      exact h.gl r hr
    · simp only [AS.al, Tr.put_get] at hr
      by_cases e : r = S.next
      · subst e
        rw [if_pos rfl] at hr
        cases hr
        exact ⟨by simp only [AS.al]; omega, AV.lts_mono (Nat.le_succ _) hl, hL⟩
      · rw [if_neg e] at hr
        obtain ⟨k1, k2, k3⟩ := h.lies r R' hr
        exact ⟨by simp only [AS.al]; omega, AV.lts_mono (Nat.le_succ _) k2, k3.same (hsm c) k1 k2⟩
    · simp only [AS.al, Tr.put_get] at hr
      by_cases e : r = S.next
      · simp only [if_pos e]
        exact hpr
      · rw [if_neg e] at hr
        simp only [if_neg e]
        exact h.own r R' hr hG
    · simp only [AS.al, Tr.put_get] at h1 h2
      by_cases e1 : r = S.next <;> by_cases e2 : r' = S.next
      · omega
      · rw [if_neg e2] at h2
        simp only [if_pos e1, if_neg e2] at e
        exact absurd e.symm (hne r' R2 h2)
      · rw [if_neg e1] at h1
        simp only [if_neg e1, if_pos e2] at e
        exact absurd e (hne r R1 h1)
      · rw [if_neg e1] at h1
        rw [if_neg e2] at h2
        simp only [if_neg e1, if_neg e2] at e
        exact h.inj r r' R1 R2 h1 h2 e
  have hlt : (x.val S.next).lt (S.al x).next = true := by
    unfold Al.val
    split <;> simp [AV.lt, AS.al]
  have hcs : ∀ c, AV.gs y x.cells = AV.gs (⟨fun r => if r = S.next then b else y.b r, fun r => if r = S.next then c else y.c r⟩ : Lay) x.cells := fun c => AV.gs_same (hsm c) hl
  unfold Al.ok at hok
  split at hok
  · rename_i hk
    have hs := Nat.eq_of_beq_eq_true hok
    refine ⟨_, main 0 ?_, hsm 0, by simp [Al.vl, Al.val, hk, AV.g], hlt⟩
    unfold Lies
    rw [if_pos hs]
    simp only [if_true]
    split
    · refine ⟨blk_lt hb, fun o v hv => ?_⟩
      rw [blk_cell hb, hcs 0]
      simpa using gs_get _ hv
    · rw [← hcs 0]
      exact hb
  · rename_i n hk
    simp only [Bool.and_eq_true, Nat.blt_eq, Nat.ble_eq] at hok
    obtain ⟨⟨h1, h2⟩, h3⟩ := hok
    have h2 := Nat.eq_of_beq_eq_true h2
    refine ⟨_, main n ?_, hsm n, by simp [Al.vl, Al.val, hk, AV.g, cp], hlt⟩
    unfold Lies
    rw [if_neg (by simp only; omega)]
    simp only [if_true]
    rw [← hcs n]
    exact ⟨_, (0, 0), hb, .inl rfl, by rw [List.size_toArray, gs_length, h2], max_of h3, by rw [List.size_toArray, gs_length]; exact Nat.le_refl _, by rw [List.take_of_length_le (by simp [gs_length])]⟩
def Frm.add (F : Frm) (w : World) (b : Nat) (hs : F.w.heap.size ≤ w.heap.size) (hb : b < w.heap.size) : Frm := ⟨w, fun i => F.pr i ∨ i = b, fun i hi => by
  rcases hi with hi | rfl
  · exact Nat.lt_of_lt_of_le (F.lt i hi) hs
  · exact hb⟩
def Frm.del (F : Frm) (b : Nat) : Frm := ⟨F.w, fun i => F.pr i ∧ i ≠ b, fun i hi => F.lt i hi.1⟩
theorem Rel.add (h : Rel w0 G y S w) {w' : World} (hx : Ext no w w') {b : Nat} (hs : w0.w.heap.size ≤ w'.heap.size) (hb : b < w'.heap.size) (hbn : w.heap.size ≤ b) : Rel (w0.add w' b hs hb) G y S w' :=
  have k := h.keep hx
  ⟨Ext.refl _ _, k.gl, k.lies, fun r R hr hG hp => by
    rcases hp with hp | hp
    · exact k.own r R hr hG hp
    · have := (h.lies r R hr).2.2.lt
      omega, k.inj, k.gn, Nat.le_trans k.gz hs⟩
theorem Rel.del (h : Rel w0 G y S w) (b : Nat) : Rel (w0.del b) G y S w :=
  ⟨h.ext.mono fun k _ hk hp => hk hp.1, h.gl, h.lies, fun r R hr hG hp => h.own r R hr hG hp.1, h.inj, h.gn, h.gz⟩
end
theorem getD_un {l : Array Bool} {k : Nat} : l.getD k true = false ↔ k < l.size ∧ l.getD k false = false := by
  rcases Nat.lt_or_ge k l.size with h | h
  · simp [h]
  · simp [Array.getD, h, Nat.not_lt.2 h]
theorem getD_put {l : Array Bool} {i k : Nat} : (l.setIfInBounds i true).getD k false = true ↔ l.getD k false = true ∨ (k = i ∧ k < l.size) := by
  by_cases e : k = i
  · subst e
    rcases Nat.lt_or_ge k l.size with h | h
    · simp [h]
    · simp [Array.getD, Nat.not_lt.2 h]
  · rw [Array.getD_eq_getD_getElem?, Array.getElem?_setIfInBounds_ne (Ne.symm e), ← Array.getD_eq_getD_getElem?]
    simp [e]
def markL (l : Array Bool) : List Nat → Array Bool
  | [] => l
  | i :: is => markL (l.setIfInBounds i true) is
theorem markL_size : ∀ (is : List Nat) (l : Array Bool), (markL l is).size = l.size
  | [], _ => rfl
  | i :: is, l => by rw [markL, markL_size is]; simp
theorem markL_get : ∀ (is : List Nat) (l : Array Bool) (k : Nat), (markL l is).getD k false = true ↔ l.getD k false = true ∨ (k ∈ is ∧ k < l.size)
  | [], l, k => by simp [markL]
  | i :: is, l, k => by
    rw [markL, markL_get is, getD_put]
    simp only [Array.size_setIfInBounds, List.mem_cons]
    constructor
    · rintro ((h | ⟨h1, h2⟩) | ⟨h1, h2⟩)
      · exact .inl h
      · exact .inr ⟨.inl h1, h2⟩
      · exact .inr ⟨.inr h1, h2⟩
    · rintro (h | ⟨h1 | h1, h2⟩)
      · exact .inl (.inl h)
      · exact .inl (.inr ⟨h1, h2⟩)
      · exact .inr ⟨h1, h2⟩
def cnt (l : Array Bool) : Nat := (l.toList.filter fun b => !b).length
theorem cnt_put {l : Array Bool} {i : Nat} (h : l.getD i true = false) : cnt (l.setIfInBounds i true) + 1 = cnt l := by
  rw [getD_un] at h
  obtain ⟨hi, hf⟩ := h
  have hg : l.toList[i]? = some false := by
    have : l[i]? = some l[i] := Array.getElem?_eq_getElem hi
    rw [Array.getElem?_toList, this]
    simp [hi] at hf
    rw [hf]
  have key : ∀ (xs : List Bool) (i : Nat), xs[i]? = some false → ((xs.set i true).filter fun b => !b).length + 1 = (xs.filter fun b => !b).length := by
    intro xs
    induction xs with
    | nil => intro i h; simp at h
    | cons x xs ih =>
      intro i h
      cases i with
      | zero =>
        simp only [List.getElem?_cons_zero, Option.some.injEq] at h
        subst h
        simp
      | succ i =>
        simp only [List.getElem?_cons_succ] at h
        have := ih i h
        rw [List.set_cons_succ, List.filter_cons, List.filter_cons]
        split
        · rw [List.length_cons, List.length_cons]; omega
        · exact this
  unfold cnt
  rw [Array.toList_setIfInBounds]
  exact key _ i hg
theorem ready_le {ops : Array Oper} {l l' : Array Bool} (hle : ∀ k, l.getD k false = true → l'.getD k false = true) {i : Nat} (hi : i ∈ Region.ready .any ops l) (hu : l'.getD i true = false) : i ∈ Region.ready .any ops l' := by
  rw [mem_ready] at hi ⊢
  obtain ⟨_, o, ho, hall⟩ := hi
  exact ⟨hu, o, ho, fun e he hb => hle _ (hall e he hb)⟩
end
end Go.Cx
namespace Go.Cx
open Go Go.Sx Go.RowKit
noncomputable section
def litEq : Value → Value → Bool
  | .int k a, .int j b => decide (k = j) && decide (a = b)
  | .string a, .string b => a == b
  | .bool a, .bool b => a == b
  | .pointer none, .pointer none => true
  | .slice none a b, .slice none c d => Nat.beq a c && Nat.beq b d
  | .map none, .map none => true
  | .nilFunc, .nilFunc => true
  | .nilIface, .nilIface => true
  | _, _ => false
theorem litEq_eq {a b : Value} (h : litEq a b = true) : a = b := by
  unfold litEq at h
  split at h
  · simp only [Bool.and_eq_true, decide_eq_true_eq] at h; rw [h.1, h.2]
  · rw [ba_eq.1 h]
  · rw [eq_of_beq h]
  · rfl
  · rw [Bool.and_eq_true] at h; rw [Nat.eq_of_beq_eq_true h.1, Nat.eq_of_beq_eq_true h.2]
  · rfl
  · rfl
  · rfl
  · cases h
mutual
def AV.eqb : AV → AV → Bool
  | .lit a, .lit b => litEq a b
  | .ptr r o, .ptr r' o' => Nat.beq r r' && Nat.beq o o'
  | .sl r i s n c, .sl r' i' s' n' c' => Nat.beq r r' && Nat.beq i i' && Nat.beq s s' && Nat.beq n n' && decide (c = c')
  | .se r i s l, .se r' i' s' l' => Nat.beq r r' && Nat.beq i i' && Nat.beq s s' && Nat.beq l l'
  | .mp r, .mp r' => Nat.beq r r'
  | .fn k fs cs, .fn k' fs' cs' => Nat.beq k k' && AV.eqbs fs fs' && AV.eqbs cs cs'
  | .agg l, .agg l' => AV.eqbs l l'
  | .tup l, .tup l' => AV.eqbs l l'
  | .ifc t v, .ifc t' v' => Nat.beq t t' && v.eqb v'
  | _, _ => false
def AV.eqbs : List AV → List AV → Bool
  | [], [] => true
  | v :: l, v' :: l' => v.eqb v' && AV.eqbs l l'
  | _, _ => false
end
mutual
theorem AV.eqb_eq : ∀ {a b : AV}, a.eqb b = true → a = b
  | .lit a, b, h => by cases b <;> first | (rw [AV.eqb] at h; rw [litEq_eq h]) | cases h
  | .ptr r o, b, h => by
    cases b <;> first | (simp only [AV.eqb, Bool.and_eq_true, Nat.beq_eq] at h; obtain ⟨rfl, rfl⟩ := h; rfl) | cases h
  | .sl r i s n c, b, h => by
    cases b <;> first | (simp only [AV.eqb, Bool.and_eq_true, Nat.beq_eq, decide_eq_true_eq] at h; obtain ⟨⟨⟨⟨rfl, rfl⟩, rfl⟩, rfl⟩, rfl⟩ := h; rfl) | cases h
  | .se r i s l, b, h => by
    cases b <;> first | (simp only [AV.eqb, Bool.and_eq_true, Nat.beq_eq] at h; obtain ⟨⟨⟨rfl, rfl⟩, rfl⟩, rfl⟩ := h; rfl) | cases h
  | .mp r, b, h => by cases b <;> first | (simp only [AV.eqb, Nat.beq_eq] at h; rw [h]) | cases h
  | .fn k fs cs, b, h => by
    cases b <;> first | (rw [AV.eqb, Bool.and_eq_true, Bool.and_eq_true] at h; rw [Nat.eq_of_beq_eq_true h.1.1, AV.eqbs_eq h.1.2, AV.eqbs_eq h.2]) | cases h
  | .agg l, b, h => by cases b <;> first | (rw [AV.eqb] at h; rw [AV.eqbs_eq h]) | cases h
  | .tup l, b, h => by cases b <;> first | (rw [AV.eqb] at h; rw [AV.eqbs_eq h]) | cases h
  | .ifc t v, b, h => by
    cases b <;> first | (rw [AV.eqb, Bool.and_eq_true] at h; rw [Nat.eq_of_beq_eq_true h.1, AV.eqb_eq h.2]) | cases h
theorem AV.eqbs_eq : ∀ {l m : List AV}, AV.eqbs l m = true → l = m
  | [], m, h => by cases m <;> first | rfl | cases h
  | v :: l, m, h => by
    cases m with
    | nil => cases h
    | cons v' m => rw [AV.eqbs, Bool.and_eq_true] at h; rw [AV.eqb_eq h.1, AV.eqbs_eq h.2]
end
def exRd (T : Tab) (S : AS) (e : Tr AV) (o : Oper) : Option AV := match kd o with
  | .ld t x => ldF T S e t x
  | .lk => exLk T S e o
  | _ => none
def exPu (P : Program) (T : Tab) (S : AS) (e : Tr AV) (o : Oper) : Option AV := match kd o with
  | .mv x => rdA e x
  | .bo op x z => orE (boF e op x z) (orE (exL P o e) (exC T e o))
  | .cv s d x => orE (cvF T e s d x) (exL P o e)
  | .ix t x i => orE (ixF T e t x i) (orE (exB T e o) (exL P o e))
  | .ln t x => orE (lnF T e t x) (orE (exC T e o) (exL P o e))
  | .ia t x i => iaF T e t x i
  | .fa t x f => faF T e t x f
  | .ex x k => exF e x k
  | .bi => orE (exC T e o) (exL P o e)
  | .vl => exX T e o
  | .sl => orE (exS T S e o) (orE (exSa T e o) (exL P o e))
  | .bd => exBd T e o
  | .ba => orE (exB T e o) (exL P o e)
  | .ot => orE (exA T e o) (exL P o e)
  | _ => none
abbrev HeldA := List (Nat × Oper × Tr AV × AV)
def heldOk (T : Tab) (S : AS) (x : Nat × Oper × Tr AV × AV) : Bool := match exRd T S x.2.2.1 x.2.1 with
  | some v => v.eqb x.2.2.2
  | none => false
def pickA (P : Program) (T : Tab) (G m : Nat) (ops : Array Oper) (listed : Array Bool) (S : AS) (e : Tr AV) : List Nat → Option (Nat × Oper × Bool × AV)
  | [] => none
  | i :: l => match nth ops.toList i with
    | none => none
    | some o => cond (dstOk m o && Region.free .any ops listed i) (match wantA ops.toList e o with
      | some false => some (i, o, false, .lit undef)
      | some true => cond (glsOk G o) (match exPu P T S e o with
        | some v => some (i, o, false, v)
        | none => match exRd T S e o with
          | some v => some (i, o, true, v)
          | none => pickA P T G m ops listed S e l) (pickA P T G m ops listed S e l)
      | none => pickA P T G m ops listed S e l) (pickA P T G m ops listed S e l)
def oneN : List Nat → Option Nat
  | [i] => some i
  | _ => none
def twoN : List Nat → Option (Nat × Nat)
  | [i, j] => some (i, j)
  | _ => none
def stripE (ops : List Oper) : List Nat → Tr AV → Tr AV
  | [], e => e
  | i :: l, e => match nth ops i with
    | some o => cond (isAl o) (match o.dst with | some d => stripE ops l (Tr.put (dp d) e d none) | none => stripE ops l e) (stripE ops l e)
    | none => stripE ops l e
abbrev AlL := List (Nat × Oper × Al)
def alsA (T : Tab) (G m : Nat) (ops : List Oper) (e : Tr AV) : List Nat → AlL
  | [] => []
  | i :: l => match nth ops i with
    | some o => cond (isAl o && dstOk m o && glsOk G o) (match alA T e o with | some x => (i, o, x) :: alsA T G m ops e l | none => alsA T G m ops e l) (alsA T G m ops e l)
    | none => alsA T G m ops e l
def inA (als : AlL) (i : Nat) : Bool := als.any fun x => Nat.beq x.1 i
def idA (als : AlL) : List Nat := als.map fun x => x.1
def Al.eqb (x z : Al) : Bool := Nat.beq x.t z.t && Nat.beq x.s z.s && AV.eqbs x.cells z.cells && decide (x.k = z.k)
def sameA (als dl : AlL) : Bool := dl.all fun x => als.any fun z => Nat.beq x.1 z.1 && x.2.2.eqb z.2.2
def clearA (als : AlL) (o : Oper) : Bool := als.all fun x => match x.2.1.dst, o.dst with | some d, some d' => !Nat.beq d d' | _, _ => true
def distA : AlL → Bool
  | [] => true
  | x :: l => clearA l x.2.1 && !inA l x.1 && distA l
def stA (T : Tab) (G : Nat) (S : AS) (e : Tr AV) (o : Oper) : Option (Nat × ARow × Nat × List AV) :=
  match o.op with
  | .store t x z => match rdA e x, rdA e z, T.sz t with
    | some (.ptr r k), some v, some s => match S.rows.get r with
      | some R => cond (glsOk G o && o.guard.isNone && o.dst.isNone && R.wr && Nat.beq v.cells.length s && Nat.ble (k + s) R.cells.length && Nat.ble G r && v.cells.all AV.one) (some (r, R, k, v.cells)) none
      | none => none
    | _, _, _ => none
  | _ => none
def dropH (o : Oper) (H : HeldA) : HeldA := H.filter fun x => noEdge o x.1
def listEq : List Nat → List Nat → Bool
  | [], [] => true
  | i :: l, j :: k => Nat.beq i j && listEq l k
  | _, _ => false
abbrev DrawS := Array Bool × HeldA × AlL × Tr AV × AS
def drawN (P : Program) (T : Tab) (G m : Nat) (call : CallF) (ops : Array Oper) (listed : Array Bool) (H : HeldA) (als : AlL) (e : Tr AV) (S : AS) (N : List Nat) : Option DrawS :=
  match pickA P T G m ops listed S e N with
  | some (i, o, hold, v) => cond (clearA als o) (some (listed.setIfInBounds i true, cond hold ((i, o, e, v) :: H) H, als, putD e o.dst v, S)) none
  | none => match oneN N with
    | some i => match nth ops.toList i with
      | none => none
      | some o => cond (dstOk m o && clearA als o && (als.isEmpty || listEq (Region.ready .any ops (markL listed (idA als))) [i] && H.all (heldOk T S))) (match wantA ops.toList e o with
        | some true => match stepC P T G call S e o with
          | some (v, S') => cond ((dropH o H).all (heldOk T S')) (some (listed.setIfInBounds i true, dropH o H, als, putD e o.dst v, S')) none
          | none => none
        | _ => none) none
    | none => match N, als with
      | [], (j, o, x) :: rest => cond ((rest.isEmpty || listEq (Region.ready .any ops (markL listed (idA rest))) [j]) && H.all (heldOk T S))
            (some (listed.setIfInBounds j true, dropH o H, rest, putD e o.dst (x.val S.next), S.al x)) none
      | _, [] => match twoN N with
        | some (i, j) => match nth ops.toList i, nth ops.toList j with
          | some o, some o' => match stA T G S e o, stA T G S e o' with
            | some (r, R, k, vs), some (r', R', k', vs') => cond (!Nat.beq r r' && !Nat.beq i j && listEq (Region.ready .any ops (listed.setIfInBounds i true)) [j] && listEq (Region.ready .any ops (listed.setIfInBounds j true)) [i]
                && (dropH o' (dropH o H)).isEmpty && (dropH o H).all (heldOk T (S.wr r R k vs)) && (dropH o' H).all (heldOk T (S.wr r' R' k' vs')))
                (some ((listed.setIfInBounds i true).setIfInBounds j true, [], [], e, (S.wr r R k vs).wr r' R' k' vs')) none
            | _, _ => none
          | _, _ => none
        | none => none
      | _, _ => none
def drawStep (P : Program) (T : Tab) (G m : Nat) (call : CallF) (ops : Array Oper) (rd : List Nat) (listed : Array Bool) (H : HeldA) (dl : AlL) (e : Tr AV) (S : AS) : Option DrawS :=
  cond (sameA (alsA T G m ops.toList (stripE ops.toList rd e) rd) dl && distA (alsA T G m ops.toList (stripE ops.toList rd e) rd))
    (drawN P T G m call ops listed H (alsA T G m ops.toList (stripE ops.toList rd e) rd) (stripE ops.toList rd e) S (rd.filter fun i => !inA (alsA T G m ops.toList (stripE ops.toList rd e) rd) i)) none
def drawOps (P : Program) (T : Tab) (G m : Nat) (call : CallF) (ops : Array Oper) : Nat → Array Bool → HeldA → AlL → Tr AV → AS → Option (Tr AV × AS)
  | 0, listed, _, _, e, S => cond (Region.ready .any ops listed).isEmpty (some (e, S)) none
  | f + 1, listed, H, dl, e, S => cond (Region.ready .any ops listed).isEmpty (some (e, S))
    (match drawStep P T G m call ops (Region.ready .any ops listed) listed H dl e S with
    | some (l, H', dl', e', S') => drawOps P T G m call ops f l H' dl' e' S'
    | none => none)
def valOf : Next → Sem Value
  | .value v => pure v
  | _ => stuck ""
theorem valOf_run {P : Program} {s : Sem Next} {w : World} {v : Value} (h : (s >>= valOf).run P w = .ok v w) : s.run P w = .ok (.value v) w := by
  rw [Sem.run_bind] at h
  cases hs : s.run P w with
  | halt x w' => rw [hs] at h; cases h
  | ok nx w1 =>
    rw [hs, Result.andThen_ok] at h
    cases nx <;> first | (have h : Result.ok _ w1 = Result.ok v w := h; cases h; rfl) | cases h
theorem valOf_mk {P : Program} {s : Sem Next} {w : World} {v : Value} (h : s.run P w = .ok (.value v) w) : (s >>= valOf).run P w = .ok v w := by
  rw [Sem.run_bind, h, Result.andThen_ok]
  rfl
section
variable {P : Program} {T : Tab} {y : Lay} {m n G : Nat} {e : Tr AV} {env : Env} {a : Act} {o : Oper} {v : AV} {w0 : Frm} {w : World} {S : AS} {call : CallF}
theorem exRd_of (hT : TabOk P T) (hR : Rel w0 G y S w) (ha : Agr m env a) (h : EnvR y S.next e env) (hg : glsOk G o = true) (hv : exRd T S e o = some v) : Cx.Reads P o a w (v.g y) ∧ v.lt S.next = true := by
  have hk := kd_eq o
  unfold exRd at hv
  generalize kd o = k at hv hk
  split at hv <;> simp only [KdOk] at hk
  · exact exLd_of hT hR ha h hg (by rw [ldF_eq hk]; exact hv)
  · exact exLk_of hT hR ha h hg hv
  · cases hv
theorem exPu_of (hT : TabOk P T) (hR : Rel w0 G y S w) (ha : Agr m env a) (h : EnvR y S.next e env) (hg : glsOk G o = true) (hv : exPu P T S e o = some v) : Makes P o a (v.g y) ∧ v.lt S.next = true := by
  have hk := kd_eq o
  unfold exPu at hv
  generalize kd o = k at hv hk
  split at hv <;> simp only [KdOk] at hk
  · refine exA_of hT ha h hR.gl hR.gn hg ?_
    unfold exA
    rcases hk with hk | hk <;> rw [hk] <;> exact hv
  · obtain ⟨t, t', hk⟩ := hk
    rcases orE_eq hv with hv | hv
    · exact boF_of ha h hk hv
    rcases orE_eq hv with hv | hv
    · exact exL_of ha h hv
    · exact exC_of hT ha h hR.gl hR.gn hg hv
  · rcases orE_eq hv with hv | hv
    · exact cvF_of hT ha h hk hv
    · exact exL_of ha h hv
  · rcases orE_eq hv with hv | hv
    · exact ixF_of hT ha h hR.gl hR.gn hg hk hv
    rcases orE_eq hv with hv | hv
    · exact exB_of hT ha h hR.gl hR.gn hg hv
    · exact exL_of ha h hv
  · obtain ⟨c, hc1, hc2, hc3, hc4⟩ := hk
    rcases orE_eq hv with hv | hv
    · exact lnF_of hT ha h hR.gl hR.gn hg hc1 hc2 hc3 hc4 hv
    rcases orE_eq hv with hv | hv
    · exact exC_of hT ha h hR.gl hR.gn hg hv
    · exact exL_of ha h hv
  · exact exB_of hT ha h hR.gl hR.gn hg (by rw [iaF_eq hk]; exact hv)
  · exact exA_of hT ha h hR.gl hR.gn hg (by rw [faF_eq hk]; exact hv)
  · exact exB_of hT ha h hR.gl hR.gn hg (by rw [exF_eq hk]; exact hv)
  · rcases orE_eq hv with hv | hv
    · exact exC_of hT ha h hR.gl hR.gn hg hv
    · exact exL_of ha h hv
  · exact exX_of hT hR ha h hg hv
  · rcases orE_eq hv with hv | hv
    · exact exS_of hT hR ha h hg hv
    rcases orE_eq hv with hv | hv
    · exact exSa_of hT ha h hR.gl hR.gn hg hv
    · exact exL_of ha h hv
  · exact exBd_of hT ha h hR.gl hR.gn hg hv
  · rcases orE_eq hv with hv | hv
    · exact exB_of hT ha h hR.gl hR.gn hg hv
    · exact exL_of ha h hv
  · rcases orE_eq hv with hv | hv
    · exact exA_of hT ha h hR.gl hR.gn hg hv
    · exact exL_of ha h hv
  · cases hv
inductive HeldR (G m : Nat) (y : Lay) (n : Nat) : HeldA → Held → Prop where
  | nil : HeldR G m y n [] []
  | cons {i : Nat} {o : Oper} {e : Tr AV} {v : AV} {env : Env} {a : Act} {H : HeldA} {L : Held} (ha : Agr m env a) (he : EnvR y n e env) (hg : glsOk G o = true) (hl : v.lt n = true) (h : HeldR G m y n H L) :
      HeldR G m y n ((i, o, e, v) :: H) ((i, [.r (execOp a.eval o >>= valOf) (v.g y)]) :: L)
theorem HeldR.mono {y y' : Lay} {n n' : Nat} (hs : Lay.same n y y') (hn : n ≤ n') {H : HeldA} {L : Held} (h : HeldR G m y n H L) : HeldR G m y' n' H L := by
  induction h with
  | nil => exact .nil
  | cons ha he hg hl _ ih => rw [AV.g_same hs hl]; exact .cons ha (he.mono hs hn) hg (AV.lt_mono hn hl) ih
theorem HeldR.filter (o : Oper) {H : HeldA} {L : Held} (h : HeldR G m y n H L) : HeldR G m y n (H.filter fun x => noEdge o x.1) (drop o L) := by
  induction h with
  | nil => exact .nil
  | @cons i _ _ _ _ _ _ _ ha he hg hl _ ih =>
    unfold drop at ih ⊢
    simp only [List.filter_cons]
    split
    · exact .cons ha he hg hl ih
    · exact ih
theorem HeldR.all (hT : TabOk P T) (hR : Rel w0 G y S w) {H : HeldA} {L : Held} (h : HeldR G m y S.next H L) (hok : H.all (heldOk T S) = true) : Hall P w L := by
  induction h with
  | nil => exact fun x hx => absurd hx List.not_mem_nil
  | @cons i o e v env a H L ha he hg hl _ ih =>
    rw [List.all_cons, Bool.and_eq_true] at hok
    intro x hx
    rcases List.mem_cons.1 hx with rfl | hx
    · intro f hf
      rw [List.mem_singleton] at hf
      subst hf
      have h1 := hok.1
      unfold heldOk at h1
      split at h1
      · rename_i v' hv'
        have := AV.eqb_eq h1
        simp only at this hv'
        subst this
        obtain ⟨⟨fs, q1, q2⟩, _⟩ := exRd_of hT hR ha he hg hv'
        exact valOf_mk (q1 w q2)
      · cases h1
    · exact ih hok.2 x hx
theorem pickA_of {ops : Array Oper} {listed : Array Bool} {hold : Bool} {i : Nat} : ∀ {l : List Nat}, pickA P T G m ops listed S e l = some (i, o, hold, v) →
    i ∈ l ∧ ops[i]? = some o ∧ dstOk m o = true ∧ Region.free .any ops listed i = true ∧
      ((wantA ops.toList e o = some false ∧ hold = false ∧ v = .lit undef) ∨ (wantA ops.toList e o = some true ∧ glsOk G o = true ∧ ((hold = false ∧ exPu P T S e o = some v) ∨ (hold = true ∧ exRd T S e o = some v))))
  | [], h => by cases h
  | j :: l, h => by
    have rest : pickA P T G m ops listed S e l = some (i, o, hold, v) → _ := fun h => (pickA_of h).imp (List.mem_cons_of_mem j) id
    rw [pickA] at h
    split at h
    · cases h
    · rename_i oj hoj
      have hoj : ops[j]? = some oj := by rw [nth_eq] at hoj; simpa using hoj
      cases hb : (dstOk m oj && Region.free .any ops listed j) <;> rw [hb] at h
      · exact rest h
      · rw [Bool.and_eq_true] at hb
        simp only [cond_true] at h
        split at h
        · rename_i hw
          cases h
          exact ⟨List.mem_cons_self, hoj, hb.1, hb.2, .inl ⟨hw, rfl, rfl⟩⟩
        · rename_i hw
          cases hg : glsOk G oj <;> rw [hg] at h
          · exact rest h
          · simp only [cond_true] at h
            split at h
            · rename_i u hu
              cases h
              exact ⟨List.mem_cons_self, hoj, hb.1, hb.2, .inr ⟨hw, hg, .inl ⟨rfl, hu⟩⟩⟩
            · split at h
              · rename_i u hu
                cases h
                exact ⟨List.mem_cons_self, hoj, hb.1, hb.2, .inr ⟨hw, hg, .inr ⟨rfl, hu⟩⟩⟩
              · exact rest h
        · exact rest h
end
end
end Go.Cx
namespace Go.Cx
open Go Go.Sx Go.RowKit
noncomputable section
theorem stripE_get {ops : List Oper} : ∀ (l : List Nat) (e : Tr AV) {t : Nat} {v : AV}, (stripE ops l e).get t = some v → e.get t = some v ∧ ∀ i ∈ l, ∀ o, nth ops i = some o → isAl o = true → o.dst ≠ some t
  | [], e, t, v, h => ⟨h, fun i hi => by cases hi⟩
  | i :: l, e, t, v, h => by
    rw [stripE] at h
    split at h
    · rename_i o ho
      cases hal : isAl o <;> rw [hal] at h
      · obtain ⟨h1, h2⟩ := stripE_get l e h
        refine ⟨h1, fun j hj => ?_⟩
        rcases List.mem_cons.1 hj with rfl | hj
        · intro o' ho' ha'
          rw [ho] at ho'
          cases ho'
          rw [hal] at ha'
          cases ha'
        · exact h2 j hj
      · simp only [cond_true] at h
        split at h
        · rename_i d hd
          obtain ⟨h1, h2⟩ := stripE_get l _ h
          rw [Tr.put_get] at h1
          by_cases e1 : t = d
          · rw [if_pos e1] at h1; cases h1
          · rw [if_neg e1] at h1
            refine ⟨h1, fun j hj => ?_⟩
            rcases List.mem_cons.1 hj with rfl | hj
            · intro o' ho' _
              rw [ho] at ho'
              cases ho'
              rw [hd]
              intro h0
              cases h0
              exact e1 rfl
            · exact h2 j hj
        · rename_i hd
          obtain ⟨h1, h2⟩ := stripE_get l _ h
          refine ⟨h1, fun j hj => ?_⟩
          rcases List.mem_cons.1 hj with rfl | hj
          · intro o' ho' _
            rw [ho] at ho'
            cases ho'
            rw [hd]
            intro h0
            cases h0
          · exact h2 j hj
    · rename_i ho
      obtain ⟨h1, h2⟩ := stripE_get l e h
      refine ⟨h1, fun j hj => ?_⟩
      rcases List.mem_cons.1 hj with rfl | hj
      · intro o' ho'
        rw [ho] at ho'
        cases ho'
      · exact h2 j hj
theorem alsA_mem {T : Tab} {G m : Nat} {ops : List Oper} {e : Tr AV} : ∀ {l : List Nat} {z : Nat × Oper × Al}, z ∈ alsA T G m ops e l → z.1 ∈ l ∧ nth ops z.1 = some z.2.1 ∧ isAl z.2.1 = true ∧ dstOk m z.2.1 = true ∧ glsOk G z.2.1 = true ∧ alA T e z.2.1 = some z.2.2
  | [], z, h => by cases h
  | i :: l, z, h => by
    have rest : z ∈ alsA T G m ops e l → _ := fun h => (alsA_mem h).imp (List.mem_cons_of_mem i) id
    rw [alsA] at h
    split at h
    · rename_i o ho
      cases hb : (isAl o && dstOk m o && glsOk G o) <;> rw [hb] at h
      · exact rest h
      · simp only [cond_true] at h
        split at h
        · rename_i x hx
          rcases List.mem_cons.1 h with rfl | h
          · simp only [Bool.and_eq_true] at hb
            exact ⟨List.mem_cons_self, ho, hb.1.1, hb.1.2, hb.2, hx⟩
          · exact rest h
        · exact rest h
    · exact rest h
theorem isAl_of {o : Oper} (h : isAl o = true) : o.guard = none ∧ ∃ d, o.dst = some d := by
  unfold isAl at h
  split at h <;> first | (simp only [Bool.and_eq_true] at h; exact ⟨by simpa using h.2, Option.isSome_iff_exists.1 h.1⟩) | cases h
theorem wanted_none {o : Oper} (h : o.guard = none) (f : Nat → Option Bool) : Region.wanted o f = true := by simp [Region.wanted, h]
theorem Al.eqb_eq {x z : Al} (h : x.eqb z = true) : x = z := by
  simp only [Al.eqb, Bool.and_eq_true, decide_eq_true_eq] at h
  obtain ⟨⟨⟨h1, h2⟩, h3⟩, h4⟩ := h
  cases x
  cases z
  simp only at h1 h2 h3 h4
  rw [Nat.eq_of_beq_eq_true h1, Nat.eq_of_beq_eq_true h2, AV.eqbs_eq h3, h4]
theorem listEq_eq : ∀ {l k : List Nat}, listEq l k = true → l = k
  | [], k, h => by cases k <;> first | rfl | cases h
  | i :: l, k, h => by
    cases k with
    | nil => cases h
    | cons j k => rw [listEq, Bool.and_eq_true] at h; rw [Nat.eq_of_beq_eq_true h.1, listEq_eq h.2]
theorem inA_iff {als : AlL} {i : Nat} : inA als i = true ↔ i ∈ idA als := by
  simp only [inA, idA, List.any_eq_true, List.mem_map]
  constructor
  · rintro ⟨x, h1, h2⟩; exact ⟨x, h1, Nat.eq_of_beq_eq_true h2⟩
  · rintro ⟨x, h1, h2⟩; exact ⟨x, h1, beqT h2⟩
theorem clearA_of {als : AlL} {o : Oper} (h : clearA als o = true) : ∀ x ∈ als, ∀ d, x.2.1.dst = some d → o.dst ≠ some d := fun x hx d hd ho => by
  have := List.all_eq_true.1 h x hx
  rw [hd, ho] at this
  simp at this
theorem distA_of : ∀ {als : AlL}, distA als = true → ∀ x ∈ als, ∀ z ∈ als, x.1 ≠ z.1 → ∀ d, x.2.1.dst = some d → z.2.1.dst ≠ some d
  | [], _, x, hx, _, _, _, _, _ => by cases hx
  | q :: l, h, x, hx, z, hz, hne, d, hd => by
    rw [distA, Bool.and_eq_true, Bool.and_eq_true] at h
    obtain ⟨⟨h1, _⟩, h2⟩ := h
    rcases List.mem_cons.1 hx with hxe | hx2 <;> rcases List.mem_cons.1 hz with hze | hz2
    · exact absurd (by rw [hxe, hze]) hne
    · intro hd2
      exact clearA_of h1 z hz2 d hd2 (by rw [← hxe]; exact hd)
    · rw [hze]
      exact clearA_of h1 x hx2 d hd
    · exact distA_of h2 x hx2 z hz2 hne d hd
theorem distA_one : ∀ {als : AlL}, distA als = true → ∀ x ∈ als, ∀ z ∈ als, x.1 = z.1 → x = z
  | [], _, x, hx, _, _, _ => by cases hx
  | q :: l, h, x, hx, z, hz, he => by
    rw [distA, Bool.and_eq_true, Bool.and_eq_true] at h
    obtain ⟨⟨_, h1⟩, h2⟩ := h
    have h1 : q.1 ∉ idA l := fun hm => by rw [inA_iff.2 hm] at h1; cases h1
    rcases List.mem_cons.1 hx with hxe | hx2 <;> rcases List.mem_cons.1 hz with hze | hz2
    · rw [hxe, hze]
    · exact absurd (List.mem_map.2 ⟨z, hz2, by rw [← he, hxe]⟩) h1
    · exact absurd (List.mem_map.2 ⟨x, hx2, by rw [he, hze]⟩) h1
    · exact distA_one h2 x hx2 z hz2 he
def edgeI (ops : Array Oper) (j i : Nat) : Bool := match ops[j]? with | some o => noEdge o i | none => true
def hP (ops : Array Oper) (Pd : List (Nat × Al × Nat)) (H : HeldA) : HeldA := H.filter fun x => Pd.all fun p => edgeI ops p.1 x.1
structure DS (P : Program) (T : Tab) (G m : Nat) (ops : Array Oper) (F0 : Frm) (y0 : Lay) (n0 : Nat) (D : List DefA) (listed : Array Bool) (H : HeldA) (dl : AlL) (e : Tr AV) (S : AS)
    (F : Frm) (y : Lay) (Pd : List (Nat × Al × Nat)) (k : Nat) (L : Held) (lr : Array Bool) (a : Act) (w : World) : Prop where
  hF : ∀ i, F0.pr i → F.pr i
  e0 : Ext (fun i => ¬ F0.pr i) F0.w w
  R : Rel F G y S w
  g0 : G ≤ F0.w.heap.size
  fz : F0.w.heap.size ≤ F.w.heap.size
  sm : Lay.same n0 y0 y
  le : n0 ≤ S.next
  sz : a.tmps.size = m
  ev : ∀ t v, e.get t = some v → v.lt S.next = true ∧ ((∀ p ∈ Pd, ∀ o, ops[p.1]? = some o → o.dst ≠ some t) → a.tmps[t]? = some (v.g y))
  df : DefR y S.next D a.defers
  hd : HeldR G m y S.next (hP ops Pd H) L
  al : Hall P w L
  s1 : listed.size = ops.size
  s2 : lr.size = ops.size
  ls : ∀ k, lr.getD k false = true ↔ listed.getD k false = true ∨ k ∈ Pd.map (·.1)
  cn : k = cnt lr
  pd : ∀ p ∈ Pd, p.1 ∈ Region.ready .any ops listed ∧ ∃ o d, (p.1, o, p.2.1) ∈ dl ∧ ops[p.1]? = some o ∧ isAl o = true ∧ o.dst = some d ∧ d < m ∧ a.tmps[d]? = some (p.2.1.vl p.2.2) ∧
    w.heap[p.2.2]? = some (.cells (AV.gs y p.2.1.cells).toArray p.2.1.t (0, 0)) ∧ AV.lts S.next p.2.1.cells = true ∧ p.2.1.ok = true ∧ F.pr p.2.2 ∧ F0.w.heap.size ≤ p.2.2
  nd : (Pd.map (·.1)).Nodup
  nb : (Pd.map (·.2.2)).Nodup
section
variable {P : Program} {T : Tab} {G m : Nat} {ops : Array Oper} {F0 F : Frm} {y0 y : Lay} {n0 : Nat} {D : List DefA} {listed lr : Array Bool} {H : HeldA} {dl als : AlL} {e : Tr AV} {S : AS} {Pd : List (Nat × Al × Nat)} {k : Nat} {L : Held} {a : Act} {w : World} {call : CallF} {Q : Exit → Act → World → Prop}
theorem nth_arr {i : Nat} {o : Oper} (h : nth ops.toList i = some o) : ops[i]? = some o := by rw [nth_eq] at h; simpa using h
theorem DS.env (h : DS P T G m ops F0 y0 n0 D listed H dl e S F y Pd k L lr a w) (hc : ∀ p ∈ Pd, ∀ o, ops[p.1]? = some o → ∀ d, o.dst = some d → e.get d = none) :
    Agr m (fun t => (e.get t).map (AV.g y)) (nod a) ∧ EnvR y S.next e (fun t => (e.get t).map (AV.g y)) := by
  refine ⟨⟨rfl, h.sz, fun t v hv => ?_⟩, fun t => rfl, fun t v hv => (h.ev t v hv).1⟩
  cases hq : e.get t with
  | none => rw [hq] at hv; cases hv
  | some u =>
    rw [hq] at hv
    cases hv
    refine (h.ev t u hq).2 fun p hp o ho hd => ?_
    rw [hc p hp o ho t hd] at hq
    cases hq
theorem DS.prep (h : DS P T G m ops F0 y0 n0 D listed H dl e S F y Pd k L lr a w) {rd : List Nat}
    (hs : sameA (alsA T G m ops.toList (stripE ops.toList rd e) rd) dl = true) :
    DS P T G m ops F0 y0 n0 D listed H (alsA T G m ops.toList (stripE ops.toList rd e) rd) (stripE ops.toList rd e) S F y Pd k L lr a w := by
  refine { h with ev := fun t v hv => h.ev t v (stripE_get rd e hv).1, pd := fun p hp => ?_ }
  obtain ⟨h1, o, d, h2, h3, hrest⟩ := h.pd p hp
  refine ⟨h1, o, d, ?_, h3, hrest⟩
  have := List.all_eq_true.1 hs _ h2
  obtain ⟨z, hz, hz2⟩ := List.any_eq_true.1 this
  rw [Bool.and_eq_true] at hz2
  have e1 : p.1 = z.1 := Nat.eq_of_beq_eq_true hz2.1
  have e2 : p.2.1 = z.2.2 := Al.eqb_eq hz2.2
  obtain ⟨_, q2, _⟩ := alsA_mem hz
  have q2 := nth_arr q2
  rw [← e1, h3] at q2
  cases q2
  obtain ⟨z1, z2, z3⟩ := z
  simp only at e1 e2 hz
  rw [e1, e2]
  exact hz
theorem DS.un (h : DS P T G m ops F0 y0 n0 D listed H dl e S F y Pd k L lr a w) {i : Nat} (hi : lr.getD i true = false) : listed.getD i true = false ∧ i ∉ Pd.map (·.1) := by
  rw [getD_un] at hi ⊢
  have hn : ¬ (listed.getD i false = true ∨ i ∈ Pd.map (·.1)) := fun hh => by rw [(h.ls i).2 hh] at hi; cases hi.2
  exact ⟨⟨by rw [h.s1, ← h.s2]; exact hi.1, by simpa using fun hh => hn (.inl hh)⟩, fun hh => hn (.inr hh)⟩
theorem DS.un' (h : DS P T G m ops F0 y0 n0 D listed H dl e S F y Pd k L lr a w) {i : Nat} (hi : listed.getD i true = false) (hp : i ∉ Pd.map (·.1)) : lr.getD i true = false := by
  rw [getD_un] at hi ⊢
  refine ⟨by rw [h.s2, ← h.s1]; exact hi.1, ?_⟩
  cases hq : lr.getD i false
  · rfl
  · rcases (h.ls i).1 hq with h1 | h1
    · rw [h1] at hi; cases hi.2
    · exact absurd h1 hp
theorem DS.ready (h : DS P T G m ops F0 y0 n0 D listed H dl e S F y Pd k L lr a w) {i : Nat} (hi : i ∈ Region.ready .any ops listed) (hp : i ∉ Pd.map (·.1)) : i ∈ Region.ready .any ops lr :=
  ready_le (fun k hk => (h.ls k).2 (.inl hk)) hi (h.un' (mem_ready.1 hi).1 hp)
theorem DS.pos (h : DS P T G m ops F0 y0 n0 D listed H dl e S F y Pd k L lr a w) {i : Nat} (hi : i ∈ Region.ready .any ops lr) : ∃ k', k = k' + 1 ∧ k' = cnt (lr.setIfInBounds i true) :=
  ⟨_, by rw [h.cn, cnt_put (mem_ready.1 hi).1], rfl⟩
theorem DS.only (h : DS P T G m ops F0 y0 n0 D listed H dl e S F y Pd k L lr a w) {als : AlL} {X : List Nat} (hsub : ∀ p ∈ Pd, p.1 ∈ idA als) (hr : Region.ready .any ops (markL listed (idA als)) = X) {i : Nat} (hi : i ∈ Region.ready .any ops lr) : i ∈ X ∨ i ∈ idA als := by
  by_cases hm : i ∈ idA als
  · exact .inr hm
  · refine .inl (hr ▸ ready_le (fun k hk => (markL_get _ _ _).2 ?_) hi ?_)
    · rcases (h.ls k).1 hk with h1 | h1
      · exact .inl h1
      · obtain ⟨p, hp, rfl⟩ := List.mem_map.1 h1
        exact .inr ⟨hsub p hp, (getD_un.1 (mem_ready.1 (h.pd p hp).1).1).1⟩
    · obtain ⟨h1, _⟩ := h.un (mem_ready.1 hi).1
      rw [getD_un] at h1 ⊢
      refine ⟨by rw [markL_size]; exact h1.1, ?_⟩
      cases hq : (markL listed (idA als)).getD i false
      · rfl
      · rcases (markL_get _ _ _).1 hq with h2 | h2
        · rw [h2] at h1; cases h1.2
        · exact absurd h2.1 hm
theorem hP_cons (j : Nat) (x : Al) (b : Nat) {o : Oper} (ho : ops[j]? = some o) : hP ops ((j, x, b) :: Pd) H = (hP ops Pd H).filter fun z => noEdge o z.1 := by
  unfold hP
  rw [List.filter_filter]
  congr 1
  funext z
  simp only [List.all_cons, edgeI, ho]
theorem hP_drop (o : Oper) : hP ops Pd (dropH o H) = (hP ops Pd H).filter fun z => noEdge o z.1 := by
  unfold hP dropH
  rw [List.filter_filter, List.filter_filter]
  congr 1
  funext z
  rw [Bool.and_comm]
theorem all_filter {f g : Nat × Oper × Tr AV × AV → Bool} {H : HeldA} (h : H.all f = true) : (H.filter g).all f = true := List.all_eq_true.2 fun x hx => List.all_eq_true.1 h x (List.mem_filter.1 hx).1
theorem DS.early (hT : TabOk P T) (h : DS P T G m ops F0 y0 n0 D listed H als e S F y Pd k L lr a w) (hals : ∀ z ∈ als, z.1 ∈ Region.ready .any ops listed ∧ ops[z.1]? = some z.2.1 ∧ isAl z.2.1 = true ∧ dstOk m z.2.1 = true ∧ glsOk G z.2.1 = true ∧ alA T e z.2.1 = some z.2.2)
    (hst : ∀ p ∈ Pd, ∀ o, ops[p.1]? = some o → ∀ d, o.dst = some d → e.get d = none) (hdist : distA als = true) {j : Nat} {o : Oper} {x : Al} (hj : (j, o, x) ∈ als) (hun : j ∉ Pd.map (·.1)) (hH : H.all (heldOk T S) = true)
    (next : ∀ F' Pd' k' L' lr' a' w', k' < k → DS P T G m ops F0 y0 n0 D listed H als e S F' y Pd' k' L' lr' a' w' → wpAnyL P ops Q k' L' lr' a' w') {k' : Nat} (hk : k = k' + 1) :
    wpOp P ops Q j (fun a' w' => Hall P w' (dropI ops j L) ∧ wpAnyL P ops Q k' (dropI ops j L) (lr.setIfInBounds j true) a' w') a w := by
  obtain ⟨h1, ho, h3, h4, h5, h6⟩ := hals _ hj
  simp only at h1 ho h3 h4 h5 h6
  obtain ⟨hgd, d, hd⟩ := isAl_of h3
  obtain ⟨ha, he⟩ := h.env hst
  obtain ⟨q1, q2, q3⟩ := alA_of (w := w) hT he h.R.gl h.R.gn h5 h6
  have hdlt : d < m := dstOk_of h4 d hd
  have hrl := h.ready h1 hun
  have hunl := (mem_ready.1 hrl).1
  unfold wpOp
  rw [ho]
  simp only
  rw [if_pos (wanted_none hgd _)]
  refine .inl (Oper.wp_mono ?_ (wp_nod (evEff_of ha q3 _) Q))
  rintro a' w' ⟨u, rfl, rfl, rfl⟩
  have hdr : dropI ops j L = drop o L := by simp [dropI, ho]
  have hs1 : F.w.heap.size ≤ (w.alloc (.cells (AV.gs y x.cells).toArray x.t)).heap.size := Nat.le_trans h.R.ext.size (by simp)
  have hb1 : w.heap.size < (w.alloc (.cells (AV.gs y x.cells).toArray x.t)).heap.size := by simp
  have hR1 := h.R.add (Ext.alloc w (.cells (AV.gs y x.cells).toArray x.t)) hs1 hb1 (Nat.le_refl _)
  have hH1 : HeldR G m y S.next (hP ops ((j, x, w.heap.size) :: Pd) H) (drop o L) := by
    rw [hP_cons j x _ ho]
    exact h.hd.filter o
  have hL1 : Hall P (w.alloc (.cells (AV.gs y x.cells).toArray x.t)) (drop o L) := hH1.all hT hR1 (by unfold hP; exact all_filter hH)
  rw [hdr]
  have htm : ∀ t, t ≠ d → (a.put o.dst (x.vl w.heap.size)).tmps[t]? = a.tmps[t]? := fun t ht => by
    rw [hd]
    simp only [Act.put]
    rw [Array.getElem?_setIfInBounds_ne (Ne.symm ht)]
  have htd : (a.put o.dst (x.vl w.heap.size)).tmps[d]? = some (x.vl w.heap.size) := by
    rw [hd]
    simp [Act.put, h.sz, hdlt]
  refine ⟨hL1, next (F.add _ _ hs1 hb1) ((j, x, w.heap.size) :: Pd) k' _ _ _ _ (by omega) { h with
    hF := fun i hi => Or.inl (h.hF i hi), e0 := h.e0.then (Ext.alloc w _) (fun _ _ hf => hf.elim), R := hR1, fz := Nat.le_trans h.e0.size (by simp [Frm.add]), sz := by rw [hd]; simp [Act.put, h.sz], ev := fun t v hv => ⟨(h.ev t v hv).1, fun hne => ?_⟩
    df := by rw [put_defers]; exact h.df, hd := hH1, al := hL1, s2 := by simp [h.s2], ls := fun q => ?_, cn := by have := cnt_put hunl; have := h.cn; omega, pd := fun p hp => ?_, nd := by rw [List.map_cons, List.nodup_cons]; exact ⟨hun, h.nd⟩, nb := ?_ }⟩
  · have hne2 : t ≠ d := fun e0 => hne _ List.mem_cons_self o ho (by rw [hd, e0])
    rw [htm t hne2]
    exact (h.ev t v hv).2 fun p hp => hne p (List.mem_cons_of_mem _ hp)
  · rw [getD_put, h.ls q]
    simp only [List.map_cons, List.mem_cons]
    have hsz := (getD_un.1 hunl).1
    constructor
    · rintro ((h1 | h1) | ⟨h1, _⟩)
      · exact .inl h1
      · exact .inr (.inr h1)
      · exact .inr (.inl h1)
    · rintro (h1 | h1 | h1)
      · exact .inl (.inl h1)
      · exact .inr ⟨h1, by rw [h1]; exact hsz⟩
      · exact .inl (.inr h1)
  · rcases List.mem_cons.1 hp with rfl | hp
    · exact ⟨h1, o, d, hj, ho, h3, hd, hdlt, htd, Array.getElem?_push_size, q1, q2, .inr rfl, h.e0.size⟩
    · obtain ⟨p1, o2, d2, p2, p3, p4, p5, p6, p7, p8, p9, p10, p11, p12⟩ := h.pd p hp
      have hne : p.1 ≠ j := fun e0 => hun (List.mem_map.2 ⟨p, hp, e0⟩)
      have hd2 : d2 ≠ d := fun e0 => distA_of hdist _ p2 _ hj hne d2 p5 (by rw [e0]; exact hd)
      refine ⟨p1, o2, d2, p2, p3, p4, p5, p6, by rw [htm d2 hd2]; exact p7, ?_, p9, p10, .inl p11, p12⟩
      exact (Ext.alloc w _).blk p8 fun hf => hf
  · rw [List.map_cons, List.nodup_cons]
    refine ⟨fun hm => ?_, h.nb⟩
    obtain ⟨p, hp, hpe⟩ := List.mem_map.1 hm
    obtain ⟨_, _, _, _, _, _, _, _, _, p8, _⟩ := h.pd p hp
    have h9 : p.2.2 < w.heap.size := blk_lt p8
    have hpe : p.2.2 = w.heap.size := hpe
    omega
end
end
end Go.Cx
namespace Go.Cx
open Go Go.Sx Go.RowKit
noncomputable section
section
variable {P : Program} {T : Tab} {G m : Nat} {ops : Array Oper} {F0 F : Frm} {y0 y : Lay} {n0 : Nat} {D : List DefA} {listed lr : Array Bool} {H : HeldA} {dl als : AlL} {e : Tr AV} {S : AS} {Pd : List (Nat × Al × Nat)} {k : Nat} {L : Held} {a : Act} {w : World} {call : CallF} {Q : Exit → Act → World → Prop}
theorem edge_ready {i j : Nat} (hj : j ∈ Region.ready .any ops listed) (hi : listed.getD i true = false) : edgeI ops j i = true := by
  obtain ⟨_, o, ho, hall⟩ := mem_ready.1 hj
  unfold edgeI
  rw [ho]
  simp only [noEdge, List.all_eq_true, Bool.or_eq_true]
  intro e he
  cases hb : Region.binds .any e
  · exact .inl rfl
  · refine .inr ?_
    have h1 := hall e (by simpa using he) hb
    rw [getD_un] at hi
    have : e.on ≠ i := fun h0 => by rw [h0] at h1; rw [h1] at hi; cases hi.2
    simpa using this
theorem put_get_ne {d : Option Tmp} {t : Nat} {v : Value} (h : d ≠ some t) : (a.put d v).tmps[t]? = a.tmps[t]? := by
  cases d with
  | none => rfl
  | some d =>
    simp only [Act.put]
    rw [Array.getElem?_setIfInBounds_ne (fun e => h (by rw [e]))]
theorem put_size (d : Option Tmp) (v : Value) : (a.put d v).tmps.size = a.tmps.size := by
  cases d with
  | none => rfl
  | some d => simp [Act.put]
theorem putD_get {d : Option Tmp} {t : Nat} {u v : AV} (h : (putD e d v).get t = some u) : (d = some t ∧ u = v) ∨ (d ≠ some t ∧ e.get t = some u) := by
  cases d with
  | none => exact .inr ⟨by simp, h⟩
  | some d =>
    simp only [putD, Tr.put_get] at h
    by_cases e1 : t = d
    · rw [if_pos e1] at h
      cases h
      exact .inl ⟨by rw [e1], rfl⟩
    · rw [if_neg e1] at h
      exact .inr ⟨fun h0 => e1 (by cases h0; rfl), h⟩
theorem ls_put (h : DS P T G m ops F0 y0 n0 D listed H dl e S F y Pd k L lr a w) (i : Nat) : ∀ q, (lr.setIfInBounds i true).getD q false = true ↔ (listed.setIfInBounds i true).getD q false = true ∨ q ∈ Pd.map (·.1) := fun q => by
  rw [getD_put, getD_put, h.ls q, h.s1, h.s2]
  constructor
  · rintro ((h1 | h1) | h1)
    · exact .inl (.inl h1)
    · exact .inr h1
    · exact .inl (.inr h1)
  · rintro ((h1 | h1) | h1)
    · exact .inl (.inl h1)
    · exact .inr h1
    · exact .inl (.inr h1)
theorem DS.pick (hT : TabOk P T) (hsel : Region.noSelect ops = true) (hQ : ∀ c a w, ¬ Q (.panic c) a w) (h : DS P T G m ops F0 y0 n0 D listed H als e S F y Pd k L lr a w)
    (hst : ∀ p ∈ Pd, ∀ o, ops[p.1]? = some o → ∀ d, o.dst = some d → e.get d = none) {N : List Nat} (hN : ∀ i ∈ N, i ∈ Region.ready .any ops listed ∧ i ∉ idA als) {i : Nat} {o : Oper} {hold : Bool} {v : AV}
    (hp : pickA P T G m ops listed S e N = some (i, o, hold, v)) (hcl : clearA als o = true)
    (next : ∀ k' L' lr' a' w', DS P T G m ops F0 y0 n0 D (listed.setIfInBounds i true) (cond hold ((i, o, e, v) :: H) H) als (putD e o.dst v) S F y Pd k' L' lr' a' w' → wpAnyL P ops Q k' L' lr' a' w') : wpAnyL P ops Q k L lr a w := by
  obtain ⟨hiN, ho, hd, hf, hc⟩ := pickA_of hp
  obtain ⟨hir, hia⟩ := hN i hiN
  have hiP : i ∉ Pd.map (·.1) := fun hm => by
    obtain ⟨p, hp2, rfl⟩ := List.mem_map.1 hm
    obtain ⟨_, o2, _, h2, _⟩ := h.pd p hp2
    exact hia (List.mem_map.2 ⟨_, h2, rfl⟩)
  have hir2 := h.ready hir hiP
  obtain ⟨k', rfl, hk'⟩ := h.pos hir2
  obtain ⟨ha, he⟩ := h.env hst
  have hq' : ∀ {u : Value} c a w, Q (.panic c) (a.put o.dst u) w → Q (.panic c) a w := fun c a w hh => absurd hh (hQ _ _ _)
  have hfree : ∀ j oj, ops[j]? = some oj → j ≠ i → lr.getD j true = false → (∀ e ∈ oj.after, Region.binds .any e = true → e.on ≠ i) → o.apart ops oj = true := fun j oj hj hne hun hno => Region.free_spec ho hf j oj hj hne (h.un hun).1 hno
  have yield : ∀ {u : Value} {fs : List Fact}, YieldsIf P ops (fun w => Hold P w fs) o u a → Hold P w fs →
      wpAnyL P ops Q k' ((i, fs) :: L) (lr.setIfInBounds i true) (a.put o.dst u) w → wpAnyL P ops Q (k' + 1) L lr a w := fun hy hfs hh =>
    wpAnyL_first ho (Region.noSelect_spec hsel) hq' _ _ _ _ _ hfree hir2 hy hfs h.al hh
  have hn : Hold P w [] := fun x hx => by simp at hx
  have mk : ∀ {u : AV} {H' : HeldA} {L' : Held}, u.lt S.next = true → HeldR G m y S.next (hP ops Pd H') L' → Hall P w L' →
      DS P T G m ops F0 y0 n0 D (listed.setIfInBounds i true) H' als (putD e o.dst u) S F y Pd k' L' (lr.setIfInBounds i true) (a.put o.dst (u.g y)) w := fun hu hH hL =>
    { h with
      sz := by rw [put_size]; exact h.sz, df := by rw [put_defers]; exact h.df, hd := hH, al := hL, s1 := by simp [h.s1], s2 := by simp [h.s2], ls := ls_put h i, cn := hk'
      ev := fun t x hx => by
        rcases putD_get hx with ⟨h1, rfl⟩ | ⟨h1, h2⟩
        · refine ⟨hu, fun _ => ?_⟩
          have hlt : t < m := dstOk_of hd t h1
          rw [h1]
          simp [Act.put, h.sz, hlt]
        · refine ⟨(h.ev t x h2).1, fun hne => ?_⟩
          rw [put_get_ne h1]
          exact (h.ev t x h2).2 hne
      pd := fun p hp => by
        obtain ⟨p1, o2, d2, p2, p3, p4, p5, p6, p7, prest⟩ := h.pd p hp
        refine ⟨ready_mono p1 (fun e0 => hiP (List.mem_map.2 ⟨p, hp, e0⟩)), o2, d2, p2, p3, p4, p5, p6, ?_, prest⟩
        rw [put_get_ne (clearA_of hcl _ p2 d2 p5)]
        exact p7 }
  rcases hc with ⟨hw, rfl, rfl⟩ | ⟨hw, hg, ⟨rfl, hv⟩ | ⟨rfl, hv⟩⟩
  · exact yield (u := undef) (fs := []) (.inr ⟨wantA_of ha he hw, rfl⟩) hn (wpAnyL_push (next _ _ _ _ _ (mk (u := .lit undef) rfl h.hd h.al)))
  · obtain ⟨q1, q2⟩ := exPu_of hT h.R ha he hg hv
    exact yield (u := v.g y) (fs := []) (.inl ⟨wantA_of ha he hw, fun w _ => q1 w⟩) hn (wpAnyL_push (next _ _ _ _ _ (mk q2 h.hd h.al)))
  · obtain ⟨⟨fs, q1, q3⟩, q2⟩ := exRd_of hT h.R ha he hg hv
    have hfact : Hold P w [.r (execOp (nod a).eval o >>= valOf) (v.g y)] := fun x hx => by
      rw [List.mem_singleton] at hx
      subst hx
      exact valOf_mk (q1 w q3)
    refine yield (u := v.g y) (fs := [.r (execOp (nod a).eval o >>= valOf) (v.g y)]) (.inl ⟨wantA_of ha he hw, fun w' hw' => valOf_run (hw' _ (List.mem_singleton.2 rfl))⟩) hfact (next _ _ _ _ _ (mk q2 ?_ fun x hx => ?_))
    · have : hP ops Pd ((i, o, e, v) :: H) = (i, o, e, v) :: hP ops Pd H := by
        unfold hP
        rw [List.filter_cons, if_pos]
        rw [List.all_eq_true]
        intro p hp
        exact edge_ready (h.pd p hp).1 (mem_ready.1 hir).1
      simp only [cond_true]
      rw [this]
      exact .cons ha he hg q2 h.hd
    · rcases List.mem_cons.1 hx with rfl | hx
      · exact hfact
      · exact h.al x hx
theorem DS.run (hT : TabOk P T) (h : DS P T G m ops F0 y0 n0 D listed H als e S F y Pd k L lr a w) {i : Nat} {o : Oper} (hir : i ∈ Region.ready .any ops listed) (hia : i ∉ idA als) (ho : ops[i]? = some o)
    (hd : dstOk m o = true) (hcl : clearA als o = true) {v : AV} {S' : AS} (hw : Region.wanted o (yielded ops a.tmps) = true) (hwp : o.wp P a w (fun a' w' => ∃ u, a' = a.put o.dst u ∧ Out F G y S S' v u w') Q)
    (hH : (dropH o H).all (heldOk T S') = true) {k' : Nat} (hk : k = k' + 1)
    (next : ∀ F' y' L' lr' a' w', DS P T G m ops F0 y0 n0 D (listed.setIfInBounds i true) (dropH o H) als (putD e o.dst v) S' F' y' Pd k' L' lr' a' w' → wpAnyL P ops Q k' L' lr' a' w') :
    wpOp P ops Q i (fun a' w' => Hall P w' (dropI ops i L) ∧ wpAnyL P ops Q k' (dropI ops i L) (lr.setIfInBounds i true) a' w') a w := by
  have hiP : i ∉ Pd.map (·.1) := fun hm => by
    obtain ⟨p, hp2, rfl⟩ := List.mem_map.1 hm
    obtain ⟨_, o2, _, h2, _⟩ := h.pd p hp2
    exact hia (List.mem_map.2 ⟨_, h2, rfl⟩)
  have hir2 := h.ready hir hiP
  unfold wpOp
  rw [ho]
  simp only
  rw [if_pos hw]
  refine .inl (Oper.wp_mono ?_ hwp)
  rintro a' w' ⟨u, rfl, y1, k1, k2, k3, k4, rfl⟩
  have hdr : dropI ops i L = drop o L := by simp [dropI, ho]
  rw [hdr]
  have hH1 : HeldR G m y1 S'.next (hP ops Pd (dropH o H)) (drop o L) := by
    rw [hP_drop]
    exact (h.hd.filter o).mono k2 k3
  have hL1 : Hall P w' (drop o L) := hH1.all hT k1 (by unfold hP; exact all_filter hH)
  have hkeep : ∀ b, F.pr b → w'.heap[b]? = w.heap[b]? := fun b hb => by
    rw [k1.ext.block b (F.lt b hb) (fun h0 => h0 hb), h.R.ext.block b (F.lt b hb) (fun h0 => h0 hb)]
  refine ⟨hL1, next F y1 _ _ _ _ { h with
    R := k1, sm := Lay.same_trans h.sm k2 h.le, le := Nat.le_trans h.le k3, sz := by rw [put_size]; exact h.sz, df := by rw [put_defers]; exact h.df.mono k2 k3, hd := hH1, al := hL1, s1 := by simp [h.s1], s2 := by simp [h.s2], ls := ls_put h i
    e0 := ⟨k1.ext.os.trans (h.R.ext.os.symm.trans h.e0.os), k1.ext.tape.trans (h.R.ext.tape.symm.trans h.e0.tape), k1.ext.output.trans (h.R.ext.output.symm.trans h.e0.output), Nat.le_trans h.fz k1.ext.size, fun j hj hn => ?_⟩
    cn := by have := cnt_put (mem_ready.1 hir2).1; have := h.cn; omega
    ev := fun t x hx => ?_
    pd := fun p hp => ?_ }⟩
  · have hpr : F0.pr j := Classical.not_not.1 hn
    rw [hkeep j (h.hF j hpr)]
    exact h.e0.block j hj hn
  · rcases putD_get hx with ⟨h1, rfl⟩ | ⟨h1, h2⟩
    · refine ⟨k4, fun _ => ?_⟩
      have hlt : t < m := dstOk_of hd t h1
      rw [h1]
      simp [Act.put, h.sz, hlt]
    · obtain ⟨h3, h4⟩ := h.ev t x h2
      refine ⟨AV.lt_mono k3 h3, fun hne => ?_⟩
      rw [put_get_ne h1, ← AV.g_same k2 h3]
      exact h4 hne
  · obtain ⟨p1, o2, d2, p2, p3, p4, p5, p6, p7, p8, p9, p10, p11, p12⟩ := h.pd p hp
    refine ⟨ready_mono p1 (fun e0 => hiP (List.mem_map.2 ⟨p, hp, e0⟩)), o2, d2, p2, p3, p4, p5, p6, ?_, ?_, AV.lts_mono k3 p9, p10, p11, p12⟩
    · rw [put_get_ne (clearA_of hcl _ p2 d2 p5)]
      exact p7
    · rw [hkeep _ p11, p8, AV.gs_same k2 p9]
theorem DS.tell {j : Nat} {o : Oper} {x : Al} {rest : AlL} (h : DS P T G m ops F0 y0 n0 D listed H ((j, o, x) :: rest) e S F y Pd k L lr a w) (hj : j ∈ Pd.map (·.1)) (hdist : distA ((j, o, x) :: rest) = true) (ho : ops[j]? = some o)
    (next : ∀ F' y' Pd' L' lr' a' w', DS P T G m ops F0 y0 n0 D (listed.setIfInBounds j true) (dropH o H) rest (putD e o.dst (x.val S.next)) (S.al x) F' y' Pd' k L' lr' a' w' → wpAnyL P ops Q k L' lr' a' w') : wpAnyL P ops Q k L lr a w := by
  obtain ⟨p, hp, hpj⟩ := List.mem_map.1 hj
  obtain ⟨s, t, rfl⟩ := List.append_of_mem hp
  obtain ⟨p1, o2, d, p2, p3, p4, p5, p6, p7, p8, p9, p10, p11, p12⟩ := h.pd p hp
  have heq := distA_one hdist _ p2 _ List.mem_cons_self hpj
  obtain ⟨pj, px, pb⟩ := p
  simp only [Prod.mk.injEq] at heq hpj
  obtain ⟨_, he1, he2⟩ := heq
  have he1 := he1.symm
  have he2 := he2.symm
  subst he1
  subst he2
  subst hpj
  simp only at p1 p2 p3 p5 p7 p8 p9 p10 p11 p12
  have hnb : ∀ q ∈ s ++ t, q.1 ≠ pj ∧ q.2.2 ≠ pb := fun q hq => by
    have n1 := h.nd
    have n2 := h.nb
    rw [List.map_append, List.map_cons, List.nodup_append] at n1 n2
    obtain ⟨_, n12, n13⟩ := n1
    obtain ⟨_, n22, n23⟩ := n2
    rw [List.nodup_cons] at n12 n22
    rcases List.mem_append.1 hq with hq | hq
    · exact ⟨n13 _ (List.mem_map.2 ⟨q, hq, rfl⟩) _ List.mem_cons_self, n23 _ (List.mem_map.2 ⟨q, hq, rfl⟩) _ List.mem_cons_self⟩
    · exact ⟨fun e0 => n12.1 (List.mem_map.2 ⟨q, hq, e0⟩), fun e0 => n22.1 (List.mem_map.2 ⟨q, hq, e0⟩)⟩
  have hsub : ∀ q ∈ s ++ t, q ∈ s ++ (pj, x, pb) :: t := fun q hq => by
    rcases List.mem_append.1 hq with hq | hq
    · exact List.mem_append_left _ hq
    · exact List.mem_append_right _ (List.mem_cons_of_mem _ hq)
  obtain ⟨y1, q1, q2, q3, q4⟩ := (h.R.del pb).tell p8 p10 p9 (fun hh => hh.2 rfl) fun r R hr e0 => by
    rcases Nat.lt_or_ge r G with hrG | hrG
    · have h1 := h.R.gl r hrG
      have := h.g0
      omega
    · exact h.R.own r R hr hrG (by rw [e0]; exact p11)
  have hdlt := p6
  refine next (F.del pb) y1 (s ++ t) L lr a w { h with
    hF := fun i hi => ⟨h.hF i hi, fun e0 => by have := F0.lt i hi; omega⟩
    R := q1, fz := h.fz, sm := Lay.same_trans h.sm q2 h.le, le := Nat.le_succ_of_le h.le, df := h.df.mono q2 (Nat.le_succ _), s1 := by simp [h.s1], ls := fun q => ?_, ev := fun t' v hv => ?_, hd := ?_, pd := fun p hp => ?_, nd := ?_, nb := ?_ }
  · rcases putD_get hv with ⟨h1, rfl⟩ | ⟨h1, h2⟩
    · refine ⟨q4, fun _ => ?_⟩
      rw [p5] at h1
      cases h1
      rw [← q3]
      exact p7
    · obtain ⟨h3, h4⟩ := h.ev t' v h2
      refine ⟨AV.lt_mono (Nat.le_succ _) h3, fun hne => ?_⟩
      rw [← AV.g_same q2 h3]
      refine h4 fun q hq o3 ho3 => ?_
      rcases List.mem_append.1 hq with hq | hq
      · exact hne q (List.mem_append_left _ hq) o3 ho3
      · rcases List.mem_cons.1 hq with rfl | hq
        · rw [p3] at ho3
          cases ho3
          exact h1
        · exact hne q (List.mem_append_right _ hq) o3 ho3
  · have : hP ops (s ++ t) (dropH o H) = hP ops (s ++ (pj, x, pb) :: t) H := by
      unfold hP dropH
      rw [List.filter_filter]
      congr 1
      funext z
      simp only [List.all_append, List.all_cons, edgeI, p3]
      cases noEdge o z.1 <;> simp
    rw [this]
    exact h.hd.mono q2 (Nat.le_succ _)
  · rw [h.ls q, getD_put]
    simp only [List.map_append, List.map_cons, List.mem_append, List.mem_cons]
    have hsz := (getD_un.1 (mem_ready.1 p1).1).1
    constructor
    · rintro (h1 | h1 | h1 | h1)
      · exact .inl (.inl h1)
      · exact .inr (.inl h1)
      · exact .inl (.inr ⟨h1, by rw [h1]; exact hsz⟩)
      · exact .inr (.inr h1)
    · rintro ((h1 | ⟨h1, _⟩) | h1 | h1)
      · exact .inl h1
      · exact .inr (.inr (.inl h1))
      · exact .inr (.inl h1)
      · exact .inr (.inr (.inr h1))
  · obtain ⟨n1, n2⟩ := hnb p hp
    obtain ⟨r1, o3, d3, r2, r3, r4, r5, r6, r7, r8, r9, r10, r11, r12⟩ := h.pd p (hsub p hp)
    refine ⟨ready_mono r1 n1, o3, d3, ?_, r3, r4, r5, r6, r7, by rw [← AV.gs_same q2 r9]; exact r8, AV.lts_mono (Nat.le_succ _) r9, r10, ⟨r11, n2⟩, r12⟩
    rcases List.mem_cons.1 r2 with h0 | h0
    · exact absurd (congrArg Prod.fst h0) n1
    · exact h0
  · have := h.nd
    rw [List.map_append, List.map_cons] at this
    rw [List.map_append]
    exact this.sublist ((List.sublist_cons_self _ _).append_left _)
  · have := h.nb
    rw [List.map_append, List.map_cons] at this
    rw [List.map_append]
    exact this.sublist ((List.sublist_cons_self _ _).append_left _)
end
end
end Go.Cx
namespace Go.Cx
open Go Go.Sx Go.RowKit
noncomputable section
section
variable {P : Program} {T : Tab} {G m : Nat} {ops : Array Oper} {F0 : Frm} {y0 : Lay} {n0 : Nat} {D : List DefA} {listed : Array Bool} {H : HeldA} {dl als : AlL} {e : Tr AV} {S : AS} {call : CallF} {Q : Exit → Act → World → Prop}
structure AlsOk (T : Tab) (G m : Nat) (ops : Array Oper) (listed : Array Bool) (e : Tr AV) (als : AlL) : Prop where
  mem : ∀ z ∈ als, z.1 ∈ Region.ready .any ops listed ∧ ops[z.1]? = some z.2.1 ∧ isAl z.2.1 = true ∧ dstOk m z.2.1 = true ∧ glsOk G z.2.1 = true ∧ alA T e z.2.1 = some z.2.2
  clr : ∀ i ∈ Region.ready .any ops listed, ∀ o, ops[i]? = some o → isAl o = true → ∀ d, o.dst = some d → e.get d = none
  dist : distA als = true
theorem AlsOk.st {F : Frm} {y : Lay} {Pd : List (Nat × Al × Nat)} {k : Nat} {L : Held} {lr : Array Bool} {a : Act} {w : World} (hA : AlsOk T G m ops listed e als) (h : DS P T G m ops F0 y0 n0 D listed H dl e S F y Pd k L lr a w) :
    ∀ p ∈ Pd, ∀ o, ops[p.1]? = some o → ∀ d, o.dst = some d → e.get d = none := fun p hp o ho d hd => by
  obtain ⟨p1, o2, d2, _, p3, p4, _⟩ := h.pd p hp
  rw [p3] at ho
  cases ho
  exact hA.clr _ p1 _ p3 p4 d hd
theorem DS.inals {F : Frm} {y : Lay} {Pd : List (Nat × Al × Nat)} {k : Nat} {L : Held} {lr : Array Bool} {a : Act} {w : World} (h : DS P T G m ops F0 y0 n0 D listed H als e S F y Pd k L lr a w) : ∀ p ∈ Pd, p.1 ∈ idA als := fun p hp => by
  obtain ⟨_, _, _, p2, _⟩ := h.pd p hp
  exact List.mem_map.2 ⟨_, p2, rfl⟩
theorem DS.ready0 {F : Frm} {y : Lay} {k : Nat} {L : Held} {lr : Array Bool} {a : Act} {w : World} (h : DS P T G m ops F0 y0 n0 D listed H dl e S F y [] k L lr a w) {i : Nat} : i ∈ Region.ready .any ops lr ↔ i ∈ Region.ready .any ops listed := by
  constructor
  · intro hi
    refine ready_le (fun k hk => ?_) hi (h.un (mem_ready.1 hi).1).1
    rcases (h.ls k).1 hk with h1 | h1
    · exact h1
    · cases h1
  · intro hi
    exact h.ready hi (by simp)
theorem DS.eff (hT : TabOk P T) (hC : ∀ F, CallsOk P F G call) (hA : AlsOk T G m ops listed e als) {i : Nat} {o : Oper} (hN : (Region.ready .any ops listed).filter (fun i => !inA als i) = [i]) (ho : ops[i]? = some o) (hd : dstOk m o = true) (hcl : clearA als o = true)
    (hc : (als.isEmpty || listEq (Region.ready .any ops (markL listed (idA als))) [i] && H.all (heldOk T S)) = true) (hw : wantA ops.toList e o = some true) {v : AV} {S' : AS} (hs : stepC P T G call S e o = some (v, S')) (hH : (dropH o H).all (heldOk T S') = true)
    (next : ∀ F' y' Pd' k' L' lr' a' w', DS P T G m ops F0 y0 n0 D (listed.setIfInBounds i true) (dropH o H) als (putD e o.dst v) S' F' y' Pd' k' L' lr' a' w' → wpAnyL P ops Q k' L' lr' a' w') :
    ∀ (k : Nat) {F : Frm} {y : Lay} {Pd : List (Nat × Al × Nat)} {L : Held} {lr : Array Bool} {a : Act} {w : World}, DS P T G m ops F0 y0 n0 D listed H als e S F y Pd k L lr a w → wpAnyL P ops Q k L lr a w := by
  have him : i ∈ (Region.ready .any ops listed).filter (fun i => !inA als i) := by rw [hN]; exact List.mem_singleton.2 rfl
  obtain ⟨hir, hia⟩ := List.mem_filter.1 him
  have hia : i ∉ idA als := fun h0 => by rw [inA_iff.2 h0] at hia; cases hia
  intro k
  induction k using Nat.strongRecOn with
  | _ k ih =>
    intro F y Pd L lr a w h
    have hiP : i ∉ Pd.map (·.1) := fun hm => by
      obtain ⟨p, hp, rfl⟩ := List.mem_map.1 hm
      exact hia (h.inals p hp)
    have hir2 := h.ready hir hiP
    obtain ⟨k', rfl, hk'⟩ := h.pos hir2
    refine ⟨fun h0 => (by rw [h0] at hir2; cases hir2), fun j hj => ?_⟩
    have hst := hA.st h
    obtain ⟨ha, he⟩ := h.env hst
    by_cases hji : j = i
    · subst hji
      exact h.run hT hir hia ho hd hcl (wantA_of ha he hw) (stepC_of hT (hC F) h.R ha he hs Q) hH rfl fun F' y' L' lr' a' w' h' => next F' y' Pd k' L' lr' a' w' h'
    · rw [Bool.or_eq_true, Bool.and_eq_true] at hc
      rcases hc with hc | ⟨hc, hHa⟩
      · have hnil : als = [] := List.isEmpty_iff.1 hc
        subst hnil
        have hP : Pd = [] := List.eq_nil_iff_forall_not_mem.2 fun p hp => by
          have := h.inals p hp
          cases this
        subst hP
        have hjl := h.ready0.1 hj
        have : j ∈ (Region.ready .any ops listed).filter (fun i => !inA [] i) := List.mem_filter.2 ⟨hjl, rfl⟩
        rw [hN, List.mem_singleton] at this
        exact absurd this hji
      · rcases h.only h.inals (listEq_eq hc) hj with h1 | h1
        · exact absurd (List.mem_singleton.1 h1) hji
        · obtain ⟨z, hz, rfl⟩ := List.mem_map.1 h1
          exact h.early hT hA.mem hst hA.dist (o := z.2.1) (x := z.2.2) hz (h.un (mem_ready.1 hj).1).2 hHa (fun F' Pd' k2 L' lr' a' w' hk2 h' => ih k2 hk2 h') rfl
theorem DS.blk (hT : TabOk P T) {j : Nat} {o : Oper} {x : Al} {rest : AlL} (hA : AlsOk T G m ops listed e ((j, o, x) :: rest)) (hN : (Region.ready .any ops listed).filter (fun i => !inA ((j, o, x) :: rest) i) = [])
    (hc : (rest.isEmpty || listEq (Region.ready .any ops (markL listed (idA rest))) [j]) = true) (hHa : H.all (heldOk T S) = true)
    (next : ∀ F' y' Pd' k' L' lr' a' w', DS P T G m ops F0 y0 n0 D (listed.setIfInBounds j true) (dropH o H) rest (putD e o.dst (x.val S.next)) (S.al x) F' y' Pd' k' L' lr' a' w' → wpAnyL P ops Q k' L' lr' a' w') :
    ∀ (k : Nat) {F : Frm} {y : Lay} {Pd : List (Nat × Al × Nat)} {L : Held} {lr : Array Bool} {a : Act} {w : World}, DS P T G m ops F0 y0 n0 D listed H ((j, o, x) :: rest) e S F y Pd k L lr a w → wpAnyL P ops Q k L lr a w := by
  obtain ⟨hir, ho, _⟩ := hA.mem _ List.mem_cons_self
  simp only at hir ho
  intro k
  induction k using Nat.strongRecOn with
  | _ k ih =>
    intro F y Pd L lr a w h
    by_cases hjP : j ∈ Pd.map (·.1)
    · exact h.tell hjP hA.dist ho fun F' y' Pd' L' lr' a' w' h' => next F' y' Pd' k L' lr' a' w' h'
    · have hir2 := h.ready hir hjP
      obtain ⟨k', rfl, hk'⟩ := h.pos hir2
      refine ⟨fun h0 => (by rw [h0] at hir2; cases hir2), fun i hi => ?_⟩
      have hsub : ∀ p ∈ Pd, p.1 ∈ idA rest := fun p hp => by
        have := h.inals p hp
        rcases List.mem_cons.1 this with h0 | h0
        · exact absurd (List.mem_map.2 ⟨p, hp, h0⟩) hjP
        · exact h0
      have him : i ∈ idA ((j, o, x) :: rest) := by
        rw [Bool.or_eq_true] at hc
        rcases hc with hc | hc
        · have hnil : rest = [] := List.isEmpty_iff.1 hc
          subst hnil
          have hP : Pd = [] := List.eq_nil_iff_forall_not_mem.2 fun p hp => by
            have := hsub p hp
            cases this
          subst hP
          have hil := h.ready0.1 hi
          cases hq : inA [(j, o, x)] i
          · have : i ∈ (Region.ready .any ops listed).filter (fun i => !inA [(j, o, x)] i) := List.mem_filter.2 ⟨hil, by rw [hq]; rfl⟩
            rw [hN] at this
            cases this
          · exact inA_iff.1 hq
        · rcases h.only hsub (listEq_eq hc) hi with h1 | h1
          · rw [List.mem_singleton.1 h1]; exact List.mem_cons_self
          · exact List.mem_cons_of_mem _ h1
      obtain ⟨z, hz, rfl⟩ := List.mem_map.1 him
      exact h.early hT hA.mem (hA.st h) hA.dist (o := z.2.1) (x := z.2.2) hz (h.un (mem_ready.1 hi).1).2 hHa (fun F' Pd' k2 L' lr' a' w' hk2 h' => ih k2 hk2 h') rfl
theorem DS.rows {F : Frm} {y : Lay} {Pd : List (Nat × Al × Nat)} {k : Nat} {L : Held} {lr : Array Bool} {a : Act} {w : World} (h : DS P T G m ops F0 y0 n0 D listed H dl e S F y Pd k L lr a w) {S' : AS} (hn : S'.next = S.next) (hr : ∀ r, S'.rows.get r = S.rows.get r) :
    DS P T G m ops F0 y0 n0 D listed H dl e S' F y Pd k L lr a w :=
  { h with R := h.R.rows_eq hn hr, le := by rw [hn]; exact h.le, ev := fun t v hv => by rw [hn]; exact h.ev t v hv, df := by rw [hn]; exact h.df, hd := by rw [hn]; exact h.hd, pd := fun p hp => by rw [hn]; exact h.pd p hp }
theorem stA_of {o : Oper} {r q : Nat} {R : ARow} {vs : List AV} (hs : stA T G S e o = some (r, R, q, vs)) : glsOk G o = true ∧ o.guard = none ∧ o.dst = none ∧ S.rows.get r = some R ∧ exSt T G S e o = some (.lit undef, S.wr r R q vs) ∧
    ∀ S2 : AS, S2.rows.get r = some R → exSt T G S2 e o = some (.lit undef, S2.wr r R q vs) := by
  unfold stA at hs
  split at hs
  · rename_i t x z ho
    split at hs
    · rename_i r' k' v s hx hz ht
      split at hs
      · rename_i R' hr
        cases hb : (glsOk G o && o.guard.isNone && o.dst.isNone && R'.wr && Nat.beq v.cells.length s && Nat.ble (k' + s) R'.cells.length && Nat.ble G r' && v.cells.all AV.one) <;> rw [hb] at hs
        · cases hs
        cases (Option.some.inj hs)
        simp only [Bool.and_eq_true] at hb
        obtain ⟨⟨⟨⟨⟨⟨⟨b1, b2⟩, b3⟩, b4⟩, b5⟩, b6⟩, b7⟩, b8⟩ := hb
        have key : ∀ S2 : AS, S2.rows.get r = some R → exSt T G S2 e o = some (.lit undef, S2.wr r R q v.cells) := fun S2 h2 => by
          unfold exSt
          rw [ho]
          simp only
          rw [hx, hz, ht]
          simp only
          rw [h2]
          simp only
          rw [b4, b5, b6, b7, b8]
          rfl
        exact ⟨b1, by simpa using b2, by simpa using b3, hr, key S hr, key⟩
      · cases hs
    · cases hs
  · cases hs
theorem DS.two (hT : TabOk P T) (hA : AlsOk T G m ops listed e []) {i j : Nat} {o o' : Oper} (hN : Region.ready .any ops listed = [i, j]) (ho : ops[i]? = some o) (ho' : ops[j]? = some o') {r q r' q' : Nat} {R R' : ARow} {vs vs' : List AV}
    (hs : stA T G S e o = some (r, R, q, vs)) (hs' : stA T G S e o' = some (r', R', q', vs')) (hr : r ≠ r') (hij : i ≠ j)
    (h1 : Region.ready .any ops (listed.setIfInBounds i true) = [j]) (h2 : Region.ready .any ops (listed.setIfInBounds j true) = [i]) (hE : (dropH o' (dropH o H)).isEmpty = true)
    (hH1 : (dropH o H).all (heldOk T (S.wr r R q vs)) = true) (hH2 : (dropH o' H).all (heldOk T (S.wr r' R' q' vs')) = true)
    (next : ∀ F' y' Pd' k' L' lr' a' w', DS P T G m ops F0 y0 n0 D ((listed.setIfInBounds i true).setIfInBounds j true) [] [] e ((S.wr r R q vs).wr r' R' q' vs') F' y' Pd' k' L' lr' a' w' → wpAnyL P ops Q k' L' lr' a' w')
    {k : Nat} {F : Frm} {y : Lay} {L : Held} {lr : Array Bool} {a : Act} {w : World} (h : DS P T G m ops F0 y0 n0 D listed H [] e S F y [] k L lr a w) : wpAnyL P ops Q k L lr a w := by
  obtain ⟨g1, g2, g3, g4, g5, g6⟩ := stA_of hs
  obtain ⟨g1', g2', g3', g4', g5', g6'⟩ := stA_of hs'
  have hE : dropH o' (dropH o H) = [] := List.isEmpty_iff.1 hE
  have hE' : dropH o (dropH o' H) = [] := by
    rw [← hE]
    unfold dropH
    rw [List.filter_filter, List.filter_filter]
    congr 1
    funext z
    rw [Bool.and_comm]
  have hil : i ∈ Region.ready .any ops listed := by rw [hN]; simp
  have hjl : j ∈ Region.ready .any ops listed := by rw [hN]; simp
  have env := fun {listed : Array Bool} {H : HeldA} {S : AS} {F : Frm} {y : Lay} {k : Nat} {L : Held} {lr : Array Bool} {a : Act} {w : World} (h : DS P T G m ops F0 y0 n0 D listed H [] e S F y [] k L lr a w) => h.env (fun p hp => by cases hp)
  have one : ∀ {listed : Array Bool} {H : HeldA} {S : AS} {F : Frm} {y : Lay} {k : Nat} {L : Held} {lr : Array Bool} {a : Act} {w : World} {i : Nat} {o : Oper} {S' : AS}, DS P T G m ops F0 y0 n0 D listed H [] e S F y [] k L lr a w → ops[i]? = some o → glsOk G o = true → o.guard = none → o.dst = none →
      Region.ready .any ops listed = [i] ∨ i ∈ Region.ready .any ops listed → exSt T G S e o = some (.lit undef, S') → (dropH o H).all (heldOk T S') = true →
      (∀ F' y' k' L' lr' a' w', DS P T G m ops F0 y0 n0 D (listed.setIfInBounds i true) (dropH o H) [] e S' F' y' [] k' L' lr' a' w' → wpAnyL P ops Q k' L' lr' a' w') → ∀ {k'}, k = k' + 1 →
      wpOp P ops Q i (fun a' w' => Hall P w' (dropI ops i L) ∧ wpAnyL P ops Q k' (dropI ops i L) (lr.setIfInBounds i true) a' w') a w := by
    intro listed H S F y k L lr a w i o S' h ho hg hgd hdn hi hst hH nx k' hk
    obtain ⟨ha, he⟩ := env h
    have hi : i ∈ Region.ready .any ops listed := by
      rcases hi with hi | hi
      · rw [hi]; simp
      · exact hi
    refine h.run hT (S' := S') (v := .lit undef) hi (by simp [idA]) ho (by unfold dstOk; rw [hdn]) rfl (wanted_none hgd _) (wp_nod (evEff_of ha (exSt_of hT h.R he hg hst) _) Q) hH hk fun F' y' L' lr' a' w' h' => nx F' y' k' L' lr' a' w' ?_
    rw [hdn] at h'
    exact h'
  have hir2 := h.ready0.2 hil
  obtain ⟨k', rfl, hk'⟩ := h.pos hir2
  refine ⟨fun h0 => (by rw [h0] at hir2; cases hir2), fun x hx => ?_⟩
  have hx := h.ready0.1 hx
  rw [hN] at hx
  rcases List.mem_cons.1 hx with rfl | hx
  · refine one h ho g1 g2 g3 (.inr hil) g5 hH1 (fun F' y' k2 L' lr' a' w' h' => ?_) rfl
    have hj2 := h'.ready0.2 (show j ∈ _ by rw [h1]; simp)
    obtain ⟨k3, rfl, _⟩ := h'.pos hj2
    refine ⟨fun h0 => (by rw [h0] at hj2; cases hj2), fun z hz => ?_⟩
    have hz := h'.ready0.1 hz
    rw [h1, List.mem_singleton] at hz
    subst hz
    have hrow : (S.wr r R q vs).rows.get r' = some R' := by
      simp only [AS.wr, Tr.put_get]
      rw [if_neg (Ne.symm hr)]
      exact g4'
    refine one h' ho' g1' g2' g3' (.inl h1) (g6' _ hrow) (by rw [hE]; rfl) (fun F2 y2 k2 L2 lr2 a2 w2 h2 => ?_) rfl
    rw [hE] at h2
    exact next F2 y2 [] k2 L2 lr2 a2 w2 h2
  · rw [List.mem_singleton] at hx
    subst hx
    refine one h ho' g1' g2' g3' (.inr hjl) g5' hH2 (fun F' y' k2 L' lr' a' w' h' => ?_) rfl
    have hj2 := h'.ready0.2 (show i ∈ _ by rw [h2]; simp)
    obtain ⟨k3, rfl, _⟩ := h'.pos hj2
    refine ⟨fun h0 => (by rw [h0] at hj2; cases hj2), fun z hz => ?_⟩
    have hz := h'.ready0.1 hz
    rw [h2, List.mem_singleton] at hz
    subst hz
    have hrow : (S.wr r' R' q' vs').rows.get r = some R := by
      simp only [AS.wr, Tr.put_get]
      rw [if_neg hr]
      exact g4
    refine one h' ho g1 g2 g3 (.inl h2) (g6 _ hrow) (by rw [hE']; rfl) (fun F2 y2 k2 L2 lr2 a2 w2 h3 => ?_) rfl
    rw [hE', Array.setIfInBounds_comm _ _ (Ne.symm hij)] at h3
    refine next F2 y2 [] k2 L2 lr2 a2 w2 (h3.rows rfl fun s => ?_)
    simp only [AS.wr, Tr.put_get]
    by_cases e1 : s = r <;> by_cases e2 : s = r'
    · exact absurd (e1.symm.trans e2) hr
    · rw [if_neg e2, if_pos e1, if_pos e1]
    · rw [if_pos e2, if_neg e1, if_pos e2]
    · rw [if_neg e2, if_neg e1, if_neg e1, if_neg e2]
theorem drawStep_of (hT : TabOk P T) (hC : ∀ F, CallsOk P F G call) (hsel : Region.noSelect ops = true) (hQ : ∀ c a w, ¬ Q (.panic c) a w) {l' : Array Bool} {H' : HeldA} {dl' : AlL} {e' : Tr AV} {S' : AS}
    (hr : drawStep P T G m call ops (Region.ready .any ops listed) listed H dl e S = some (l', H', dl', e', S'))
    (next : ∀ F' y' Pd' k' L' lr' a' w', DS P T G m ops F0 y0 n0 D l' H' dl' e' S' F' y' Pd' k' L' lr' a' w' → wpAnyL P ops Q k' L' lr' a' w')
    {k : Nat} {F : Frm} {y : Lay} {Pd : List (Nat × Al × Nat)} {L : Held} {lr : Array Bool} {a : Act} {w : World} (h0 : DS P T G m ops F0 y0 n0 D listed H dl e S F y Pd k L lr a w) : wpAnyL P ops Q k L lr a w := by
  unfold drawStep at hr
  generalize hrd : Region.ready .any ops listed = rd at hr
  cases hb : (sameA (alsA T G m ops.toList (stripE ops.toList rd e) rd) dl && distA (alsA T G m ops.toList (stripE ops.toList rd e) rd)) <;> rw [hb] at hr
  · cases hr
  simp only [cond_true] at hr
  rw [Bool.and_eq_true] at hb
  have h := h0.prep hb.1
  have hA : AlsOk T G m ops listed (stripE ops.toList rd e) (alsA T G m ops.toList (stripE ops.toList rd e) rd) := by
    refine ⟨fun z hz => ?_, fun i hi o ho hal d hd => ?_, hb.2⟩
    · obtain ⟨q1, q2, q3⟩ := alsA_mem hz
      exact ⟨by rw [hrd]; exact q1, nth_arr q2, q3⟩
    · cases hq : (stripE ops.toList rd e).get d with
      | none => rfl
      | some v => exact absurd hd ((stripE_get rd e hq).2 i (by rw [← hrd]; exact hi) o (by rw [nth_eq]; simpa using ho) hal)
  clear h0 hb
  generalize stripE ops.toList rd e = e1 at hr h hA
  generalize alsA T G m ops.toList e1 rd = als at hr h hA
  unfold drawN at hr
  split at hr
  · rename_i i o hold v hp
    cases hcl : clearA als o <;> rw [hcl] at hr
    · cases hr
    cases (Option.some.inj hr)
    refine h.pick hT hsel hQ (hA.st h) (fun i hi => ?_) hp hcl fun k' L' lr' a' w' h' => next F y Pd k' L' lr' a' w' h'
    obtain ⟨q1, q2⟩ := List.mem_filter.1 hi
    exact ⟨by rw [hrd]; exact q1, fun h0 => by rw [inA_iff.2 h0] at q2; cases q2⟩
  · split at hr
    · rename_i i hN
      have hN : (Region.ready .any ops listed).filter (fun i => !inA als i) = [i] := by
        rw [hrd]
        unfold oneN at hN
        split at hN
        · rename_i h1; cases hN; exact h1
        · cases hN
      split at hr
      · cases hr
      · rename_i o ho
        cases hc : (dstOk m o && clearA als o && (als.isEmpty || listEq (Region.ready .any ops (markL listed (idA als))) [i] && H.all (heldOk T S))) <;> rw [hc] at hr
        · cases hr
        simp only [cond_true] at hr
        rw [Bool.and_eq_true, Bool.and_eq_true] at hc
        split at hr
        · rename_i hw
          split at hr
          · rename_i v S1 hs
            cases hh : (dropH o H).all (heldOk T S1) <;> rw [hh] at hr
            · cases hr
            cases (Option.some.inj hr)
            exact DS.eff hT hC hA hN (nth_arr ho) hc.1.1 hc.1.2 hc.2 hw hs hh next k h
          · cases hr
        · cases hr
    · split at hr
      · rename_i j o x rest _ _ hN
        cases hc : ((rest.isEmpty || listEq (Region.ready .any ops (markL listed (idA rest))) [j]) && H.all (heldOk T S)) <;> rw [hc] at hr
        · cases hr
        cases (Option.some.inj hr)
        rw [Bool.and_eq_true] at hc
        exact DS.blk hT hA (by rw [hrd]; exact hN) hc.1 hc.2 next k h
      · rename_i hNo
        split at hr
        · rename_i i j hN
          split at hr
          · rename_i o o' ho ho'
            split at hr
            · rename_i r R q vs r' R' q' vs' hs hs'
              cases hc : (!Nat.beq r r' && !Nat.beq i j && listEq (Region.ready .any ops (listed.setIfInBounds i true)) [j] && listEq (Region.ready .any ops (listed.setIfInBounds j true)) [i]
                && (dropH o' (dropH o H)).isEmpty && (dropH o H).all (heldOk T (S.wr r R q vs)) && (dropH o' H).all (heldOk T (S.wr r' R' q' vs'))) <;> rw [hc] at hr
              · cases hr
              cases (Option.some.inj hr)
              simp only [Bool.and_eq_true, Bool.not_eq_true'] at hc
              obtain ⟨⟨⟨⟨⟨⟨c1, c2⟩, c3⟩, c4⟩, c5⟩, c6⟩, c7⟩ := hc
              have hP : Pd = [] := List.eq_nil_iff_forall_not_mem.2 fun p hp => by
                have := h.inals p hp
                cases this
              subst hP
              refine DS.two hT hA ?_ (nth_arr ho) (nth_arr ho') hs hs' (fun e0 => by rw [e0] at c1; simp at c1) (fun e0 => by rw [e0] at c2; simp at c2) (listEq_eq c3) (listEq_eq c4) c5 c6 c7 next h
              unfold twoN at hN
              split at hN
              · rename_i h1
                cases hN
                rw [hrd]
                have : (rd.filter fun i => !inA [] i) = rd := by
                  rw [List.filter_eq_self]
                  intro _ _
                  rfl
                rw [this] at h1
                exact h1
              · cases hN
            · cases hr
          · cases hr
        · cases hr
      · cases hr
theorem drawOps_of (hT : TabOk P T) (hC : ∀ F, CallsOk P F G call) (hsel : Region.noSelect ops = true) (hQ : ∀ c a w, ¬ Q (.panic c) a w) {S0 : AS} (hS0 : S0.next = n0) {e' : Tr AV} {S' : AS} (hk : ∀ a' w', After F0 G m y0 S0 e' S' D a' w' → Q .normal a' w') :
    ∀ (f : Nat) {listed : Array Bool} {H : HeldA} {dl : AlL} {e : Tr AV} {S : AS}, drawOps P T G m call ops f listed H dl e S = some (e', S') →
    ∀ {k : Nat} {F : Frm} {y : Lay} {Pd : List (Nat × Al × Nat)} {L : Held} {lr : Array Bool} {a : Act} {w : World}, DS P T G m ops F0 y0 n0 D listed H dl e S F y Pd k L lr a w → wpAnyL P ops Q k L lr a w := by
  have fin : ∀ {listed : Array Bool} {H : HeldA} {dl : AlL} {k : Nat} {F : Frm} {y : Lay} {Pd : List (Nat × Al × Nat)} {L : Held} {lr : Array Bool} {a : Act} {w : World}, (Region.ready .any ops listed).isEmpty = true → DS P T G m ops F0 y0 n0 D listed H dl e' S' F y Pd k L lr a w → wpAnyL P ops Q k L lr a w := by
    intro listed H dl k F y Pd L lr a w hb h
    have hb := List.isEmpty_iff.1 hb
    have hP : Pd = [] := List.eq_nil_iff_forall_not_mem.2 fun p hp => by
      have := (h.pd p hp).1
      rw [hb] at this
      cases this
    subst hP
    have hr0 : Region.ready .any ops lr = [] := List.eq_nil_iff_forall_not_mem.2 fun i hi => by
      have := h.ready0.1 hi
      rw [hb] at this
      cases this
    obtain ⟨ha, he⟩ := h.env (fun p hp => by cases hp)
    have hq : Q .normal a w := hk a w ⟨_, y, ha, he, ⟨h.e0, h.R.gl, h.R.lies, fun r R hr hG hp => h.R.own r R hr hG (h.hF _ hp), h.R.inj, h.R.gn, h.g0⟩, by rw [hS0]; exact h.sm, by rw [hS0]; exact h.le, h.df⟩
    cases k with
    | zero => exact ⟨hr0, hq⟩
    | succ k => exact ⟨fun _ => hq, fun j hj => by rw [hr0] at hj; cases hj⟩
  intro f
  induction f with
  | zero =>
    intro listed H dl e S hr k F y Pd L lr a w h
    rw [drawOps] at hr
    cases hb : (Region.ready .any ops listed).isEmpty <;> rw [hb] at hr
    · cases hr
    cases (Option.some.inj hr)
    exact fin hb h
  | succ f ih =>
    intro listed H dl e S hr k F y Pd L lr a w h
    rw [drawOps] at hr
    cases hb : (Region.ready .any ops listed).isEmpty <;> rw [hb] at hr
    · simp only [cond_false] at hr
      split at hr
      · rename_i l' H' dl' e1 S1 hs
        exact drawStep_of hT hC hsel hQ hs (fun F' y' Pd' k' L' lr' a' w' h' => ih hr h') h
      · cases hr
    · cases (Option.some.inj hr)
      exact fin hb h
theorem DS.begin {e : Tr AV} {S : AS} {env : Env} {y : Lay} {a : Act} {w : World} (hR : Rel F0 G y S w) (ha : Agr m env (nod a)) (h : EnvR y S.next e env) (hD : DefR y S.next D a.defers) :
    DS P T G m ops F0 y S.next D (Array.replicate ops.size false) [] [] e S F0 y [] ops.size [] (Array.replicate ops.size false) a w := by
  refine ⟨fun _ h => h, hR.ext, hR, hR.gz, Nat.le_refl _, Lay.same_refl _ _, Nat.le_refl _, ha.size, fun t v hv => ⟨h.lt t v hv, fun _ => ha.tmps t _ (by rw [h.tmp, hv]; rfl)⟩, hD, .nil, (fun x hx => by simp at hx), (by simp), (by simp), (fun k => by simp), ?_, (fun p hp => by cases hp), (by simp), (by simp)⟩
  unfold cnt
  simp
end
end
end Go.Cx
