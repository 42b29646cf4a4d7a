/- BitsBack: the law BitsBack comes out true for every input: what was put is taken, number by number. Conditions: those of the law's arguments as they are read. -/
import Derived.Test.YtddljkkcpekcjaaBitsG
import Derived.Test.YtddljkkcpekcjaaOp
namespace Go.Proofs.Ytddljkkcpekcjaa
open Go Go.Sx

theorem s23 : SlT Try.prog 23 3 (.int .i64 0) 8 := ⟨rfl, ⟨_, rfl, rfl, rfl, rfl⟩, rfl⟩

/-- the bits of numbers that were put, one behind the other -/
def cat : List (Int × Int) → List Bool
  | [] => []
  | z :: zs => numBits z.1.toNat z.2.toNat ++ cat zs

theorem cat_append (a b : List (Int × Int)) : cat (a ++ b) = cat a ++ cat b := by
  induction a with
  | nil => rfl
  | cons z zs ih => simp [cat, ih]

def Fine (z : Int × Int) : Prop := 0 ≤ z.2 ∧ z.2 ≤ 63 ∧ 0 ≤ z.1 ∧ z.1.toNat < 2 ^ z.2.toNat

theorem putE_zero {l : List Bool} {v n : Int} (h : putE l v n = 0) : Fine (v, n) ∧ putL l v n = l ++ cat [(v, n)] := by
  have hL : putL l v n = l ++ numBits v.toNat n.toNat := by simp [putL, h]
  unfold putE at h
  split at h
  · cases h
  · rename_i hn
    split at h
    · cases h
    · refine ⟨⟨by simp only; omega, by simp only; omega, by simp only; omega, ?_⟩, by rw [hL]; simp [cat]⟩
      have hs : v.toNat >>> n.toNat = 0 := by omega
      rw [Nat.shiftRight_eq_div_pow] at hs
      exact (Nat.div_eq_zero_iff_lt (Nat.two_pow_pos _)).1 hs

theorem putE_not {l : List Bool} {v n : Int} (h : putE l v n ≠ 0) : putL l v n = l := by simp [putL, h]

/-- the number at a place among those that were put -/
theorem take_back {bs : List Nat} {a b : List (Int × Int)} {z : Int × Int} (h : Packs bs (cat (a ++ z :: b))) (hf : Fine z) :
    takeE bs (cat a).length z.2 = 0 ∧ takeV bs (cat a).length z.2 = z.1 ∧ takeA bs (cat a).length z.2 = (cat (a ++ [z])).length := by
  obtain ⟨f1, f2, f3, f4⟩ := hf
  have hlen := h.len
  have hl : (cat (a ++ z :: b)).length = (cat a).length + z.2.toNat + (cat b).length := by
    rw [cat_append]
    simp [cat, numBits_length]
    omega
  have he : takeE bs (cat a).length z.2 = 0 := by
    unfold takeE
    rw [if_neg (by omega), if_neg (by omega)]
  refine ⟨he, ?_, ?_⟩
  · unfold takeV
    rw [if_pos he, rdv_numBits f4]
    · omega
    · intro i hi
      rw [h.bit _ (by omega), cat_append, List.getD_eq_getElem?_getD, List.getElem?_append_right (by omega)]
      simp only [cat]
      rw [List.getElem?_append_left (by rw [numBits_length]; omega), numBits_get _ _ _ (by omega)]
      have e : (cat a).length + i - (cat a).length = i := by omega
      rw [e]
      rfl
  · unfold takeA
    rw [if_pos he, cat_append]
    simp [cat, numBits_length]

theorem done_packs {bs : List Nat} {l : List Bool} (h : Packs bs l) : doneB bs l.length = true := by
  have hlen := h.len
  simp only [doneB, decide_eq_true_eq]
  refine ⟨by omega, fun i hi => ?_⟩
  rw [h.bit _ (by omega), List.getD_eq_getElem?_getD, List.getElem?_eq_none (by omega)]
  rfl

structure St where
  p1 : Option Addr
  c1 : Nat
  p2 : Option Addr
  c2 : Nat
  zs : List (Int × Int)
  i : Nat

theorem bitsBack_law (W : World) (a0 : Option Addr) (n0 c0 : Nat) (z0 : List Int) (R0 : Reads W a0 (iv .i64 z0)) (L0 : z0.length = n0) (_F0 : ∀ n ∈ z0, (Lit.int .i64 n).wf = true) (Y0 : n0 * 8 ≤ 140737488351232)
    (a1 : Option Addr) (n1 c1 : Nat) (z1 : List Int) (R1 : Reads W a1 (iv .i64 z1)) (L1 : z1.length = n1) (_F1 : ∀ n ∈ z1, (Lit.int .i64 n).wf = true) (_Y1 : n1 * 8 ≤ 140737488351232) :
    cl Try.prog 4 #[.slice a0 n0 c0, .slice a1 n1 c1] W fun v w' => v = .bool true ∧ Ext no W w' := by
  apply F4_calls
  unfold F4
  refine awake_k ?_
  intro w1 x1
  refine asB_i rfl (new_k ?_)
  intro r w2 x2 h2
  have X2 : Ext no W w2 := x1.trans x2
  have g1 : W.heap.size ≤ w1.heap.size := x1.size
  refine asP_i rfl (jn_mk (cond_f rfl (asB_i rfl (cond_f rfl (lv_i ?_)))))
  refine lp_mk (fun s : St => [.slice s.p1 s.zs.length s.c1, .slice s.p2 s.zs.length s.c2, .int .i64 (s.i : Int)])
    (fun m s w' => m = n0 - s.i ∧ s.i ≤ n0 ∧ s.zs.length ≤ s.i ∧ Ext (ge w1.heap.size) w2 w' ∧ Row w' w1.heap.size 3 s.p1 s.c1 (iv .i64 (s.zs.map (·.1))) ∧ Row w' w1.heap.size 3 s.p2 s.c2 (iv .i64 (s.zs.map (·.2))) ∧
      (∀ z ∈ s.zs, Fine z) ∧ Apart s.p1 s.p2 ∧ Apart s.p1 (some ⟨r, 0, none⟩) ∧ Apart s.p2 (some ⟨r, 0, none⟩) ∧
      ∃ p c bs, Wtr w' w1.heap.size r p c bs (cat s.zs) ∧ Apart s.p1 p ∧ Apart s.p2 p)
    n0 ⟨none, 0, none, 0, [], 0⟩ rfl ⟨rfl, Nat.zero_le _, Nat.le_refl _, Ext.refl _ _, Row.nil _ _ _, Row.nil _ _ _, by simp, Apart.none _, Apart.none _, Apart.none _, none, 0, [], h2, Apart.none _, Apart.none _⟩ ?_
  rintro _ ⟨p1, c1', p2, c2', zs, i⟩ w3 ⟨rfl, hi, hzi, X3, k1, k2, fine, A12, A1r, A2r, p, c, bs, hW, A1p, A2p⟩ J hJ
  simp only at hi hzi k1 k2 fine A12 A1r A2r hW A1p A2p hJ ⊢
  have fin : ∀ {w'}, Ext (ge w1.heap.size) w2 w' → Ext no W w' := fun hx => Ext.to_no ((Ext.to_ge X2).trans hx) g1
  refine asS_i rfl (asS_i rfl (asI_i rfl ?_))
  refine jn_of (fun s w' => w3 = w' ∧ s = [.bool (decide (i < n0) && decide (i < n1))]) ?_ ?_
  · rintro _ _ ⟨rfl, rfl⟩
    refine asB_i rfl (cond_split (fun hc => ?_) (fun _ => ?_))
    · simp only [Bool.and_eq_true, decide_eq_true_eq] at hc
      have ei : IntKind.wrap .i64 ((i : Int) + 1) = ((i + 1 : Nat) : Int) := by rw [wr64 (by omega) (by omega)]; omega
      refine jn_of (fun s w' => ∃ s' : St, s = [.slice s'.p1 s'.zs.length s'.c1, .slice s'.p2 s'.zs.length s'.c2] ∧ s'.zs.length ≤ i + 1 ∧ Ext (ge w1.heap.size) w2 w' ∧ Row w' w1.heap.size 3 s'.p1 s'.c1 (iv .i64 (s'.zs.map (·.1))) ∧ Row w' w1.heap.size 3 s'.p2 s'.c2 (iv .i64 (s'.zs.map (·.2))) ∧
          (∀ z ∈ s'.zs, Fine z) ∧ Apart s'.p1 s'.p2 ∧ Apart s'.p1 (some ⟨r, 0, none⟩) ∧ Apart s'.p2 (some ⟨r, 0, none⟩) ∧
          ∃ p c bs, Wtr w' w1.heap.size r p c bs (cat s'.zs) ∧ Apart s'.p1 p ∧ Apart s'.p2 p) ?_ ?_
      · rintro _ w4 ⟨s', rfl, h1, h2, h3, h4, h5, h6, h7, h8, h9⟩
        refine asS_i rfl (asS_i rfl (lv_i ?_))
        rw [ei]
        exact hJ (n0 - (i + 1)) ⟨s'.p1, s'.c1, s'.p2, s'.c2, s'.zs, i + 1⟩ w4 (by omega) ⟨rfl, by simp only; omega, h1, h2, h3, h4, h5, h6, h7, h8, h9⟩
      · intro J2 hJ2
        have X3' : Ext (ge w1.heap.size) w2 w3.drew := X3.trans (Ext.to_ge (Ext.drew w3))
        refine dw_mk ?_
        refine (R0.old (Ext.to_ge (fin X3')) (Nat.le_refl _)).at (by omega) (by rw [Int.toNat_natCast]; exact iv_get (by omega)) ?_ (by rw [iv_length, L0]; exact Nat.le_refl _)
        refine asI_i rfl ?_
        refine (R1.old (Ext.to_ge (fin X3')) (Nat.le_refl _)).at (by omega) (by rw [Int.toNat_natCast]; exact iv_get (by omega)) ?_ (by rw [iv_length, L1]; exact Nat.le_refl _)
        refine asI_i rfl (put_k hW.drew ?_)
        intro p' c' bs' w4 hW' x4 m4
        generalize hv : z0.getD i 0 = v at *
        generalize hn : z1.getD i 0 = n at *
        have X4 : Ext (ge w1.heap.size) w2 w4 := X3'.trans (hW.drew.ext_ge x4)
        have k1d := k1.ext (Ext.drew w3) fun _ _ h => h
        have k2d := k2.ext (Ext.drew w3) fun _ _ h => h
        have k1' := k1d.ext x4 fun a ha hk => by
          rcases hk with hk | ⟨b, hb, hab⟩
          · exact A1r a ⟨r, 0, none⟩ ha rfl hk
          · exact A1p a b ha hb hab.symm
        have k2' := k2d.ext x4 fun a ha hk => by
          rcases hk with hk | ⟨b, hb, hab⟩
          · exact A2r a ⟨r, 0, none⟩ ha rfl hk
          · exact A2p a b ha hb hab.symm
        have A1p' : Apart p1 p' := (m4.apart A1p.symm fun a ha => (k1.at ha).2).symm
        have A2p' : Apart p2 p' := (m4.apart A2p.symm fun a ha => (k2.at ha).2).symm
        refine asI_i rfl (lv_i (cond_split (fun he => ?_) (fun he => ?_)))
        · have he' : putE (cat zs) v n = 0 := by simpa using he
          obtain ⟨hfine, hput⟩ := putE_zero he'
          rw [hput, ← cat_append] at hW'
          refine (R0.old (Ext.to_ge (fin X4)) (Nat.le_refl _)).at (by omega) (by rw [Int.toNat_natCast]; exact iv_get (by omega)) ?_ (by rw [iv_length, L0]; exact Nat.le_refl _)
          refine asI_i rfl ?_
          rw [hv]
          refine s23.app1 k1' (by simp [iv]) hW'.le rfl (le_maxLen (by omega)) (by omega) ?_
          intro p1' c1'' w5 k15 x5 m5
          have g4 := X4.size
          have g2 := x2.size
          have X5 : Ext (ge w1.heap.size) w2 w5 := X4.trans (x5.mono fun k _ ⟨a, ha, hk⟩ => by have := (k1'.at ha).1; show w1.heap.size ≤ k; omega)
          refine asS_i rfl ?_
          refine (R1.old (Ext.to_ge (fin X5)) (Nat.le_refl _)).at (by omega) (by rw [Int.toNat_natCast]; exact iv_get (by omega)) ?_ (by rw [iv_length, L1]; exact Nat.le_refl _)
          refine asI_i rfl ?_
          rw [hn]
          have k25 := k2'.keep x5 A12.symm
          have hW5 := hW'.keep x5 (fun ⟨a, ha, hk⟩ => A1r a ⟨r, 0, none⟩ ha rfl hk) fun a ha ⟨b, hb, hk⟩ => A1p' b a hb ha hk
          refine s23.app1 k25 (by simp [iv]) hW5.le rfl (le_maxLen (by omega)) (by omega) ?_
          intro p2' c2'' w6 k26 x6 m6
          have A12' : Apart p1' p2 := m5.apart A12 fun a ha => (k2'.at ha).2
          have A1r' : Apart p1' (some ⟨r, 0, none⟩) := m5.apart A1r fun a ha => by cases ha; exact blk_lt hW'.blk
          have A1p5 : Apart p1' p' := m5.apart A1p' fun a ha => (hW'.row.at ha).2
          have k16 := k15.keep x6 A12'
          have A12'' : Apart p1' p2' := (m6.apart A12'.symm fun a ha => (k15.at ha).2).symm
          have A2r' : Apart p2' (some ⟨r, 0, none⟩) := m6.apart A2r fun a ha => by cases ha; exact blk_lt hW5.blk
          have A2p5 : Apart p2' p' := m6.apart A2p' fun a ha => (hW5.row.at ha).2
          have hW6 := hW5.keep x6 (fun ⟨a, ha, hk⟩ => A2r a ⟨r, 0, none⟩ ha rfl hk) fun a ha ⟨b, hb, hk⟩ => A2p' b a hb ha hk
          have X6 : Ext (ge w1.heap.size) w2 w6 := X5.trans (x6.mono fun k _ ⟨a, ha, hk⟩ => by have := (k25.at ha).1; show w1.heap.size ≤ k; omega)
          refine asS_i rfl (hJ2 _ _ ⟨⟨p1', c1'', p2', c2'', zs ++ [(v, n)], 0⟩, by simp, by simp; omega, X6, ?_, ?_, ?_, A12'', A1r', A2r', p', c', bs', hW6, A1p5, A2p5⟩)
          · simpa [iv] using k16
          · simpa [iv] using k26
          · intro z hz
            simp only [List.mem_append, List.mem_singleton] at hz
            rcases hz with hz | rfl
            · exact fine z hz
            · exact hfine
        · have he' : putE (cat zs) v n ≠ 0 := by simpa using he
          rw [putE_not he'] at hW'
          exact hJ2 _ _ ⟨⟨p1, c1', p2, c2', zs, 0⟩, rfl, by simp only; omega, X4, k1', k2', fine, A12, A1r, A2r, p', c', bs', hW', A1p', A2p'⟩
    · refine bytes_k hW ?_
      intro p' c' w4 x4 row4 _
      have small := hW.pk.small
      have hbl := Packs.le hW.pk hW.most
      refine asS_i rfl (read_k row4.reads rfl small (by omega) ?_)
      intro r5 p5 c5 w5 x5 h5
      refine asP_i rfl (cond_f rfl (lv_i ?_))
      have x35 := x4.trans x5
      have k15 := k1.ext x35 fun _ _ h => h
      have k25 := k2.ext x35 fun _ _ h => h
      have s45 := x4.size
      have X5 : Ext (ge w1.heap.size) w2 w5 := X3.trans (Ext.to_ge x35)
      have g2 := x2.size
      have g3 := X3.size
      refine lp_mk (fun j : Nat => [.int .i64 (j : Int)])
        (fun m j w' => m = zs.length - j ∧ j ≤ zs.length ∧ Ext (ge w4.heap.size) w5 w' ∧ Rdr w' w4.heap.size w5.heap.size r5 p5 c5 bs (cat (zs.take j)).length)
        zs.length 0 rfl ⟨rfl, Nat.zero_le _, Ext.refl _ _, h5⟩ ?_
      rintro _ j w6 ⟨rfl, hj, x6, h6⟩ J3 hJ3
      have rowat : ∀ {q : Option Addr} {cc : Nat} {vs : List Value} {w' : World}, Row w3 w1.heap.size 3 q cc vs → Ext (ge w4.heap.size) w5 w' → Reads w' q vs := by
        intro q cc vs w' hrow hx
        have hrow4 := hrow.ext x4 fun _ _ h => h
        have hrow5 := hrow4.ext x5 fun _ _ h => h
        refine hrow5.reads.ext hx fun a ha hg => ?_
        have := (hrow4.at ha).2
        have : w4.heap.size ≤ a.block := hg
        omega
      refine asI_i rfl (cond_split (fun hc => ?_) (fun hc => ?_))
      · have hjl : j < zs.length := by simpa using hc
        refine (rowat k2 x6).at (by omega) (by rw [Int.toNat_natCast]; exact iv_get (by simpa using hjl)) ?_ (by simp [iv])
        refine asI_i rfl (take_k h6 ?_)
        intro w7 h7 x7
        obtain ⟨z, hz⟩ : ∃ z, zs[j]? = some z := ⟨_, List.getElem?_eq_getElem hjl⟩
        have hz2 : (zs.map (·.2)).getD j 0 = z.2 := by simp [List.getD_eq_getElem?_getD, hz]
        have hz1 : (zs.map (·.1)).getD j 0 = z.1 := by simp [List.getD_eq_getElem?_getD, hz]
        rw [hz2] at h7
        rw [hz2]
        have hsplit : zs = zs.take j ++ z :: zs.drop (j + 1) := by
          have h1 := List.take_append_drop j zs
          have hd : zs.drop j = z :: zs.drop (j + 1) := by
            rw [List.drop_eq_getElem_cons hjl]
            have := (List.getElem?_eq_some_iff.1 hz).2
            rw [this]
          rw [← hd, h1]
        have hpk : Packs bs (cat (zs.take j ++ z :: zs.drop (j + 1))) := by rw [← hsplit]; exact hW.pk
        obtain ⟨e1, e2, e3⟩ := take_back hpk (fine z (List.mem_of_getElem? hz))
        rw [e3] at h7
        rw [e1, e2]
        have hA : zs.take j ++ [z] = zs.take (j + 1) := by
          rw [List.take_add_one, hz]
          rfl
        rw [hA] at h7
        have x67 : Ext (ge w4.heap.size) w5 w7 := x6.trans (h6.ext_ge x7)
        refine asT_i rfl rfl (asI_i rfl (asI_i rfl (lv_i (lv_i (jn_mk (cond_f rfl ?_))))))
        refine (rowat k1 x67).at (by omega) (by rw [Int.toNat_natCast]; exact iv_get (by simpa using hjl)) ?_ (by simp [iv])
        refine asI_i rfl ?_
        rw [hz1]
        refine asB_i rfl (cond_f (by simp) (lv_i ?_))
        have ej : IntKind.wrap .i64 ((j : Int) + 1) = ((j + 1 : Nat) : Int) := by rw [wr64 (by omega) (by omega)]; omega
        rw [ej]
        exact hJ3 (zs.length - (j + 1)) (j + 1) w7 (by omega) ⟨rfl, by omega, x67, h7⟩
      · have hjl : j = zs.length := by
          have : ¬ j < zs.length := by simpa using hc
          omega
        subst hjl
        rw [List.take_length] at h6
        refine done_k h6 ?_
        intro w7 x7
        refine asB_i rfl ⟨by rw [done_packs hW.pk], fin ((X5.trans (x6.mono fun k _ (hk : w4.heap.size ≤ k) => show w1.heap.size ≤ k by omega)).trans (Ext.to_ge x7))⟩
  · intro J2 hJ2
    refine cond_split (fun h => hJ2 _ _ ⟨rfl, ?_⟩) (fun h => hJ2 _ _ ⟨rfl, ?_⟩)
    · have h1 : i < n0 := by simpa using h
      simp [h1]
    · have h1 : ¬ i < n0 := by simpa using h
      simp [h1]
end Go.Proofs.Ytddljkkcpekcjaa
