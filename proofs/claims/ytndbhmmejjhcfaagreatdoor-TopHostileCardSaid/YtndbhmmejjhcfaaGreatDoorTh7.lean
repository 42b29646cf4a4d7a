/- Own texts of this claim, joined: walks and plain laws. Conditions: those of each theorem, on its arguments. -/
import Derived.Test.YtndbhmmejjhcfaaGreatDoorTh6
import Derived.Test.YtndbhmmejjhcfaaGreatDoorProg
import Derived.Test.YtndbhmmejjhcfaaGreatDoorTh4
import Derived.KernelRfl
import Derived.WideLaws
import Derived.Lib.AppendStr
import Derived.Lib.SlBytesConst
import Derived.Lib.Builder
import Derived.Lib.UnsafeStr
import Derived.Laws.Concat
import Derived.Test.YtndbhmmejjhcfaaGreatDoorTh3
namespace Go.Proofs.YtndbhmmejjhcfaaGreatDoor
open Go Go.Sx Go.Vp
attribute [local irreducible] jn lv ld st nw asI asB asP asS asY asM asF asA asT lp rn ru rq cl dw dr bnd bn2 nz nn hd hr so eqW
attribute [local irreducible] callOk
theorem lp_one {w : World} {body : (List Value → World → Prop) → List Value → World → Prop} (h : ∀ J, body J [] w) : lp [] w body :=
  lp_mk (fun _ : Unit => []) (fun _ _ w' => w' = w) 0 () rfl rfl fun _ _ _ e J _ => by subst e; exact h J
theorem and127 (a : Int) : ∃ i : Nat, Go.bits .and .u8 a 127 = (i : Int) ∧ i < 128 := by
  have h : (BitVec.ofInt 8 a &&& BitVec.ofInt 8 127).toNat ≤ 127 := by
    rw [BitVec.toNat_and]
    exact Nat.le_trans Nat.and_le_right (by decide)
  refine ⟨(BitVec.ofInt 8 a &&& BitVec.ofInt 8 127).toNat, ?_, by omega⟩
  show IntKind.wrap .u8 (((BitVec.ofInt 8 a &&& BitVec.ofInt 8 127).toNat : Nat) : Int) = _
  rw [IntKind.wrap_u8]
  omega
theorem or_put {m k i : Nat} (hi : i ≤ 9) (hm : m < 2 ^ (7 * i)) (hk : k < 128) (h9 : i = 9 → k ≤ 1) :
    ∃ z : Nat, Go.bits .or .u64 (m : Int) (IntKind.wrap .u64 (IntKind.wrap .u64 (k : Int) * 2 ^ (min (Int.toNat ((7 * i : Nat) : Int)) 64))) = (z : Int) ∧ z < 18446744073709551616 ∧ (i ≤ 8 → z < 2 ^ (7 * (i + 1))) := by
  have hp : 0 < 2 ^ (7 * i) := Nat.pow_pos (by decide)
  have hp9 : 2 ^ (7 * i) ≤ 2 ^ 63 := pow_le_of (by omega)
  have e63 : (2 : Nat) ^ 63 = 9223372036854775808 := by decide
  have e2 : 2 ^ (7 * (i + 1)) = 128 * 2 ^ (7 * i) := by rw [Nat.mul_add, Nat.pow_add, Nat.mul_comm]
  have hkm : k * 2 ^ (7 * i) < 18446744073709551616 := by
    by_cases h : i = 9
    · have h1 : k * 2 ^ (7 * i) ≤ 1 * 2 ^ (7 * i) := Nat.mul_le_mul_right _ (h9 h)
      omega
    · have h1 : 2 ^ (7 * (i + 1)) ≤ 2 ^ 63 := pow_le_of (by omega)
      have h2 : k * 2 ^ (7 * i) ≤ 127 * 2 ^ (7 * i) := Nat.mul_le_mul_right _ (by omega)
      omega
  have e1 : IntKind.wrap .u64 (IntKind.wrap .u64 (k : Int) * 2 ^ (min (Int.toNat ((7 * i : Nat) : Int)) 64)) = ((k * 2 ^ (7 * i) : Nat) : Int) := by
    rw [Int.toNat_natCast, Nat.min_eq_left (by omega), wu (n := (k : Int)) (by omega) (by omega)]
    have e : (k : Int) * 2 ^ (7 * i) = ((k * 2 ^ (7 * i) : Nat) : Int) := by simp
    rw [e, wu (by omega) (by omega)]
  have hor : m ||| k * 2 ^ (7 * i) < 2 ^ 64 := Nat.or_lt_two_pow (by rw [show (2 : Nat) ^ 64 = 18446744073709551616 by decide]; omega) (by rw [show (2 : Nat) ^ 64 = 18446744073709551616 by decide]; exact hkm)
  rw [show (2 : Nat) ^ 64 = 18446744073709551616 by decide] at hor
  refine ⟨m ||| k * 2 ^ (7 * i), ?_, hor, fun h8 => Nat.or_lt_two_pow (by rw [e2]; omega) ?_⟩
  · rw [e1, bits_or_nat (by simp only [IntKind.bits]; omega) (by simp only [IntKind.bits]; omega), wu (by omega) (by omega)]
  · rw [e2]
    have h2 : k * 2 ^ (7 * i) ≤ 127 * 2 ^ (7 * i) := Nat.mul_le_mul_right _ (by omega)
    omega
section
variable {w : World} {K : Value → World → Prop}
theorem take_k {p : Option Addr} {bs : List Nat} {n c : Nat} (hr : Reads w p (bv bs)) (hn : bs.length = n) (hb : n ≤ 10000000) (hc : n ≤ c) {at' most : Int} (hm : most = 9 ∨ most = 10)
    (hK : ∀ (z : Nat) (nx e : Int), z < 18446744073709551616 → (e = 0 → at' < nx ∧ 0 ≤ at' ∧ nx ≤ n ∧ (most = 9 → z < 9223372036854775808)) → K (.tuple #[.int .u64 (z : Int), i6 nx, i6 e]) w) : cl Tryz.prog 141 #[.slice p n c, i6 at', i6 most] w K := by
  have bad : ∀ e : Int, e ≠ 0 → K (.tuple #[.int .u64 0, i6 0, i6 e]) w := fun e he => hK 0 0 e (by decide) fun h => absurd h he
  apply F141_calls
  unfold F141
  refine sp (sp (sp (jn_of (fun s w' => ∃ b, s = [.bool b] ∧ w' = w ∧ (b = false → 0 ≤ at' ∧ at' ≤ n)) ?_ ?_)))
  rotate_left
  · intro J hJ
    refine cond_split (fun _ => hJ _ _ ⟨_, rfl, rfl, by simp⟩) fun h => hJ _ _ ⟨_, rfl, rfl, fun h2 => ?_⟩
    have := of_decide_eq_false h
    have := of_decide_eq_false h2
    omega
  rintro _ w1 ⟨b, rfl, rfl, hat⟩
  refine sp (cond_split (fun _ => sp (sp (sp (bad 1 (by decide))))) fun hbf => ?_)
  obtain ⟨h0, h1⟩ := hat hbf
  obtain ⟨a, rfl⟩ := Int.eq_ofNat_of_zero_le h0
  have han : a ≤ n := by omega
  refine sp (bn2_mk (by omega) (by omega) ?_)
  rw [Int.toNat_natCast]
  have hrd := Reads.drop (n := a) hr (c := c) (by rw [bv_length, hn]; exact hc)
  have hdr : (bv bs).drop a = bv (bs.drop a) := by simp [bv]
  rw [hdr] at hrd
  refine lp_mk (fun x : Nat × Nat => [.int .u64 (x.1 : Int), .int .i64 (x.2 : Int)]) (fun m x w' => m = n - x.2 ∧ x.2 ≤ n - a ∧ x.2 ≤ 10 ∧ (x.2 = 10 ∨ x.1 < 2 ^ (7 * x.2)) ∧ (most = 9 → x.2 ≤ 9) ∧ w' = w1) n (0, 0) rfl ⟨rfl, Nat.zero_le _, by decide, .inr (by decide), fun _ => by decide, rfl⟩ ?_
  rintro m ⟨z, i⟩ w2 ⟨rfl, hi, hi10, hz, hm9, rfl⟩ J hJ
  simp only at hi hi10 hz hm9
  refine sp (sp (cond_split (fun hc2 => ?_) fun hc2 => ?_))
  · have hil : i < n - a := by have := of_decide_eq_true hc2; simp only at this; omega
    refine Reads.atb hrd (by simp [hn]) hil (sp (sp (sp ?_)))
    generalize ((bs.drop a).getD i 0) = cb
    refine cond_op (fun _ => lp_one fun J' => sp (sp (sp (bad 20 (by decide))))) fun hne => ?_
    have hi9 : i ≤ 9 := by rcases hm with e | e <;> omega
    refine jn_of (fun s w' => ∃ b, s = [.bool b] ∧ w' = w2 ∧ (b = false → i = 9 → cb ≤ 1)) ?_ ?_
    rotate_left
    · intro J2 hJ2
      refine cond_op (fun _ => hJ2 _ _ ⟨_, rfl, rfl, fun h2 _ => ?_⟩) fun h => hJ2 _ _ ⟨_, rfl, rfl, fun _ h2 => absurd (by omega) h⟩
      have := of_decide_eq_false h2
      omega
    rintro _ w3 ⟨b, rfl, rfl, hcb⟩
    refine sp (cond_split (fun _ => lp_one fun J' => sp (sp (sp (bad 20 (by decide))))) fun hbf2 => ?_)
    have hcb := hcb hbf2
    have e7 : IntKind.wrap .i64 ((7 : Int) * (i : Int)) = ((7 * i : Nat) : Int) := by rw [wr64 (by omega) (by omega)]; simp
    rw [e7]
    refine nn_mk (by omega) ?_
    obtain ⟨k, ek, hk⟩ := and127 (cb : Int)
    rw [ek]
    obtain ⟨z2, ez, hz2, hz8⟩ := or_put (m := z) (k := k) hi9 (hz.resolve_left (by omega)) hk (fun e => by
      have := hcb e
      have : cb = 0 ∨ cb = 1 := by omega
      rcases this with rfl | rfl
      · have : (k : Int) = 0 := by rw [← ek]; decide
        omega
      · have : (k : Int) = 1 := by rw [← ek]; decide
        omega)
    rw [ez]
    refine sp (cond_split (fun _ => ?_) fun _ => ?_)
    · refine jn_of (fun s w' => ∃ b, s = [.bool b] ∧ w' = w3) ?_ fun J3 hJ3 => cond_split (fun _ => hJ3 _ _ ⟨_, rfl, rfl⟩) fun _ => hJ3 _ _ ⟨_, rfl, rfl⟩
      rintro _ w4 ⟨b2, rfl, rfl⟩
      refine sp (cond_split (fun _ => lp_one fun J' => sp (sp (sp (bad 20 (by decide))))) fun _ => sp (sp (sp ?_)))
      have en : IntKind.wrap .i64 (IntKind.wrap .i64 ((a : Int) + (i : Int)) + 1) = (a : Int) + i + 1 := by rw [wr64 (n := (a : Int) + (i : Int)) (by omega) (by omega), wr64 (by omega) (by omega)]
      rw [en]
      refine hK z2 _ 0 hz2 fun _ => ⟨by omega, by omega, by omega, fun e9 => ?_⟩
      have : i ≠ 9 := by intro h; rw [e9, h] at hne; exact hne rfl
      have h8 := hz8 (by omega)
      have : 2 ^ (7 * (i + 1)) ≤ 2 ^ 63 := pow_le_of (by omega)
      rw [show (2 : Nat) ^ 63 = 9223372036854775808 by decide] at this
      omega
    · rw [natS i (by omega)]
      refine hJ (n - (i + 1)) (z2, i + 1) _ (by simp only; omega) ⟨rfl, by simp only; omega, by simp only; omega, ?_, fun e9 => ?_, rfl⟩
      · by_cases h : i = 9
        · exact .inl (by simp only; omega)
        · exact .inr (hz8 (by omega))
      · have : i ≠ 9 := by intro h; rw [e9, h] at hne; exact hne rfl
        simp only
        omega
  · exact cond_split (fun _ => lp_one fun J' => sp (sp (sp (bad 20 (by decide))))) fun _ => sp (sp (sp (bad 3 (by decide))))
theorem readNum_k {p : Option Addr} {bs : List Nat} {n c : Nat} (hr : Reads w p (bv bs)) (hn : bs.length = n) (hb : n ≤ 10000000) (hc : n ≤ c) {at' : Int} (hK : ∀ (z nx e : Int), I64 z → (e = 0 → 0 ≤ z ∧ 0 ≤ nx ∧ nx ≤ n) → K (.tuple #[i6 z, i6 nx, i6 e]) w) : cl Tryz.prog 90 #[.slice p n c, i6 at'] w K := by
  apply F90_calls
  unfold F90
  refine sp (sp (sp (take_k hr hn hb hc (.inl rfl) fun z nx e hz h => ?_)))
  refine asT_i rfl rfl ?_
  iterate 9 refine sp ?_
  refine hK _ _ _ (I64.w _) fun he => ?_
  obtain ⟨h1, h2, h3, h4⟩ := h he
  have := h4 rfl
  rw [wr64 (by omega) (by omega)]
  omega
theorem readInt_k {p : Option Addr} {bs : List Nat} {n c : Nat} (hr : Reads w p (bv bs)) (hn : bs.length = n) (hb : n ≤ 10000000) (hc : n ≤ c) {at' : Int} (hK : ∀ (z nx e : Int), I64 z → (e = 0 → 0 ≤ nx ∧ nx ≤ n) → K (.tuple #[i6 z, i6 nx, i6 e]) w) : cl Tryz.prog 92 #[.slice p n c, i6 at'] w K := by
  apply F92_calls
  unfold F92
  refine sp (sp (sp (take_k hr hn hb hc (.inr rfl) fun z nx e hz h => ?_)))
  refine asT_i rfl rfl ?_
  iterate 9 refine sp ?_
  refine hK _ _ _ (I64.w _) fun he => ?_
  obtain ⟨h1, h2, h3, h4⟩ := h he
  omega
end
end Go.Proofs.YtndbhmmejjhcfaaGreatDoor
namespace Go.Proofs.YtndbhmmejjhcfaaGreatDoor
open Go Go.Sx Go.Vp
attribute [local irreducible] jn lv ld st nw asI asB asP asS asY asM asF asA asT lp rn ru rq cl dw dr bnd bn2 nz nn hd hr so eqW
attribute [local irreducible] callOk clz
set_option maxRecDepth 100000 in
theorem con32 : Tryz.prog.concrete 32 = true := rfl
theorem ok40 : callOk Tryz.prog 40 = true := by kernel_rfl
theorem ok14 : callOk Tryz.prog 14 = true := by kernel_rfl
theorem ok46 : callOk Tryz.prog 46 = true := by kernel_rfl
theorem ok16 : callOk Tryz.prog 16 = true := by kernel_rfl
abbrev thr (e : Int) : List PanicEntry := [{ v := .iface 32 (i6 e), recovered := false }]
abbrev rdr (T : TypeId) (t : Nat) (p : Option Addr) (n c : Nat) (a : Int) : Rw := ⟨T, 2, some ⟨t, 0, none⟩, 1, 1, [.slice p n c, i6 a]⟩
structure Byt (Rs : List Rw) (p : Option Addr) (n c : Nat) : Prop where
  rd : ∃ bs : List Nat, (⟨5, 1, p, c, n, bv bs⟩ : Rw) ∈ Rs ∧ bs.length = n ∧ (p = none → bs = [])
  le : n ≤ 10000000
  cap : n ≤ c
theorem Byt.mono {Rs Rs' : List Rw} {p : Option Addr} {n c : Nat} (h : Byt Rs p n c) (hs : ∀ r ∈ Rs, r ∈ Rs') : Byt Rs' p n c := ⟨by obtain ⟨bs, h1, h2⟩ := h.rd; exact ⟨bs, hs _ h1, h2⟩, h.le, h.cap⟩
theorem Byt.c {Rs : List Rw} {x : Rw} {p : Option Addr} {n c : Nat} (h : Byt Rs p n c) : Byt (x :: Rs) p n c := h.mono fun _ h => List.mem_cons_of_mem _ h
theorem slp_none {p : Option Addr} {c n s : Nat} (h : slp p c n s = none) : p = none := by
  unfold slp at h
  split at h
  · exact h
  · cases p with
    | none => rfl
    | some b => simp at h
section
variable {Z : List PanicEntry → World → Prop} {w0 w : World} {Rs : List Rw} {T : TypeId} {t : Nat} {p : Option Addr} {n c : Nat} {a : Int} {K : Value → World → Prop}
theorem throw_k {e : Int} (hZ : Z (thr e) w) : rn Tryz.prog (Instr.makeInterface 32 (i6 e)) w fun v w => cond (isIface v) (Z [{ v := v, recovered := false }] w) False :=
  rn_mk (run_makeInterface _ 32 _ con32) (cond_t rfl hZ)
theorem took_k (h : Hs w0 w (rdr T t p n c a :: Rs)) {v nx e : Int} (hZ : Z (thr e) w) (hK : e = 0 → ∀ w', Hs w0 w' (rdr T t p n c nx :: Rs) → K (i6 v) w') : clz Z Tryz.prog 91 #[.pointer (some ⟨t, 0, none⟩), i6 v, i6 nx, i6 e] w K := by
  apply F91_calls
  unfold F91
  refine sp (jn_of (fun _ w' => w' = w ∧ e = 0) ?_ fun J hJ => cond_split (fun _ => throw_k hZ) fun he => hJ _ _ ⟨rfl, by simpa using he⟩)
  rintro _ _ ⟨rfl, he⟩
  repeat first|refine sp ?_|refine cond_t rfl ?_|refine cond_f rfl ?_|refine asT_i rfl rfl ?_|refine asA_i rfl rfl ?_|refine h.l rfl ?_|refine h.hd rfl ?_|(refine h.sb rfl rfl ?_;clear h;intro _ h)|(refine h.dw ?_;clear h;intro _ h)
  exact hK he _ h
theorem tookS_k (h : Hs w0 w (rdr T t p n c a :: Rs)) {v : ByteArray} {nx e : Int} (hZ : Z (thr e) w) (hK : e = 0 → ∀ w', Hs w0 w' (rdr T t p n c nx :: Rs) → K (.string v) w') : clz Z Tryz.prog 94 #[.pointer (some ⟨t, 0, none⟩), .string v, i6 nx, i6 e] w K := by
  apply F94_calls
  unfold F94
  refine jn_of (fun _ w' => w' = w ∧ e = 0) ?_ fun J hJ => cond_split (fun _ => throw_k hZ) fun he => hJ _ _ ⟨rfl, by simpa using he⟩
  rintro _ _ ⟨rfl, he⟩
  repeat first|refine sp ?_|refine cond_t rfl ?_|refine cond_f rfl ?_|refine asT_i rfl rfl ?_|refine asA_i rfl rfl ?_|refine h.l rfl ?_|refine h.hd rfl ?_|(refine h.sb rfl rfl ?_;clear h;intro _ h)|(refine h.dw ?_;clear h;intro _ h)
  exact hK he _ h
theorem nat_k (hb : Byt Rs p n c) (h : Hs w0 w (rdr T t p n c a :: Rs)) (hZ : ∀ e w', Hs w0 w' Rs → Z (thr e) w') (hK : ∀ v nx w', 0 ≤ v → I64 v → Hs w0 w' (rdr T t p n c nx :: Rs) → K (i6 v) w') : clz Z Tryz.prog 40 #[.pointer (some ⟨t, 0, none⟩)] w K := by
  obtain ⟨⟨bs, hr, hl, -⟩, hn, hc⟩ := hb
  apply F40_calls
  unfold F40
  repeat first|refine sp ?_|refine cond_t rfl ?_|refine cond_f rfl ?_|refine asT_i rfl rfl ?_|refine asA_i rfl rfl ?_|refine h.l rfl ?_|refine h.hd rfl ?_|(refine h.sb rfl rfl ?_;clear h;intro _ h)|(refine h.dw ?_;clear h;intro _ h)
  refine readNum_k (h.rd (List.mem_cons_of_mem _ hr)) hl hn hc fun z nx e hz he => ?_
  repeat first|refine sp ?_|refine cond_t rfl ?_|refine cond_f rfl ?_|refine asT_i rfl rfl ?_|refine asA_i rfl rfl ?_|refine h.l rfl ?_|refine h.hd rfl ?_|(refine h.sb rfl rfl ?_;clear h;intro _ h)|(refine h.dw ?_;clear h;intro _ h)
  refine took_k h (hZ _ _ h.tail) fun e0 w' h => ?_
  repeat first|refine sp ?_|refine cond_t rfl ?_|refine cond_f rfl ?_|refine asT_i rfl rfl ?_|refine asA_i rfl rfl ?_|refine h.l rfl ?_|refine h.hd rfl ?_|(refine h.sb rfl rfl ?_;clear h;intro _ h)|(refine h.dw ?_;clear h;intro _ h)
  exact hK _ _ _ (he e0).1 hz h
theorem whole_k (hb : Byt Rs p n c) (h : Hs w0 w (rdr T t p n c a :: Rs)) (hZ : ∀ e w', Hs w0 w' Rs → Z (thr e) w') (hK : ∀ v nx w', I64 v → Hs w0 w' (rdr T t p n c nx :: Rs) → K (i6 v) w') : clz Z Tryz.prog 41 #[.pointer (some ⟨t, 0, none⟩)] w K := by
  obtain ⟨⟨bs, hr, hl, -⟩, hn, hc⟩ := hb
  apply F41_calls
  unfold F41
  repeat first|refine sp ?_|refine cond_t rfl ?_|refine cond_f rfl ?_|refine asT_i rfl rfl ?_|refine asA_i rfl rfl ?_|refine h.l rfl ?_|refine h.hd rfl ?_|(refine h.sb rfl rfl ?_;clear h;intro _ h)|(refine h.dw ?_;clear h;intro _ h)
  refine readInt_k (h.rd (List.mem_cons_of_mem _ hr)) hl hn hc fun z nx e hz he => ?_
  repeat first|refine sp ?_|refine cond_t rfl ?_|refine cond_f rfl ?_|refine asT_i rfl rfl ?_|refine asA_i rfl rfl ?_|refine h.l rfl ?_|refine h.hd rfl ?_|(refine h.sb rfl rfl ?_;clear h;intro _ h)|(refine h.dw ?_;clear h;intro _ h)
  refine took_k h (hZ _ _ h.tail) fun e0 w' h => ?_
  repeat first|refine sp ?_|refine cond_t rfl ?_|refine cond_f rfl ?_|refine asT_i rfl rfl ?_|refine asA_i rfl rfl ?_|refine h.l rfl ?_|refine h.hd rfl ?_|(refine h.sb rfl rfl ?_;clear h;intro _ h)|(refine h.dw ?_;clear h;intro _ h)
  exact hK _ _ _ hz h
set_option maxRecDepth 100000 in
theorem readText_k {bs : List Nat} (hr : Reads w p (bv bs)) (hl : bs.length = n) (hp : p = none → bs = []) (hn : n ≤ 10000000) (hc : n ≤ c) {at' : Int} (hK : ∀ (s : ByteArray) (nx e : Int), K (.tuple #[.string s, i6 nx, i6 e]) w) : cl Tryz.prog 93 #[.slice p n c, i6 at'] w K := by
  apply F93_calls
  unfold F93
  refine sp (sp (readNum_k hr hl hn hc fun z nx e hz he => ?_))
  refine asT_i rfl rfl ?_
  iterate 6 refine sp ?_
  refine cond_split (fun _ => sp (sp (hK _ _ _))) fun he0 => cond_split (fun _ => sp (sp (hK _ _ _))) fun h1 => cond_split (fun _ => sp (sp (hK _ _ _))) fun h2 => ?_
  obtain ⟨h3, h4, h5⟩ := he (by simpa using he0)
  have h2 := of_decide_eq_false h2
  rw [wr64 (by omega) (by omega)] at h2
  obtain ⟨i, rfl⟩ := Int.eq_ofNat_of_zero_le h4
  obtain ⟨m, rfl⟩ := Int.eq_ofNat_of_zero_le h3
  have e1 : IntKind.wrap .i64 ((i : Int) + m) = ((i + m : Nat) : Int) := by rw [wr64 (by omega) (by omega)]; simp
  rw [e1]
  refine bn2_mk (by omega) (by omega) ?_
  rw [Int.toNat_natCast]
  refine bn2_mk (by omega) (by omega) ?_
  rw [Int.toNat_natCast]
  have hrd := Reads.drop (n := i) hr (c := c) (by rw [bv_length, hl]; exact hc)
  have hd : (bv bs).drop i = bv (((bs.drop i).take m) ++ (bs.drop i).drop m) := by rw [List.take_append_drop]; simp [bv]
  rw [hd, bv_append] at hrd
  refine rq_mk (run_str (P := Tryz.prog) (e := 5) rfl rfl rfl hrd.pre (by simp [hl]; omega) fun h0 => ?_) ?_
  · rw [hp (slp_none h0)]; simp
  iterate 3 refine sp ?_
  exact hK _ _ _
theorem text_k (hb : Byt Rs p n c) (h : Hs w0 w (rdr T t p n c a :: Rs)) (hZ : ∀ e w', Hs w0 w' Rs → Z (thr e) w') (hK : ∀ s nx w', Hs w0 w' (rdr T t p n c nx :: Rs) → K (.string s) w') : clz Z Tryz.prog 42 #[.pointer (some ⟨t, 0, none⟩)] w K := by
  obtain ⟨⟨bs, hr, hl, hp⟩, hn, hc⟩ := hb
  apply F42_calls
  unfold F42
  repeat first|refine sp ?_|refine cond_t rfl ?_|refine cond_f rfl ?_|refine asT_i rfl rfl ?_|refine asA_i rfl rfl ?_|refine h.l rfl ?_|refine h.hd rfl ?_|(refine h.sb rfl rfl ?_;clear h;intro _ h)|(refine h.dw ?_;clear h;intro _ h)
  refine readText_k (h.rd (List.mem_cons_of_mem _ hr)) hl hp hn hc fun s nx e => ?_
  repeat first|refine sp ?_|refine cond_t rfl ?_|refine cond_f rfl ?_|refine asT_i rfl rfl ?_|refine asA_i rfl rfl ?_|refine h.l rfl ?_|refine h.hd rfl ?_|(refine h.sb rfl rfl ?_;clear h;intro _ h)|(refine h.dw ?_;clear h;intro _ h)
  refine tookS_k h (hZ _ _ h.tail) fun _ w' h => ?_
  repeat first|refine sp ?_|refine cond_t rfl ?_|refine cond_f rfl ?_|refine asT_i rfl rfl ?_|refine asA_i rfl rfl ?_|refine h.l rfl ?_|refine h.hd rfl ?_|(refine h.sb rfl rfl ?_;clear h;intro _ h)|(refine h.dw ?_;clear h;intro _ h)
  exact hK _ _ _ h
theorem _root_.Go.Sx.Hs.swap {x y : Rw} (h : Hs w0 w (x :: y :: Rs)) : Hs w0 w (y :: x :: Rs) := h.perm (List.Perm.swap _ _ _)
theorem glob_k (hb : Byt Rs p n c) (h : Hs w0 w (rdr T t p n c a :: Rs)) (hZ : ∀ e w', Hs w0 w' Rs → Z (thr e) w') (hK : ∀ t' z v nx w', I64 t' → I64 z → I64 v → Hs w0 w' (rdr T t p n c nx :: Rs) → K (.agg #[i6 t', i6 z, i6 v]) w') : clz Z Tryz.prog 14 #[.pointer (some ⟨t, 0, none⟩)] w K := by
  apply F14_calls
  unfold F14
  refine h.nw fun q w h => ?_
  refine nat_k hb.c h.swap (fun e w h => hZ e w h.tail) fun v1 a w _ i1 h => ?_
  repeat first|refine sp ?_|refine cond_t rfl ?_|refine cond_f rfl ?_|refine asT_i rfl rfl ?_|refine asA_i rfl rfl ?_|refine h.l rfl ?_|refine h.hd rfl ?_|(refine h.sb rfl rfl ?_;clear h;intro _ h)|(refine h.dw ?_;clear h;intro _ h)
  refine nat_k hb.c h (fun e w h => hZ e w h.tail) fun v2 a w _ i2 h => ?_
  repeat first|refine sp ?_|refine cond_t rfl ?_|refine cond_f rfl ?_|refine asT_i rfl rfl ?_|refine asA_i rfl rfl ?_|refine h.l rfl ?_|refine h.hd rfl ?_|(refine h.sb rfl rfl ?_;clear h;intro _ h)|(refine h.dw ?_;clear h;intro _ h)
  refine whole_k hb.c h (fun e w h => hZ e w h.tail) fun v3 a w i3 h => ?_
  repeat first|refine sp ?_|refine cond_t rfl ?_|refine cond_f rfl ?_|refine asT_i rfl rfl ?_|refine asA_i rfl rfl ?_|refine h.l rfl ?_|refine h.hd rfl ?_|(refine h.sb rfl rfl ?_;clear h;intro _ h)|(refine h.dw ?_;clear h;intro _ h)
  exact hK _ _ _ _ _ i1 i2 i3 h.swap.tail
theorem instr_k (hb : Byt Rs p n c) (h : Hs w0 w (rdr T t p n c a :: Rs)) (hZ : ∀ e w', Hs w0 w' Rs → Z (thr e) w') (hK : ∀ t' z v nx w', I64 t' → I64 z → I64 v → Hs w0 w' (rdr T t p n c nx :: Rs) → K (.agg #[i6 t', i6 z, i6 v]) w') : clz Z Tryz.prog 46 #[.pointer (some ⟨t, 0, none⟩)] w K := by
  apply F46_calls
  unfold F46
  refine h.nw fun q w h => ?_
  refine nat_k hb.c h.swap (fun e w h => hZ e w h.tail) fun v1 a w _ i1 h => ?_
  repeat first|refine sp ?_|refine cond_t rfl ?_|refine cond_f rfl ?_|refine asT_i rfl rfl ?_|refine asA_i rfl rfl ?_|refine h.l rfl ?_|refine h.hd rfl ?_|(refine h.sb rfl rfl ?_;clear h;intro _ h)|(refine h.dw ?_;clear h;intro _ h)
  refine whole_k hb.c h (fun e w h => hZ e w h.tail) fun v2 a w i2 h => ?_
  repeat first|refine sp ?_|refine cond_t rfl ?_|refine cond_f rfl ?_|refine asT_i rfl rfl ?_|refine asA_i rfl rfl ?_|refine h.l rfl ?_|refine h.hd rfl ?_|(refine h.sb rfl rfl ?_;clear h;intro _ h)|(refine h.dw ?_;clear h;intro _ h)
  refine nat_k hb.c h (fun e w h => hZ e w h.tail) fun v3 a w _ i3 h => ?_
  repeat first|refine sp ?_|refine cond_t rfl ?_|refine cond_f rfl ?_|refine asT_i rfl rfl ?_|refine asA_i rfl rfl ?_|refine h.l rfl ?_|refine h.hd rfl ?_|(refine h.sb rfl rfl ?_;clear h;intro _ h)|(refine h.dw ?_;clear h;intro _ h)
  exact hK _ _ _ _ _ i1 i2 i3 h.swap.tail
end
end Go.Proofs.YtndbhmmejjhcfaaGreatDoor
namespace Go.Proofs.YtndbhmmejjhcfaaGreatDoor
open Go Go.Sx Go.Vp
attribute [local irreducible] jn lv ld st nw asI asB asP asS asY asM asF asA asT lp rn ru rq cl dw dr bnd bn2 nz nn hd hr so eqW
attribute [local irreducible] callOk
theorem StOK.congr {X : Im} {a b : List Sv} (h : StOK X a) (e : b.map Sv.l = a.map Sv.l) : StOK X b := by
  have hl : b.length = a.length := by have := congrArg List.length e; simpa using this
  refine ⟨hl.trans h.1, fun k g s hg hs => ?_⟩
  have hk := (List.getElem?_eq_some_iff.1 hs).1
  have ha : a[k]? = some a[k] := List.getElem?_eq_getElem (by omega)
  have h1 := congrArg (fun l => l[k]?) e
  simp only [List.getElem?_map, hs, ha, Option.map_some, Option.some.injEq] at h1
  rw [h1]
  exact h.2 k g _ hg ha
section
variable {w : World} {K : Value → World → Prop}
theorem begin_k {M : Ms} {fb fo : Nat} {T : Nat → Nat → Option Lt} (hC : Ctx w M fb fo) (hV : Verified M.I.im T) {p : Option Addr} {SL : List Sv} {c : Nat} (hs : StAt w p SL) (hst : StOK M.I.im SL) (hz : ∀ g ∈ M.I.gl, g.z ≤ 1000) (hgl : M.I.gl.length ≤ 1000) {k : Nat} {x : Fs} (hx : M.I.fs[k]? = some x)
    {q : Option Addr} {m d : Nat} {al : List Int} (ha : Reads w q (iw al)) (hm : al.length = m) (hty : Ty (rowL x.f.par) al) {fu : Int} (h0 : 0 ≤ fu) (h1 : fu ≤ 4095)
    (hK : ∀ R w', R.M = M → R.fb = fb → R.fo = fo → R.fu = fu → R.ex = [] → RunOK T R → Hs w w' R.rows → K (.tuple #[.pointer (some ⟨R.q, 0, none⟩), i6 0]) w') :
    cl Tryz.prog 25 #[.pointer (some ⟨M.mb, 0, none⟩), .slice p SL.length c, i6 (k : Int), .slice q m d, i6 fu] w K := by
  have hxm := List.mem_of_getElem? hx
  have hfl := hC.n
  have hpl := hC.l x hxm
  have hxg : M.I.im.fn[k]? = some x.f := by simp [Is.im, hx]
  have hgn : SL.length = M.I.gl.length := hst.1
  apply F25_calls
  unfold F25
  refine sp (right_k hC.m hs hst hz hgl (by omega) hx ha hm hty hpl.2.1 h0 (by omega) fun w1 hx1 => sp (cond_f rfl ?_))
  have h := (Hs.start w).to hx1
  refine h.nw ?_
  clear h
  intro qr w2 h
  refine lp_mk (fun k : Nat => [.int .i64 (k : Int)]) (fun n k w' => n = SL.length - k ∧ k ≤ SL.length ∧ ∃ (S2 : List Sv) (p2 : Option Addr) (c2 : Nat), S2.length = k ∧ S2.map Sv.l = (SL.take k).map Sv.l ∧
    Hs w w' (⟨150, 10, some ⟨qr, 0, none⟩, 1, 1, [.pointer (some ⟨M.mb, 0, none⟩), .slice p2 k c2, i6 fu, .slice none 0 0, .slice none 0 0, .slice none 0 0, .bool false, .bool false, i6 0, i6 0]⟩ :: ⟨23, 1, p2, c2, k, S2.map svC⟩ :: S2.reverse.map Sv.row)) SL.length 0 rfl ⟨rfl, Nat.zero_le _, [], none, 0, rfl, rfl, ?_⟩ ?_
  · exact (h.push (r := ⟨23, 1, none, 0, 0, []⟩) (Ext.refl _ _) (RowN.nil _ _ _ _)).perm (List.Perm.swap _ _ _)
  clear h
  rintro n i w3 ⟨rfl, hi, S2, p2, c2, hl2, hm2, h⟩ J hJ
  refine sp (cond_split (fun hc => ?_) fun hc => ?_)
  · have hil : i < SL.length := by have := of_decide_eq_true hc; omega
    obtain ⟨s, hsl⟩ : ∃ s, SL[i]? = some s := ⟨_, List.getElem?_eq_getElem hil⟩
    refine Reads.at1 (h.old hs.rd) rfl hsl fun ad _ hcd => ?_
    rw [Int.toNat_natCast]
    refine ld_mk hcd (asS_i rfl ?_)
    repeat first|refine sp ?_|refine cond_t rfl ?_|refine cond_f rfl ?_|refine asT_i rfl rfl ?_|refine asA_i rfl rfl ?_|refine h.l rfl ?_|refine h.hd rfl ?_|(refine h.sb rfl rfl ?_;clear h;intro _ h)|(refine h.dw ?_;clear h;intro _ h)
    have hls := sizeG_le hst hz s (List.mem_of_getElem? hsl)
    refine clone_k (h.old (hs.each s (List.mem_of_getElem? hsl))) (by omega) fun p3 c3 w4 hx4 hrow => ?_
    replace h := (h.push hx4 hrow).in2
    repeat first|refine sp ?_|refine cond_t rfl ?_|refine cond_f rfl ?_|refine asT_i rfl rfl ?_|refine asA_i rfl rfl ?_|refine h.l rfl ?_|refine h.hd rfl ?_|(refine h.sb rfl rfl ?_;clear h;intro _ h)|(refine h.dw ?_;clear h;intro _ h)
    refine h.nw ?_
    clear h
    intro q3 w5 h
    repeat first|refine sp ?_|refine cond_t rfl ?_|refine cond_f rfl ?_|refine asT_i rfl rfl ?_|refine asA_i rfl rfl ?_|refine h.l rfl ?_|refine h.hd rfl ?_|(refine h.sb rfl rfl ?_;clear h;intro _ h)|(refine h.dw ?_;clear h;intro _ h)
    refine h.appT sl_sv rfl (by simp [one]) (by omega) (by simp only [maxLen]; omega) ?_
    clear h
    intro p4 c4 w6 h
    repeat first|refine sp ?_|refine cond_t rfl ?_|refine cond_f rfl ?_|refine asT_i rfl rfl ?_|refine asA_i rfl rfl ?_|refine h.l rfl ?_|refine h.hd rfl ?_|(refine h.sb rfl rfl ?_;clear h;intro _ h)|(refine h.dw ?_;clear h;intro _ h)
    rw [natS i (by omega)]
    refine hJ _ (i + 1) _ (by omega) ⟨rfl, hil, S2 ++ [⟨p3, c3, s.l⟩], some ⟨p4, 0, none⟩, c4, by simp [hl2], ?_, ?_⟩
    · rw [List.map_append, hm2, List.take_add_one, hsl, List.map_append]; rfl
    · have e2 : (S2 ++ [(⟨p3, c3, s.l⟩ : Sv)]).map svC = S2.map svC ++ [.slice p3 s.l.length c3] := by simp [svC]
      have e3 : (S2 ++ [(⟨p3, c3, s.l⟩ : Sv)]).reverse.map Sv.row = ⟨3, 1, p3, c3, s.l.length, iw s.l⟩ :: S2.reverse.map Sv.row := by simp [Sv.row]
      rw [e2, e3]
      exact h
  have hil : i = SL.length := by have := of_decide_eq_false hc; omega
  subst hil
  rw [List.take_length] at hm2
  have h3 := ((h.push (r := ⟨3, 1, none, 0, 0, iw []⟩) (Ext.refl _ _) (RowN.nil _ _ _ _)).push (r := ⟨217, 4, none, 0, 0, []⟩) (Ext.refl _ _) (RowN.nil _ _ _ _)).push (r := ⟨87, 2, none, 0, 0, []⟩) (Ext.refl _ _) (RowN.nil _ _ _ _)
  replace h3 := h3.perm ((List.reverse_perm [⟨150, 10, some ⟨qr, 0, none⟩, 1, 1, [.pointer (some ⟨M.mb, 0, none⟩), .slice p2 SL.length c2, i6 fu, .slice none 0 0, .slice none 0 0, .slice none 0 0, .bool false, .bool false, i6 0, i6 0]⟩, ⟨3, 1, none, 0, 0, iw []⟩, ⟨217, 4, none, 0, 0, []⟩, ⟨87, 2, none, 0, 0, []⟩]).symm.append_right (⟨23, 1, p2, c2, SL.length, S2.map svC⟩ :: S2.reverse.map Sv.row))
  refine enter_k hC (sk := []) (n := 0) h3 hx (by decide) (h3.old ha) hm (by obtain ⟨r, e⟩ := hV.par x.f (List.mem_of_getElem? hxg); rw [← hm, hty.len, e]; simp [rowL]) ?_
  clear h h3
  intro y g fc w7 y1 y2 y3 y4 h
  have hel : S2.length = SL.length := hl2
  rw [← hel] at h
  refine sp (hK ⟨qr, M, fb, fo, p2, c2, S2, fu, g, fc, y, [], none, 0, [], none, 0, [], false, false, 0, 0, []⟩ w7 rfl rfl rfl rfl rfl ⟨?_, hst.congr hm2, by simp, ⟨h0, h1⟩, by simp; omega, by simp; omega, by simp, rfl, rfl, rfl⟩ ?_)
  · exact Below.enter (fs := []) hV (res := x.f.res) (sk := []) (show ([] : List Int) = [] from rfl) (by rw [y1]; exact hxg) rfl y2 y4 hty (by rw [y3, hm])
  · refine h.perm ?_
    have e8 : (S2.map Sv.row).Perm (S2.reverse.map Sv.row) := List.Perm.map _ (List.reverse_perm S2).symm
    simp only [Rg.rows, Rg.tl, Rg.ff, List.map_nil, List.nil_append, List.append_nil, List.reverse_singleton, List.flatMap_singleton, List.flatMap_nil, List.length_nil, Nat.zero_add]
    exact ((((((e8.cons _).cons _).cons _).cons _).cons _).cons _)
end
end Go.Proofs.YtndbhmmejjhcfaaGreatDoor
namespace Go.Proofs.YtndbhmmejjhcfaaGreatDoor
open Go Go.Sx Go.Vp
attribute [local irreducible] jn lv ld st nw asI asB asP asS asY asM asF asA asT lp rn ru rq cl dw dr bnd bn2 nz nn hd hr so eqW
attribute [local irreducible] callOk
section
variable {w : World} {K : Value → World → Prop}
def csL (r1 r3 r5 r7 r9 r11 r13 r15 r17 r19 r21 r23 r25 r27 : Nat) : List Cs :=
  [⟨⟨#[115, 112, 97, 119, 110]⟩, some ⟨r1, 0, none⟩, 3, [2, 2, 1], 4⟩, ⟨⟨#[107, 105, 108, 108]⟩, some ⟨r3, 0, none⟩, 1, [4], 0⟩, ⟨⟨#[97, 108, 105, 118, 101]⟩, some ⟨r5, 0, none⟩, 1, [4], 3⟩, ⟨⟨#[103, 101, 116, 120]⟩, some ⟨r7, 0, none⟩, 1, [4], 2⟩, ⟨⟨#[103, 101, 116, 121]⟩, some ⟨r9, 0, none⟩, 1, [4], 2⟩,
   ⟨⟨#[112, 108, 97, 99, 101]⟩, some ⟨r11, 0, none⟩, 3, [4, 2, 2], 3⟩, ⟨⟨#[112, 117, 115, 104]⟩, some ⟨r13, 0, none⟩, 3, [4, 2, 2], 0⟩, ⟨⟨#[115, 105, 122, 101]⟩, some ⟨r15, 0, none⟩, 2, [4, 2], 0⟩, ⟨⟨#[116, 97, 103]⟩, some ⟨r17, 0, none⟩, 1, [4], 1⟩, ⟨⟨#[109, 97, 114, 107]⟩, some ⟨r19, 0, none⟩, 2, [4, 1], 0⟩,
   ⟨⟨#[111, 119, 110, 101, 114]⟩, some ⟨r21, 0, none⟩, 1, [4], 1⟩, ⟨⟨#[99, 111, 117, 110, 116]⟩, none, 0, [], 1⟩, ⟨⟨#[110, 116, 104]⟩, some ⟨r23, 0, none⟩, 1, [1], 4⟩, ⟨⟨#[110, 111, 119]⟩, none, 0, [], 1⟩, ⟨⟨#[114, 97, 110, 100, 111, 109]⟩, some ⟨r25, 0, none⟩, 1, [1], 1⟩, ⟨⟨#[115, 99, 111, 114, 101]⟩, some ⟨r27, 0, none⟩, 2, [1, 1], 0⟩]
theorem calls_k (hK : ∀ (cs : List Cs) (CR : List Rw) (cp : Nat) w', cs.map (fun x => (x.par, x.res)) = sysL → cs.length = 16 → Hs w w' CR → (∀ w2, (∀ r ∈ CR, r.ok w2 0) → CsAt w2 (some ⟨cp, 0, none⟩) cs) → K (.slice (some ⟨cp, 0, none⟩) 16 16) w') : cl Tryz.prog 21 #[] w K := by
  apply F21_calls
  unfold F21
  have h := Hs.start w
  refine h.nwN 3 1 rfl (by decide) ?_; clear h; intro r1 w1 h
  refine h.nwN 1 1 rfl (by decide) ?_; clear h; intro r3 w1 h
  refine h.nwN 1 1 rfl (by decide) ?_; clear h; intro r5 w1 h
  refine h.nwN 1 1 rfl (by decide) ?_; clear h; intro r7 w1 h
  refine h.nwN 1 1 rfl (by decide) ?_; clear h; intro r9 w1 h
  refine h.nwN 3 1 rfl (by decide) ?_; clear h; intro r11 w1 h
  refine h.nwN 3 1 rfl (by decide) ?_; clear h; intro r13 w1 h
  refine h.nwN 2 1 rfl (by decide) ?_; clear h; intro r15 w1 h
  refine h.nwN 1 1 rfl (by decide) ?_; clear h; intro r17 w1 h
  refine h.nwN 2 1 rfl (by decide) ?_; clear h; intro r19 w1 h
  refine h.nwN 1 1 rfl (by decide) ?_; clear h; intro r21 w1 h
  refine h.nwN 1 1 rfl (by decide) ?_; clear h; intro r23 w1 h
  refine h.nwN 1 1 rfl (by decide) ?_; clear h; intro r25 w1 h
  refine h.nwN 2 1 rfl (by decide) ?_; clear h; intro r27 w1 h
  refine h.nwN 16 3 rfl (by decide) ?_; clear h; intro cp w1 h
  refine hK (csL r1 r3 r5 r7 r9 r11 r13 r15 r17 r19 r21 r23 r25 r27) _ cp w1 rfl rfl h fun w2 hok => ⟨RowN.reads (hok _ List.mem_cons_self), fun x hx => ?_⟩
  have ht : ∀ r ∈ [(⟨3, 1, some ⟨r27, 0, none⟩, 2, 2, iw [1, 1]⟩ : Rw), ⟨3, 1, some ⟨r25, 0, none⟩, 1, 1, iw [1]⟩, ⟨3, 1, some ⟨r23, 0, none⟩, 1, 1, iw [1]⟩, ⟨3, 1, some ⟨r21, 0, none⟩, 1, 1, iw [4]⟩, ⟨3, 1, some ⟨r19, 0, none⟩, 2, 2, iw [4, 1]⟩, ⟨3, 1, some ⟨r17, 0, none⟩, 1, 1, iw [4]⟩, ⟨3, 1, some ⟨r15, 0, none⟩, 2, 2, iw [4, 2]⟩, ⟨3, 1, some ⟨r13, 0, none⟩, 3, 3, iw [4, 2, 2]⟩, ⟨3, 1, some ⟨r11, 0, none⟩, 3, 3, iw [4, 2, 2]⟩, ⟨3, 1, some ⟨r9, 0, none⟩, 1, 1, iw [4]⟩, ⟨3, 1, some ⟨r7, 0, none⟩, 1, 1, iw [4]⟩, ⟨3, 1, some ⟨r5, 0, none⟩, 1, 1, iw [4]⟩, ⟨3, 1, some ⟨r3, 0, none⟩, 1, 1, iw [4]⟩, ⟨3, 1, some ⟨r1, 0, none⟩, 3, 3, iw [2, 2, 1]⟩], Reads w2 r.p r.xs := fun r hr => RowN.reads (hok r (List.mem_cons_of_mem _ hr))
  clear hok h
  unfold csL at hx
  simp only [List.mem_cons, List.not_mem_nil, or_false, forall_eq_or_imp, forall_eq] at hx ht
  obtain ⟨t1, t2, t3, t4, t5, t6, t7, t8, t9, t10, t11, t12, t13, t14⟩ := ht
  rcases hx with rfl | rfl | rfl | rfl | rfl | rfl | rfl | rfl | rfl | rfl | rfl | rfl | rfl | rfl | rfl | rfl
  · exact t14
  · exact t13
  · exact t12
  · exact t11
  · exact t10
  · exact t9
  · exact t8
  · exact t7
  · exact t6
  · exact t5
  · exact t4
  · exact .inl rfl
  · exact t3
  · exact .inl rfl
  · exact t2
  · exact t1
theorem start_k {M : Ms} (hM : MsAt w M) (hgl : M.I.gl.length ≤ 1000) (hz : ∀ g ∈ M.I.gl, g.z ≤ 1000) (hv : ∀ g ∈ M.I.gl, okV (l5 g.t) g.v) (hK : ∀ p c (SL : List Sv) w', Ext no w w' → StAt w' p SL → StOK M.I.im SL → K (.slice p SL.length c) w') :
    cl Tryz.prog 7 #[.pointer (some ⟨M.mb, 0, none⟩)] w K := by
  apply F7_calls
  unfold F7
  refine sp (ld_mk hM.g (sp ?_))
  refine lp_mk (fun x : Option Addr × Nat × Nat => [.slice x.1 x.2.2 x.2.1, .int .i64 (x.2.2 : Int)]) (fun n x w' => n = M.I.gl.length - x.2.2 ∧ x.2.2 ≤ M.I.gl.length ∧ ∃ SL : List Sv, SL.length = x.2.2 ∧ (∀ (k : Nat) (g : Gl) (s : Sv), M.I.gl[k]? = some g → SL[k]? = some s → (s.l.length : Int) = sizeG g ∧ ∀ v ∈ s.l, okV (l5 g.t) v) ∧
    Hs w w' (⟨23, 1, x.1, x.2.1, x.2.2, SL.map svC⟩ :: SL.reverse.map Sv.row)) M.I.gl.length (none, 0, 0) rfl ⟨rfl, Nat.zero_le _, [], rfl, by simp, (Hs.start w).push (r := ⟨23, 1, none, 0, 0, []⟩) (Ext.refl _ _) (RowN.nil _ _ _ _)⟩ ?_
  rintro n ⟨p, c, i⟩ w1 ⟨rfl, hi, SL, hl, hok, h⟩ J hJ
  simp only at hi hl h
  refine sp (sp (cond_split (fun hc => ?_) fun hc => ?_))
  · have hil : i < M.I.gl.length := by have := of_decide_eq_true hc; simp only at this; omega
    obtain ⟨g, hg⟩ : ∃ g, M.I.gl[i]? = some g := ⟨_, List.getElem?_eq_getElem hil⟩
    have hgm := List.mem_of_getElem? hg
    refine Reads.atN glC_len (h.old hM.I.gl) rfl hg (by decide) fun a _ hca => ?_
    rw [Int.toNat_natCast]
    have hc0 := hca 0 (by decide)
    rw [Sx.add_zero'] at hc0
    refine ld_mk hc0 (sp (ld_mk (hca 1 (by decide)) (sp (ld_mk (hca 2 (by decide)) (sp ?_)))))
    refine h.nw ?_
    clear h hca hc0
    intro qb w2 h
    repeat first|refine sp ?_|refine cond_t rfl ?_|refine cond_f rfl ?_|refine asT_i rfl rfl ?_|refine asA_i rfl rfl ?_|refine h.l rfl ?_|refine h.hd rfl ?_|(refine h.sb rfl rfl ?_;clear h;intro _ h)|(refine h.dw ?_;clear h;intro _ h)
    refine size_gk fun w3 hx3 => sp ?_
    replace h := h.to hx3
    obtain ⟨z, hzz⟩ : ∃ z : Nat, sizeG g = (z : Int) := ⟨(sizeG g).toNat, by unfold sizeG; split <;> omega⟩
    have hz1 : 1 ≤ z := by unfold sizeG at hzz; split at hzz <;> omega
    have hz2 : z ≤ 1000 := by have := hz g hgm; unfold sizeG at hzz; split at hzz <;> omega
    rw [hzz]
    refine h.mkN slt_int (by omega) (by simp only [maxLen]; omega) ?_
    clear h
    intro q4 w4 _ h
    repeat first|refine sp ?_|refine cond_t rfl ?_|refine cond_f rfl ?_|refine asT_i rfl rfl ?_|refine asA_i rfl rfl ?_|refine h.l rfl ?_|refine h.hd rfl ?_|(refine h.sb rfl rfl ?_;clear h;intro _ h)|(refine h.dw ?_;clear h;intro _ h)
    refine bnd_mk (by decide) (by omega) ?_
    refine h.sx (by simp; omega) rfl ?_
    clear h
    intro w5 h
    refine h.nw ?_
    clear h
    intro q6 w6 h
    refine h.appT sl_sv rfl (by simp [one]) (by dsimp only; omega) (by simp only [maxLen]; omega) ?_
    clear h
    intro p7 c7 w7 h
    refine sp ?_
    rw [natS i (by omega)]
    have e1 : (List.replicate z (i6 0)).set (0 + Int.toNat (0 : Int) * 1) (i6 g.v) = iw ((List.replicate z 0).set 0 g.v) := by simp [iv, List.map_set]
    rw [e1] at h
    have e0 : ((List.replicate z 0).set 0 g.v).length = z := by simp
    refine hJ (M.I.gl.length - (i + 1)) (some ⟨p7, 0, none⟩, c7, i + 1) w7 (by simp only; omega) ⟨rfl, hil, SL ++ [⟨some ⟨q4, 0, none⟩, z, (List.replicate z 0).set 0 g.v⟩], by simp [hl], ?_, ?_⟩
    · intro k g' s' hg' hs'
      by_cases hk : k < SL.length
      · rw [List.getElem?_append_left hk] at hs'
        exact hok k g' s' hg' hs'
      · have hk2 : k = i := by
          have := (List.getElem?_eq_some_iff.1 hs').1
          simp at this
          omega
        subst hk2
        rw [List.getElem?_append_right (by omega), hl, Nat.sub_self] at hs'
        cases hs'
        rw [hg] at hg'
        cases hg'
        refine ⟨by rw [e0, hzz], fun v hvm => ?_⟩
        rcases List.mem_or_eq_of_mem_set hvm with hvm | rfl
        · rw [List.eq_of_mem_replicate hvm]; exact okV.z _
        · exact hv g hgm
    · have e2 : (SL ++ [(⟨some ⟨q4, 0, none⟩, z, (List.replicate z 0).set 0 g.v⟩ : Sv)]).map svC = SL.map svC ++ [.slice (some ⟨q4, 0, none⟩) z z] := by simp [svC]
      have e3 : (SL ++ [(⟨some ⟨q4, 0, none⟩, z, (List.replicate z 0).set 0 g.v⟩ : Sv)]).reverse.map Sv.row = ⟨3, 1, some ⟨q4, 0, none⟩, z, z, iw ((List.replicate z 0).set 0 g.v)⟩ :: SL.reverse.map Sv.row := by simp [Sv.row]
      rw [e2, e3]
      exact (h.sub (Rs' := _ :: ⟨23, 1, some ⟨p7, 0, none⟩, c7, i + 1, SL.map svC ++ [.slice (some ⟨q4, 0, none⟩) z z]⟩ :: SL.reverse.map Sv.row) (List.Sublist.cons_cons _ (List.sublist_cons_self _ _))).perm (List.Perm.swap _ _ _)
  · have hil : i = M.I.gl.length := by have := of_decide_eq_false hc; simp only at this; omega
    subst hil
    rw [← hl]
    refine hK p c SL w1 h.ext ⟨h.rd (r := ⟨23, 1, p, c, M.I.gl.length, SL.map svC⟩) List.mem_cons_self, fun s hs => h.rd (r := s.row) (List.mem_cons_of_mem _ (List.mem_map_of_mem (List.mem_reverse.2 hs)))⟩ ⟨hl, hok⟩
end
end Go.Proofs.YtndbhmmejjhcfaaGreatDoor
namespace Go.Proofs.YtndbhmmejjhcfaaGreatDoor
open Go Go.Sx Go.Vp
attribute [local irreducible] jn lv ld st nw asI asB asP asS asY asM asF asA asT lp rn ru rq cl dw dr bnd bn2 nz nn hd hr so eqW
attribute [local irreducible] callOk
section
variable {w : World} {K : Value → World → Prop}
theorem glC_one : ∀ x, ∀ u ∈ glC x, one u = true := by intro x u hu; simp [glC] at hu; rcases hu with rfl | rfl | rfl <;> rfl
theorem inC_one : ∀ x, ∀ u ∈ inC x, one u = true := by intro x u hu; simp [inC] at hu; rcases hu with rfl | rfl | rfl <;> rfl
theorem fsC_one : ∀ x, ∀ u ∈ fsC x, one u = true := by intro x u hu; simp [fsC] at hu; rcases hu with rfl | rfl | rfl | rfl | rfl <;> rfl
theorem clone_gl {p : Option Addr} {l : List Gl} {c : Nat} (hr : Reads w p (l.flatMap glC)) (hm : l.length ≤ 1000000) (hQ : ∀ p' c' w', Ext no w w' → Rw.ok ⟨65, 3, p', c', l.length, l.flatMap glC⟩ w' w.heap.size → K (.slice p' l.length c') w') : cl Tryz.prog 19 #[.slice p l.length c] w K := by
  apply F19_calls
  exact clone_of sl_gl hr (fl_lenN glC_len l) (flat_one glC_one) (by omega) (by simp only [maxLen]; omega) hQ
theorem clone_fn {p : Option Addr} {l : List Fs} {c : Nat} (hr : Reads w p (l.flatMap fsC)) (hm : l.length ≤ 1000000) (hQ : ∀ p' c' w', Ext no w w' → Rw.ok ⟨42, 5, p', c', l.length, l.flatMap fsC⟩ w' w.heap.size → K (.slice p' l.length c') w') : cl Tryz.prog 20 #[.slice p l.length c] w K := by
  apply F20_calls
  exact clone_of sl_fn hr (fl_lenN fsC_len l) (flat_one fsC_one) (by omega) (by simp only [maxLen]; omega) hQ
theorem clone_in {p : Option Addr} {l : List Ins} {c : Nat} (hr : Reads w p (l.flatMap inC)) (hm : l.length ≤ 1000000) (hQ : ∀ p' c' w', Ext no w w' → Rw.ok ⟨81, 3, p', c', l.length, l.flatMap inC⟩ w' w.heap.size → K (.slice p' l.length c') w') : cl Tryz.prog 23 #[.slice p l.length c] w K := by
  apply F23_calls
  exact clone_of sl_in hr (fl_lenN inC_len l) (flat_one inC_one) (by omega) (by simp only [maxLen]; omega) hQ
theorem fl_setN {α : Type} {f : α → List Value} {s : Nat} (hf : ∀ x, (f x).length = s) : ∀ {l : List α} {i : Nat} {x y : α} {j : Nat} {v : Value}, l[i]? = some x → (f x).set j v = f y → j < s → (l.flatMap f).set (i * s + j) v = (l.set i y).flatMap f
  | [], _, _, _, _, _, h, _, _ => by simp at h
  | z :: l, 0, x, y, j, v, h, e, hj => by
    simp only [List.getElem?_cons_zero, Option.some.injEq] at h
    subst h
    rw [List.flatMap_cons, Nat.zero_mul, Nat.zero_add, List.set_append_left _ _ (by rw [hf]; exact hj), e]
    rfl
  | z :: l, i + 1, x, y, j, v, h, e, hj => by
    have ei : (i + 1) * s + j = s + (i * s + j) := by rw [Nat.add_mul]; omega
    rw [List.flatMap_cons, ei, List.set_append_right _ _ (by rw [hf]; omega), hf, Nat.add_sub_cancel_left, fl_setN hf (by simpa using h) e hj]
    rfl
structure Sized (I : Is) : Prop where
  gl : I.gl.length ≤ 64
  fs : I.fs.length ≤ 64
  z : ∀ g ∈ I.gl, g.z ≤ 256
  each : ∀ x ∈ I.fs, x.f.loc.length ≤ 1000 ∧ x.f.par.length ≤ 1000 ∧ x.f.code.length ≤ 1000000
def rowsF (x : Fs) : List Rw := [⟨3, 1, x.pp, x.pc, x.f.par.length, iw x.f.par⟩, ⟨3, 1, x.lp, x.lc, x.f.loc.length, iw x.f.loc⟩, ⟨81, 3, x.cp, x.cc, x.f.code.length, x.f.code.flatMap inC⟩]
def Vfy (w0 : World) (I : Is) (P : Prop) : Prop := ∀ (w : World), Ext no w0 w → IsAt w I → ∀ K : Value → World → Prop, (∀ code a w', Ext no w w' → (code = 0 ↔ P) → K (.agg #[i6 code, i6 a]) w') → cl Tryz.prog 18 #[I.val] w K
theorem Vfy.ext {w w' : World} {I : Is} {P : Prop} (h : Ext no w w') (hv : Vfy w I P) : Vfy w' I P := fun u hu => hv u (h.trans hu)
theorem new_k {I : Is} (hI : IsAt w I) (hS : Sized I) {P : Prop} (hv : Vfy w I P) (hN : ¬P → ∀ w', Ext no w w' → K (.tuple #[.pointer none, i6 120]) w')
    (hY : P → ∀ (M : Ms) w', Ext no w w' → MsAt w' M → M.I.im = I.im → Sized M.I → (M.I.fs = [] ∨ ∃ fb fo, M.I.fp = some ⟨fb, fo, none⟩) → K (.tuple #[.pointer (some ⟨M.mb, 0, none⟩), i6 0]) w') : cl Tryz.prog 6 #[I.val] w K := by
  have hgl := hS.gl
  have hfs := hS.fs
  apply F6_calls
  unfold F6
  have h := Hs.start w
  refine h.nw ?_
  clear h
  intro q1 w1 h
  repeat first|refine sp ?_|refine cond_t rfl ?_|refine cond_f rfl ?_|refine asT_i rfl rfl ?_|refine asA_i rfl rfl ?_|refine h.l rfl ?_|refine h.hd rfl ?_|(refine h.sb rfl rfl ?_;clear h;intro _ h)|(refine h.dw ?_;clear h;intro _ h)
  refine hv _ h.ext (hI.ext h.ext) _ fun code a w2 hx2 hcode => ?_
  replace h := h.to hx2
  repeat first|refine sp ?_|refine cond_t rfl ?_|refine cond_f rfl ?_|refine asT_i rfl rfl ?_|refine asA_i rfl rfl ?_|refine h.l rfl ?_|refine h.hd rfl ?_|(refine h.sb rfl rfl ?_;clear h;intro _ h)|(refine h.dw ?_;clear h;intro _ h)
  refine cond_split (fun hc => sp (hN (fun hp => ?_) _ h.ext)) fun hc => ?_
  · rw [hcode.2 hp] at hc; simp at hc
  have hP := hcode.1 (by simpa using hc)
  repeat first|refine sp ?_|refine cond_t rfl ?_|refine cond_f rfl ?_|refine asT_i rfl rfl ?_|refine asA_i rfl rfl ?_|refine h.l rfl ?_|refine h.hd rfl ?_|(refine h.sb rfl rfl ?_;clear h;intro _ h)|(refine h.dw ?_;clear h;intro _ h)
  refine clone_gl (h.old hI.gl) (by omega) fun p3 c3 w3 hx3 hr3 => ?_
  replace h := h.push hx3 hr3
  repeat first|refine sp ?_|refine cond_t rfl ?_|refine cond_f rfl ?_|refine asT_i rfl rfl ?_|refine asA_i rfl rfl ?_|refine h.l rfl ?_|refine h.hd rfl ?_|(refine h.sb rfl rfl ?_;clear h;intro _ h)|(refine h.dw ?_;clear h;intro _ h)
  refine clone_fn (h.old hI.fn) (by omega) fun p4 c4 w4 hx4 hr4 => ?_
  replace h := h.push hx4 hr4
  repeat first|refine sp ?_|refine cond_t rfl ?_|refine cond_f rfl ?_|refine asT_i rfl rfl ?_|refine asA_i rfl rfl ?_|refine h.l rfl ?_|refine h.hd rfl ?_|(refine h.sb rfl rfl ?_;clear h;intro _ h)|(refine h.dw ?_;clear h;intro _ h)
  refine calls_k fun cs CR cp w5 hsys hcl hCR hcs => ?_
  replace h := (h.over hCR).perm List.perm_append_comm
  repeat first|refine sp ?_|refine cond_t rfl ?_|refine cond_f rfl ?_|refine asT_i rfl rfl ?_|refine asA_i rfl rfl ?_|refine h.l rfl ?_|refine h.hd rfl ?_|(refine h.sb rfl rfl ?_;clear h;intro _ h)|(refine h.dw ?_;clear h;intro _ h)
  refine h.nw ?_
  clear h
  intro qm w6 h
  repeat first|refine sp ?_|refine cond_t rfl ?_|refine cond_f rfl ?_|refine asT_i rfl rfl ?_|refine asA_i rfl rfl ?_|refine h.l rfl ?_|refine h.hd rfl ?_|(refine h.sb rfl rfl ?_;clear h;intro _ h)|(refine h.dw ?_;clear h;intro _ h)
  refine lp_mk (fun k : Nat => [.int .i64 (k : Int)]) (fun n k w' => n = I.fs.length - k ∧ k ≤ I.fs.length ∧ ∃ (F : List Fs) (TL : List Rw), F.map Fs.f = I.fs.map Fs.f ∧ F.drop k = I.fs.drop k ∧ (∀ x ∈ F.take k, ∀ r ∈ rowsF x, r ∈ TL) ∧ (∀ r ∈ CR, r ∈ TL) ∧
    Hs w w' (bk 76 qm [.slice p3 I.gl.length c3, .slice p4 I.fs.length c4, .slice (some ⟨cp, 0, none⟩) 16 16] :: ⟨42, 5, p4, c4, I.fs.length, F.flatMap fsC⟩ :: ⟨65, 3, p3, c3, I.gl.length, I.gl.flatMap glC⟩ :: TL)) I.fs.length 0 rfl
    ⟨rfl, Nat.zero_le _, I.fs, _, rfl, rfl, by simp, fun r hr => List.mem_append_right _ hr, h⟩ ?_
  clear h
  rintro n i w7 ⟨rfl, hi, F, TL, hF, hD, hT, hC, h⟩ J hJ
  have hFl : F.length = I.fs.length := by have := congrArg List.length hF; simpa using this
  refine sp (cond_split (fun hc => ?_) fun hc => ?_)
  · have hil : i < I.fs.length := by have := of_decide_eq_true hc; omega
    obtain ⟨x, hx⟩ : ∃ x, I.fs[i]? = some x := ⟨_, List.getElem?_eq_getElem hil⟩
    have hFx : F[i]? = some x := by
      have := congrArg (fun l => l[0]?) hD
      simp only [List.getElem?_drop, Nat.add_zero] at this
      rw [this, hx]
    have hxm := List.mem_of_getElem? hx
    have hE := hI.each x hxm
    have hSx := hS.each x hxm
    repeat first|refine sp ?_|refine cond_t rfl ?_|refine cond_f rfl ?_|refine asT_i rfl rfl ?_|refine asA_i rfl rfl ?_|refine h.l rfl ?_|refine h.hd rfl ?_|(refine h.sb rfl rfl ?_;clear h;intro _ h)|(refine h.dw ?_;clear h;intro _ h)
    refine h.ix p4 rfl hil rfl fun b hb _ => ?_
    subst hb
    rw [Int.toNat_natCast]
    have g0 : ∀ j v, (fsC x)[j]? = some v → (F.flatMap fsC)[0 + i * 5 + j]? = some v := fun j v hv => by
      rw [Nat.zero_add, fl_getN fsC_len hFx j (List.getElem?_eq_some_iff.1 hv).1]; exact hv
    repeat first|refine sp ?_|refine cond_t rfl ?_|refine cond_f rfl ?_|refine asT_i rfl rfl ?_|refine asA_i rfl rfl ?_|refine h.l rfl ?_|refine h.hd rfl ?_|(refine h.sb rfl rfl ?_;clear h;intro _ h)|(refine h.dw ?_;clear h;intro _ h)|refine h.l (g0 1 _ rfl) ?_|refine h.l (g0 3 _ rfl) ?_|refine h.l (g0 4 _ rfl) ?_
    refine clone_k (h.old hE.par) (by omega) fun pa ca w8 hx8 hr8 => ?_
    replace h := h.push hx8 hr8
    repeat first|refine sp ?_|refine cond_t rfl ?_|refine cond_f rfl ?_|refine asT_i rfl rfl ?_|refine asA_i rfl rfl ?_|refine h.l rfl ?_|refine h.hd rfl ?_|(refine h.sb rfl rfl ?_;clear h;intro _ h)|(refine h.dw ?_;clear h;intro _ h)|refine h.hd (g0 3 _ rfl) ?_|refine h.hd (g0 4 _ rfl) ?_
    refine clone_k (h.old hE.loc) (by omega) fun pb cb w9 hx9 hr9 => ?_
    replace h := h.push hx9 hr9
    repeat first|refine sp ?_|refine cond_t rfl ?_|refine cond_f rfl ?_|refine asT_i rfl rfl ?_|refine asA_i rfl rfl ?_|refine h.l rfl ?_|refine h.hd rfl ?_|(refine h.sb rfl rfl ?_;clear h;intro _ h)|(refine h.dw ?_;clear h;intro _ h)|refine h.hd (g0 3 _ rfl) ?_|refine h.hd (g0 4 _ rfl) ?_
    refine clone_in (h.old hE.code) (by omega) fun pd cd w10 hx10 hr10 => ?_
    replace h := h.push hx10 hr10
    have hlen : ∀ l : List Fs, l.length = I.fs.length → (l.flatMap fsC).length = I.fs.length * 5 := fun l hl => by rw [fl_lenN fsC_len, hl]
    refine sp (h.sx (by rw [hlen F hFl]; omega) rfl ?_)
    clear h
    intro w11 h
    rw [Nat.zero_add, fl_setN fsC_len (y := { x with pp := pa, pc := ca }) hFx rfl (by decide)] at h
    have hF2 : (F.set i { x with pp := pa, pc := ca })[i]? = some { x with pp := pa, pc := ca } := by rw [List.getElem?_set_self (by omega)]
    refine h.sx (by rw [hlen _ (by simpa using hFl)]; omega) rfl ?_
    clear h
    intro w12 h
    rw [Nat.zero_add, fl_setN fsC_len (y := { x with pp := pa, pc := ca, lp := pb, lc := cb }) hF2 rfl (by decide), List.set_set] at h
    have hF3 : (F.set i { x with pp := pa, pc := ca, lp := pb, lc := cb })[i]? = some { x with pp := pa, pc := ca, lp := pb, lc := cb } := by rw [List.getElem?_set_self (by omega)]
    refine h.sx (by rw [hlen _ (by simpa using hFl)]; omega) rfl ?_
    clear h
    intro w13 h
    rw [Nat.zero_add, fl_setN fsC_len (y := { x with pp := pa, pc := ca, lp := pb, lc := cb, cp := pd, cc := cd }) hF3 rfl (by decide), List.set_set] at h
    rw [natS i (by omega)]
    refine hJ (I.fs.length - (i + 1)) (i + 1) w13 (by omega) ⟨rfl, hil, F.set i { x with pp := pa, pc := ca, lp := pb, lc := cb, cp := pd, cc := cd }, _, ?_, ?_, ?_, ?_, h.perm (List.perm_append_comm_assoc [_, _, _] [_, _, _] TL).symm⟩
    · rw [List.map_set, hF]
      apply List.ext_getElem?
      intro j
      by_cases hj : j = i
      · subst hj
        rw [List.getElem?_set_self (by simpa using hil)]
        simp [hx]
      · rw [List.getElem?_set_ne (fun e => hj e.symm)]
    · rw [List.drop_set_of_lt (by omega), ← List.drop_drop, ← List.drop_drop, hD]
    · intro y hy r hr
      rw [List.take_add_one, List.getElem?_set_self (by omega), List.take_set, List.set_eq_of_length_le (by simp; omega)] at hy
      rcases List.mem_append.1 hy with hy | hy
      · exact List.mem_cons_of_mem _ (List.mem_cons_of_mem _ (List.mem_cons_of_mem _ (hT y hy r hr)))
      · simp only [Option.toList_some, List.mem_singleton] at hy
        subst hy
        simp only [rowsF, List.mem_cons, List.not_mem_nil, or_false] at hr
        rcases hr with rfl | rfl | rfl
        · exact List.mem_cons_of_mem _ (List.mem_cons_of_mem _ List.mem_cons_self)
        · exact List.mem_cons_of_mem _ List.mem_cons_self
        · exact List.mem_cons_self
    · exact fun r hr => List.mem_cons_of_mem _ (List.mem_cons_of_mem _ (List.mem_cons_of_mem _ (hC r hr)))
  · have hil : i = I.fs.length := by have := of_decide_eq_false hc; omega
    subst hil
    rw [show F.take I.fs.length = F by rw [← hFl, List.take_length]] at hT
    have hok : ∀ r ∈ TL, r.ok w7 0 := fun r hr => RowN.mono (h.row r (List.mem_cons_of_mem _ (List.mem_cons_of_mem _ (List.mem_cons_of_mem _ hr)))) (Nat.zero_le _)
    have hSF : ∀ x ∈ F, ∃ y ∈ I.fs, x.f = y.f := fun x hx => by
      have : x.f ∈ F.map Fs.f := List.mem_map_of_mem hx
      rw [hF] at this
      obtain ⟨y, hy, e⟩ := List.mem_map.1 this
      exact ⟨y, hy, e.symm⟩
    rw [← hFl] at h
    refine sp (hY hP ⟨qm, ⟨p3, c3, I.gl, p4, c4, F⟩, some ⟨cp, 0, none⟩, 16, cs⟩ w7 h.ext ⟨?_, ?_, ?_, ⟨h.rd (r := ⟨65, 3, p3, c3, I.gl.length, I.gl.flatMap glC⟩) (by simp), h.rd (r := ⟨42, 5, p4, c4, F.length, F.flatMap fsC⟩) (by simp), fun x hx => ⟨?_, ?_, ?_, ?_, ?_⟩⟩, hcs w7 fun r hr => hok r (hC r hr), hsys⟩ ?_ ⟨hgl, by dsimp only; omega, hS.z, fun x hx => ?_⟩ ?_)
    · exact h.cell (r := bk 76 qm _) List.mem_cons_self rfl rfl
    · exact h.cel (a := Addr.add ⟨qm, 0, none⟩ 1) rfl
    · dsimp only; rw [hcl]; exact h.cel (a := Addr.add ⟨qm, 0, none⟩ 2) rfl
    · exact RowN.reads (hok _ (hT x hx _ List.mem_cons_self))
    · exact RowN.reads (hok _ (hT x hx ⟨3, 1, x.lp, x.lc, x.f.loc.length, iw x.f.loc⟩ (by simp [rowsF])))
    · exact RowN.reads (hok _ (hT x hx ⟨81, 3, x.cp, x.cc, x.f.code.length, x.f.code.flatMap inC⟩ (by simp [rowsF])))
    · exact RowN.le_max (hok _ (hT x hx _ List.mem_cons_self))
    · exact RowN.le_max (hok _ (hT x hx ⟨3, 1, x.lp, x.lc, x.f.loc.length, iw x.f.loc⟩ (by simp [rowsF])))
    · simp only [Is.im, hF]
    · obtain ⟨y, hy, e⟩ := hSF x hx
      rw [e]
      exact hS.each y hy
    · have hr := h.row ⟨42, 5, p4, c4, F.length, F.flatMap fsC⟩ (by simp)
      rcases RowN.cases hr with ⟨_, _, h0, _⟩ | ⟨g, _, hp, _⟩
      · exact .inl (List.eq_nil_of_length_eq_zero h0)
      · exact .inr ⟨g, 0, hp⟩
end
end Go.Proofs.YtndbhmmejjhcfaaGreatDoor
namespace Go.Proofs.YtndbhmmejjhcfaaGreatDoor
open Go Go.Sx Go.Vp
attribute [local irreducible] jn lv ld st nw asI asB asP asS asY asM asF asA asT lp rn ru rq cl dw dr bnd bn2 nz nn hd hr so eqW
attribute [local irreducible] callOk
def rpC (x : Int × Bool) : List Value := [i6 x.1, .bool x.2]
theorem rpC_len (x : Int × Bool) : (rpC x).length = 2 := rfl
theorem Reads.dropN {w : World} {α : Type} {f : α → List Value} {s : Nat} (hf : ∀ x, (f x).length = s) {p : Option Addr} {l : List α} (hr : Reads w p (l.flatMap f)) {c : Nat} (hc : l.length ≤ c) (hs : 0 < s) : Reads w (slp p c 1 s) ((l.drop 1).flatMap f) := by
  cases l with
  | nil => exact .inl rfl
  | cons x l =>
    rcases hr with h | ⟨b, o, rfl, hx⟩
    · have := congrArg List.length h
      rw [fl_lenN hf] at this
      simp only [List.length_nil, List.length_cons, Nat.add_mul] at this
      omega
    · by_cases h1 : c = 1
      · have : l = [] := List.eq_nil_of_length_eq_zero (by simp at hc; omega)
        subst this
        exact .inl rfl
      · have : slp (some ⟨b, o, none⟩) c 1 s = some ⟨b, o + s, none⟩ := by
          unfold slp
          rw [if_neg h1, Nat.one_mul]
          simp [add_mk]
        rw [this]
        refine .inr ⟨b, o + s, rfl, fun i v hv => ?_⟩
        have := hx (s + i) v (by rw [List.flatMap_cons, List.getElem?_append_right (by rw [hf]; omega), hf, Nat.add_sub_cancel_left]; exact hv)
        rw [← this, Nat.add_assoc]
theorem _root_.Go.Sx.Hs.over2 {w0 w w' : World} {a b : Rw} {Ts : List Rw} (h : Hs w0 w [a, b]) (k : Hs w w' Ts) : Hs w0 w' (a :: b :: Ts) := (h.over k).perm (List.perm_append_comm (l₁ := [a, b]) (l₂ := Ts))
theorem exec_k {w : World} {I : Is} {P : Prop} {T : Nat → Nat → Option Lt} (hI : IsAt w I) (hS : Sized I) (hv : Vfy w I P) (hP : P) (hV : Verified I.im T) {p : Option Addr} {SL : List Sv} {c : Nat} (hs : StAt w p SL) (hst : StOK I.im SL) {k : Nat} {x : Fs} (hx : I.fs[k]? = some x)
    {q : Option Addr} {m d : Nat} {al : List Int} (ha : Reads w q (iw al)) (hm : al.length = m) (hty : Ty (rowL x.f.par) al) {fu : Int} (h0 : 0 ≤ fu) (h1 : fu ≤ 4095)
    {rp : Option Addr} {rn rc : Nat} {rl : List (Int × Bool)} (hr : Reads w rp (rl.flatMap rpC)) (hrn : rl.length = rn) (hrc : rn ≤ rc) (hri : ∀ y ∈ rl, I64 y.1) {K : Value → World → Prop}
    (hK : ∀ tr va f2 p2 c2 (S2 : List Sv) ap an ac w', 0 ≤ tr → tr ≤ 5 → 0 ≤ f2 → f2 ≤ fu → Ext no w w' → StAt w' p2 S2 → StOK I.im S2 → K (.tuple #[.agg #[i6 tr, i6 va, i6 f2, .slice p2 S2.length c2, .slice ap an ac], i6 0]) w') :
    cl Tryz.prog 8 #[I.val, .slice p SL.length c, i6 (k : Int), .slice q m d, i6 fu, .slice rp rn rc] w K := by
  have hgl := hS.gl
  apply F8_calls
  unfold F8
  have h := Hs.start w
  refine h.nw ?_
  clear h
  intro q1 w1 h
  refine h.nw ?_
  clear h
  intro q2 w2 h
  repeat first|refine sp ?_|refine cond_t rfl ?_|refine cond_f rfl ?_|refine asT_i rfl rfl ?_|refine asA_i rfl rfl ?_|refine h.l rfl ?_|refine h.hd rfl ?_|(refine h.sb rfl rfl ?_;clear h;intro _ h)|(refine h.dw ?_;clear h;intro _ h)
  refine new_k (I := I) (hI.ext h.ext) hS (hv.ext h.ext) (fun hn => absurd hP hn) fun _ M w3 hx3 hM him hSM hfp => ?_
  replace h := h.to hx3
  repeat first|refine sp ?_|refine cond_t rfl ?_|refine cond_f rfl ?_|refine asT_i rfl rfl ?_|refine asA_i rfl rfl ?_|refine h.l rfl ?_|refine h.hd rfl ?_|(refine h.sb rfl rfl ?_;clear h;intro _ h)|(refine h.dw ?_;clear h;intro _ h)
  obtain ⟨x2, hx2, ex2⟩ : ∃ y, M.I.fs[k]? = some y ∧ y.f = x.f := im_fn (by rw [him]; simp [Is.im, hx])
  obtain ⟨fb, fo, hfo⟩ : ∃ fb fo, M.I.fp = some ⟨fb, fo, none⟩ := by
    rcases hfp with h | h
    · rw [h] at hx2; simp at hx2
    · exact h
  have hC : Ctx w3 M fb fo := ⟨hM, hfo, hSM.fs, hSM.each⟩
  rw [← him] at hV hst
  refine begin_k hC hV (hs.ext h.ext) hst (fun g hg => by have := hSM.z g hg; omega) (by have := hSM.gl; omega) hx2 (ha.no h.ext) hm (by rw [ex2]; exact hty) h0 h1 fun R w4 e1 e2 e3 e4 e5 hR k4 => ?_
  repeat first|refine sp ?_|refine cond_t rfl ?_|refine cond_f rfl ?_|refine asT_i rfl rfl ?_|refine asA_i rfl rfl ?_|refine h.l rfl ?_|refine h.hd rfl ?_|(refine h.sb rfl rfl ?_;clear h;intro _ h)|(refine h.dw ?_;clear h;intro _ h)
  refine lp_mk (fun y : Option Addr × Nat × List (Int × Bool) => [.slice y.1 y.2.2.length y.2.1]) (fun n y w' => Reads w y.1 (y.2.2.flatMap rpC) ∧ y.2.2.length ≤ y.2.1 ∧ (∀ z ∈ y.2.2, I64 z.1) ∧ ∃ R', n = R'.fu.toNat ∧ Like R R' ∧ Goes T w3 w' R') R.fu.toNat (rp, rc, rl) (by rw [← hrn])
    ⟨hr, by rw [hrn]; exact hrc, hri, R, rfl, ⟨rfl, rfl, rfl, rfl, Int.le_refl _, rfl⟩, .inl ⟨hR, k4⟩⟩ ?_
  clear hr hrn hrc hri k4 hR
  rintro n ⟨rp, rc, rl⟩ w5 ⟨hr, hrc, hri, R2, rfl, hl, hg⟩ J hJ
  simp only at hr hrc hri
  have hC2 : Ctx w3 R2.M R2.fb R2.fo := by rw [hl.M, hl.fb, hl.fo, e1, e2, e3]; exact hC
  have hV2 : Verified R2.M.I.im T := by rw [hl.M, e1]; exact hV
  refine sp ?_
  rw [← hl.q]
  have hR2M : R2.M = M := hl.M.trans e1
  refine next_k hg hC2 hV2 (fun R3 w6 hl3 he hF => ?_) fun R3 w6 a1 a2 a3 a4 hl3 hlt hwt hh => ?_
  · obtain ⟨c3, c4, hf⟩ := hF
    have hM3 : R3.M = M := hl3.M.trans hR2M
    have hst3 : StOK M.I.im R3.st := hM3 ▸ he.st
    have hex : R3.ex = [] := (hl3.ex.trans hl.ex).trans e5
    have hf3 : R3.fu ≤ fu := by have h1 := hl3.fu; have h2 := hl.fu; omega
    have h' : Hs w3 w6 (finR R3 c3 c4) := hf
    refine asT_i rfl rfl (asA_i rfl rfl (sp (sp (sp ?_))))
    refine h'.nw ?_
    clear h' hf
    intro q5 w7 h5
    refine h5.sb rfl rfl ?_
    clear h5
    intro w8 h5
    refine h5.sb rfl rfl ?_
    clear h5
    intro w9 h5
    refine cond_t rfl ?_
    rw [← hl3.q]
    refine rend_k he ⟨_, _, h5.tail⟩ (sizeG_le hst3 fun g hg => by have := hSM.z g hg; omega) (by have h1 := hst3.1; have h2 := hSM.gl; have h3 : M.I.im.gl = M.I.gl := rfl; rw [h3] at h1; omega) fun p2 c2 S2 va ap an ac w10 hS2 k10 => ?_
    rw [hex, List.append_nil] at k10
    replace h := h.over2 k10
    have hst4 : StOK I.im S2 := him ▸ hst3.congr hS2
    repeat first|refine sp ?_|refine cond_t rfl ?_|refine cond_f rfl ?_|refine asT_i rfl rfl ?_|refine asA_i rfl rfl ?_|refine h.l rfl ?_|refine h.hd rfl ?_|(refine h.sb rfl rfl ?_;clear h;intro _ h)|(refine h.dw ?_;clear h;intro _ h)|(refine h.nw ?_;clear h;intro _ _ h)
    refine hK R3.tr va R3.fu p2 c2 S2 ap an ac _ he.tr.1 he.tr.2 he.fu.1 hf3 h.ext ⟨?_, fun s hs => ?_⟩ hst4
    · exact h.rd (r := ⟨23, 1, p2, c2, S2.length, S2.map svC⟩) (by simp)
    · exact h.rd (r := s.row) (by simp only [List.mem_cons, List.mem_append, List.mem_map]; refine .inr (.inr (.inr (.inr ⟨s, hs, rfl⟩))))
  · refine asT_i rfl rfl (asA_i rfl rfl (sp (sp (sp ?_))))
    refine hh.nw ?_
    clear hh
    intro q5 w7 h5
    refine h5.sb rfl rfl ?_
    clear h5
    intro w8 h5
    refine h5.sb rfl rfl ?_
    clear h5
    intro w9 h5
    refine cond_f rfl ?_
    refine h5.tail.nw ?_
    clear h5
    intro q6 w10 h6
    refine jn_of (fun s w' => ∃ (y : Option Addr × Nat × List (Int × Bool)) (v : Int) (b : Bool), s = [.slice y.1 y.2.2.length y.2.1] ∧ Reads w y.1 (y.2.2.flatMap rpC) ∧ y.2.2.length ≤ y.2.1 ∧ (∀ z ∈ y.2.2, I64 z.1) ∧ I64 v ∧ Hs w3 w' (bk 91 q6 [i6 v, .bool b] :: R3.rows)) ?_ ?_
    · rintro _ w11 ⟨y, v, b, rfl, g1, g2, g3, g4, g5⟩
      refine sp (g5.l rfl (sp (g5.l rfl (sp ?_))))
      rw [← hl3.q]
      refine reply_k hwt g5.tail (by rw [hl3.M, hl3.fb, hl3.fo]; exact hC2) g4 fun R4 w12 e hl4 hg4 => sp ?_
      have u1 := hl4.fu
      have u2 := hwt.fu
      refine hJ R4.fu.toNat y w12 (by omega) ⟨g1, g2, g3, R4, rfl, ⟨hl4.q.trans (hl3.q.trans hl.q), hl4.M.trans (hl3.M.trans hl.M), hl4.fb.trans (hl3.fb.trans hl.fb), hl4.fo.trans (hl3.fo.trans hl.fo), Int.le_trans u1 (Int.le_trans hl3.fu hl.fu), hl4.ex.trans (hl3.ex.trans hl.ex)⟩, hg4⟩
    · intro J2 hJ2
      refine cond_split (fun hc => ?_) fun hc => hJ2 _ _ ⟨(rp, rc, rl), 0, false, rfl, hr, hrc, hri, I64.z, h6⟩
      cases rl with
      | nil => simp at hc
      | cons y rl =>
        refine h6.dw ?_
        clear h6
        intro w11 h6
        have hx11 : Ext no w w11 := h.ext.trans h6.ext
        refine Reads.atN (i := 0) rpC_len (hr.no hx11) rfl rfl (by decide) fun a _ hca => ?_
        have hc0 := hca 0 (by decide)
        rw [Sx.add_zero'] at hc0
        refine ld_mk hc0 (sp (ld_mk (hca 1 (by decide)) (sp ?_)))
        refine bn2_mk (by decide) (by simp; omega) ?_
        refine h6.sb rfl rfl ?_
        clear h6
        intro w12 h6
        refine h6.sb rfl rfl ?_
        clear h6
        intro w13 h6
        have hd := Reads.dropN rpC_len hr hrc (by decide)
        refine hJ2 _ _ ⟨(slp rp rc 1 2, rc - 1, rl), y.1, y.2, by simp, hd, by simp at hrc ⊢; omega, fun z hz => hri z (List.mem_cons_of_mem _ hz), hri y List.mem_cons_self, h6⟩
end Go.Proofs.YtndbhmmejjhcfaaGreatDoor
namespace Go.Proofs.YtndbhmmejjhcfaaGreatDoor
open Go Go.Sx Go.Vp
attribute [local irreducible] jn lv ld st nw asI asB asP asS asY asM asF asA asT lp rn ru rq cl dw dr bnd bn2 nz nn hd hr so eqW
attribute [local irreducible] callOk clz
section
variable {Z : List PanicEntry → World → Prop} {w0 w : World} {Rs : List Rw} {T : TypeId} {t : Nat} {p : Option Addr} {n c : Nat} {a : Int} {K : Value → World → Prop}
def One (Z : List PanicEntry → World → Prop) (w0 : World) (T : TypeId) (t : Nat) (p : Option Addr) (n c : Nat) {α : Type} (val : α → Value) (rows : α → List Rw) (P : α → Prop) (k : Nat) (args : Array Value) : Prop :=
  ∀ (w : World) (a : Int) (Rs : List Rw) (K : Value → World → Prop), Byt Rs p n c → Hs w0 w (rdr T t p n c a :: Rs) → (∀ e w', Hs w0 w' Rs → Z (thr e) w') → (∀ x nx w', P x → Hs w0 w' (rdr T t p n c nx :: (rows x ++ Rs)) → K (val x) w') → clz Z Tryz.prog k args w K
theorem rows_of {α : Type} {val : α → Value} {rows : α → List Rw} {P : α → Prop} (cs : α → List Value) {te e : TypeId} {s b : Nat} (ht : SlN Tryz.prog te e s b) (hc : ∀ x, (cs x).length = s) (h1 : ∀ x, ∀ u ∈ cs x, one u = true) (hbb : b ≤ 100) {k : Nat} {args : Array Value} (ok : callOk Tryz.prog k = true)
    {most : Nat} (hm : most ≤ 100000) (hb : Byt Rs p n c) (h : Hs w0 w (rdr T t p n c a :: Rs)) (hone : One Z w0 T t p n c val rows P k args) (hZ : ∀ e w', Hs w0 w' Rs → Z (thr e) w')
    {BODY : (List Value → World → Prop) → Option Addr → Nat → Nat → Int → Value → World → Prop} {ALT : (List Value → World → Prop) → Option Addr → Nat → Nat → Int → World → Prop}
    (hB : ∀ J p n c i x w, (nw w (.cells (cs x).toArray e) fun r w => rn Tryz.prog (Builtin.append_ #[te, te] te #[.slice p n c, .slice (some ⟨r, 0, none⟩) 1 1]) w fun v w => asS v fun p n c => J [.slice p n c, i6 (IntKind.wrap .i64 (i + 1))] w) → BODY J p n c i (val x) w)
    (hK : ∀ (l : List α) p' c' nx w', l.length ≤ most → (∀ x ∈ l, P x) → Hs w0 w' (⟨e, s, p', c', l.length, l.flatMap cs⟩ :: rdr T t p n c nx :: (l.reverse.flatMap rows ++ Rs)) → K (.slice p' l.length c') w') :
    clz Z Tryz.prog 40 #[.pointer (some ⟨t, 0, none⟩)] w fun v w => asI .i64 v fun x => lv x fun m => jn (fun _ w => lp [.slice none 0 0, i6 0] w fun J s w => asS (s.getD 0 undef) fun p n c => asI .i64 (s.getD 1 undef) fun i =>
      cond (decide (i < m)) (cond (callOk Tryz.prog k) (clz Z Tryz.prog k args w fun v w => BODY J p n c i v w) (ALT J p n c i w)) (K (.slice p n c) w))
      (fun J => cond (decide (m > (most : Int))) (rn Tryz.prog (Instr.makeInterface 32 (i6 150)) w fun v w => cond (isIface v) (Z [{ v := v, recovered := false }] w) False) (J [] w)) := by
  refine nat_k hb h hZ fun m a1 w1 h0 _ h => sp (sp (jn_of (fun _ w' => w' = w1 ∧ m ≤ most) ?_ fun J hJ => cond_split (fun _ => throw_k (hZ _ _ h.tail)) fun hc => hJ _ _ ⟨rfl, by have := of_decide_eq_false hc; omega⟩))
  rintro _ _ ⟨rfl, hmm⟩
  obtain ⟨m, rfl⟩ := Int.eq_ofNat_of_zero_le h0
  refine lp_mk (fun x : List α × Option Addr × Nat × Int => [.slice x.2.1 x.1.length x.2.2.1, i6 x.1.length]) (fun j x w' => j = m - x.1.length ∧ x.1.length ≤ m ∧ (∀ y ∈ x.1, P y) ∧ Hs w0 w' (⟨e, s, x.2.1, x.2.2.1, x.1.length, x.1.flatMap cs⟩ :: rdr T t p n c x.2.2.2 :: (x.1.reverse.flatMap rows ++ Rs)))
    m ([], none, 0, a1) rfl ⟨rfl, Nat.zero_le _, by simp, ?_⟩ ?_
  · exact h.push (r := ⟨e, s, none, 0, 0, []⟩) (Ext.refl _ _) (RowN.nil _ _ _ _)
  rintro j ⟨l, q, d, a2⟩ w2 ⟨rfl, hl, hP, h⟩ J hJ
  simp only at hl hP h
  refine sp (sp (cond_split (fun hc2 => cond_t ok ?_) fun hc2 => ?_))
  · have hlm : l.length < m := by have := of_decide_eq_true hc2; simp only at this; omega
    refine hone w2 a2 _ _ (hb.mono fun r hr => List.mem_cons_of_mem _ (List.mem_append_right _ hr)) h.swap (fun e w' h' => hZ e w' (h'.tail.sub (List.sublist_append_right _ _))) fun x nx w3 hx h3 => hB _ _ _ _ _ _ _ ?_
    have hp : (rdr T t p n c nx :: (rows x ++ (⟨e, s, q, d, l.length, l.flatMap cs⟩ :: (l.reverse.flatMap rows ++ Rs)))).Perm (⟨e, s, q, d, l.length, l.flatMap cs⟩ :: rdr T t p n c nx :: ((l ++ [x]).reverse.flatMap rows ++ Rs)) := by
      refine (List.Perm.cons _ List.perm_middle).trans ((List.Perm.swap _ _ _).trans (.of_eq ?_))
      simp
    have h3 := h3.perm hp.symm
    refine h3.app1 ht (hc x) (h1 x) (Nat.le_trans (Nat.mul_le_mul (show l.length + 1 ≤ 100000 by omega) hbb) (by decide)) (by simp only [maxLen]; omega) fun g c' w4 h4 => sp ?_
    rw [natS l.length (by omega)]
    have e1 : l.flatMap cs ++ cs x = (l ++ [x]).flatMap cs := by simp
    rw [e1] at h4
    have hl2 : (l ++ [x]).length = l.length + 1 := by simp
    have := hJ (m - (l ++ [x]).length) (l ++ [x], some ⟨g, 0, none⟩, c', nx) w4 (by simp only [hl2]; omega) ⟨rfl, by simp only [hl2]; omega, ?_, ?_⟩
    · simpa only [hl2] using this
    · intro y hy
      rcases List.mem_append.1 hy with hy | hy
      · exact hP y hy
      · rw [List.mem_singleton.1 hy]; exact hx
    · simpa only [hl2] using h4
  · exact hK l q d a2 w2 (by omega) hP h
theorem flat_nil {α : Type} (l : List α) : (l.flatMap fun _ => ([] : List Rw)) = [] := by simp
theorem rowi_k (hb : Byt Rs p n c) (h : Hs w0 w (rdr T t p n c a :: Rs)) (hZ : ∀ e w', Hs w0 w' Rs → Z (thr e) w') {most : Nat} (hm : most ≤ 100000)
    (hK : ∀ (l : List Int) p' c' nx w', l.length ≤ most → Hs w0 w' (⟨3, 1, p', c', l.length, iw l⟩ :: rdr T t p n c nx :: Rs) → K (.slice p' l.length c') w') : clz Z Tryz.prog 43 #[.pointer (some ⟨t, 0, none⟩), i6 most, .func (.func 40) #[.pointer (some ⟨t, 0, none⟩)] #[]] w K := by
  apply F43_calls
  unfold F43
  refine rows_of (val := i6) (rows := fun _ => []) (P := fun _ => True) (fun x => [i6 x]) sl_int (fun _ => rfl) (by simp [one]) (by decide) ok40 hm hb h (fun w a Rs K hb h hZ hK => ?_) hZ (fun J p n c i x w h => ?_) fun l p' c' nx w' hl _ h => ?_
  · exact nat_k hb h hZ fun v nx w' _ _ h => hK v nx w' trivial h
  · exact sp h
  · rw [flat_nil] at h
    exact hK l p' c' nx w' hl (by simpa [iw, iv, List.map_eq_flatMap] using h)
theorem rowin_k (hb : Byt Rs p n c) (h : Hs w0 w (rdr T t p n c a :: Rs)) (hZ : ∀ e w', Hs w0 w' Rs → Z (thr e) w') {most : Nat} (hm : most ≤ 100000)
    (hK : ∀ (l : List Ins) p' c' nx w', l.length ≤ most → (∀ x ∈ l, I64 x.op ∧ I64 x.a ∧ I64 x.b) → Hs w0 w' (⟨81, 3, p', c', l.length, l.flatMap inC⟩ :: rdr T t p n c nx :: Rs) → K (.slice p' l.length c') w') : clz Z Tryz.prog 45 #[.pointer (some ⟨t, 0, none⟩), i6 most, .func (.func 46) #[.pointer (some ⟨t, 0, none⟩)] #[]] w K := by
  apply F45_calls
  unfold F45
  refine rows_of (val := fun x : Ins => .agg #[i6 x.op, i6 x.a, i6 x.b]) (rows := fun _ => []) (P := fun x => I64 x.op ∧ I64 x.a ∧ I64 x.b) inC sl_in inC_len (by simp [one, inC]) (by decide) ok46 hm hb h (fun w a Rs K hb h hZ hK => ?_) hZ (fun J p n c i x w h => ?_) fun l p' c' nx w' hl hP h => ?_
  · exact instr_k hb h hZ fun t z v nx w' i1 i2 i3 h => hK ⟨t, z, v⟩ nx w' ⟨i1, i2, i3⟩ h
  · refine asA_i rfl rfl (sp (sp (sp h)))
  · rw [flat_nil] at h
    exact hK l p' c' nx w' hl hP h
theorem rowg_k (hb : Byt Rs p n c) (h : Hs w0 w (rdr T t p n c a :: Rs)) (hZ : ∀ e w', Hs w0 w' Rs → Z (thr e) w') {most : Nat} (hm : most ≤ 100000)
    (hK : ∀ (l : List Gl) p' c' nx w', l.length ≤ most → (∀ x ∈ l, I64 x.t ∧ I64 x.z ∧ I64 x.v) → Hs w0 w' (⟨65, 3, p', c', l.length, l.flatMap glC⟩ :: rdr T t p n c nx :: Rs) → K (.slice p' l.length c') w') : clz Z Tryz.prog 13 #[.pointer (some ⟨t, 0, none⟩), i6 most, .func (.func 14) #[.pointer (some ⟨t, 0, none⟩)] #[]] w K := by
  apply F13_calls
  unfold F13
  refine rows_of (val := fun x : Gl => .agg #[i6 x.t, i6 x.z, i6 x.v]) (rows := fun _ => []) (P := fun x => I64 x.t ∧ I64 x.z ∧ I64 x.v) glC sl_gl glC_len (by simp [one, glC]) (by decide) ok14 hm hb h (fun w a Rs K hb h hZ hK => ?_) hZ (fun J p n c i x w h => ?_) fun l p' c' nx w' hl hP h => ?_
  · exact glob_k hb h hZ fun t z v nx w' i1 i2 i3 h => hK ⟨t, z, v⟩ nx w' ⟨i1, i2, i3⟩ h
  · refine asA_i rfl rfl (sp (sp (sp h)))
  · rw [flat_nil] at h
    exact hK l p' c' nx w' hl hP h
structure FnRd (x : Fs) : Prop where
  par : x.f.par.length ≤ 8
  loc : x.f.loc.length ≤ 40
  code : x.f.code.length ≤ 32768
  pre : x.f.loc.take x.f.par.length = x.f.par
  i64 : ∀ y ∈ x.f.code, I64 y.op ∧ I64 y.a ∧ I64 y.b
theorem fn_k (hb : Byt Rs p n c) (h : Hs w0 w (rdr T t p n c a :: Rs)) (hZ : ∀ e w', Hs w0 w' Rs → Z (thr e) w')
    (hK : ∀ (x : Fs) nx w', FnRd x → Hs w0 w' (rdr T t p n c nx :: (rowsF x ++ Rs)) → K (.agg (fsC x).toArray) w') : clz Z Tryz.prog 16 #[.pointer (some ⟨t, 0, none⟩)] w K := by
  apply F16_calls
  unfold F16
  refine h.nw fun q w h => ?_
  refine text_k hb.c h.swap (fun e w h => hZ e w h.tail) fun nm a w h => ?_
  repeat first|refine sp ?_|refine cond_t rfl ?_|refine cond_f rfl ?_|refine asT_i rfl rfl ?_|refine asA_i rfl rfl ?_|refine h.l rfl ?_|refine h.hd rfl ?_|(refine h.sb rfl rfl ?_;clear h;intro _ h)|(refine h.dw ?_;clear h;intro _ h)
  refine rowi_k (most := 8) hb.c h (fun e w h => hZ e w h.tail) (by decide) fun par pp pc a w hpar h => ?_
  repeat first|refine sp ?_|refine cond_t rfl ?_|refine cond_f rfl ?_|refine asT_i rfl rfl ?_|refine asA_i rfl rfl ?_|refine h.l rfl ?_|refine h.hd rfl ?_|(refine h.sb rfl rfl ?_;clear h;intro _ h)|(refine h.dw ?_;clear h;intro _ h)
  refine nat_k hb.c.c (h.perm (List.Perm.swap _ _ _)) (fun e w h => hZ e w (h.sub (by simp))) fun res a w _ i1 h => ?_
  repeat first|refine sp ?_|refine cond_t rfl ?_|refine cond_f rfl ?_|refine asT_i rfl rfl ?_|refine asA_i rfl rfl ?_|refine h.l rfl ?_|refine h.hd rfl ?_|(refine h.sb rfl rfl ?_;clear h;intro _ h)|(refine h.dw ?_;clear h;intro _ h)
  refine rowi_k (most := 32) hb.c.c h (fun e w h => hZ e w (h.sub (by simp))) (by decide) fun l2 p2 c2 a w hl2 h => ?_
  repeat first|refine sp ?_|refine cond_t rfl ?_|refine cond_f rfl ?_|refine asT_i rfl rfl ?_|refine asA_i rfl rfl ?_|refine h.l rfl ?_|refine h.hd rfl ?_|(refine h.sb rfl rfl ?_;clear h;intro _ h)|(refine h.dw ?_;clear h;intro _ h)
  refine h.nwN 2 1 rfl (by decide) fun r w h => ?_
  have hlen : ((([(pp, pc, iw par), (p2, c2, iw l2)] : List (Option Addr × Nat × List Value)).flatMap fun x => x.2.2)) = iw (par ++ l2) := by simp [iw, iv]
  have hlen2 : (iw (par ++ l2)).length = (par ++ l2).length := by simp [iw, iv]
  have rp := h.rd (r := ⟨3, 1, pp, pc, par.length, iw par⟩) (by simp)
  have r2 := h.rd (r := ⟨3, 1, p2, c2, l2.length, iw l2⟩) (by simp)
  have nl : ∀ {q : Option Addr} {d : Nat} {l : List Int}, Rw.ok ⟨3, 1, q, d, l.length, iw l⟩ w w0.heap.size → q = none → iw l = [] := fun {q d l} hr e => by
    rcases RowN.cases hr with ⟨_, _, _, h0⟩ | ⟨g, _, h0, _⟩
    · exact h0
    · simp only at h0; rw [e] at h0; cases h0
  refine concati_k (L := [(pp, pc, iw par), (p2, c2, iw l2)]) ?_ rfl ?_ ?_ (by simp) ?_ fun p3 c3 w3 hx hrow => ?_
  · have := h.rd (r := ⟨23, 1, some ⟨r, 0, none⟩, 2, 2, [.slice pp par.length pc, .slice p2 l2.length c2]⟩) List.mem_cons_self
    simpa [slV, iw, iv] using this
  · intro x hx
    rcases List.mem_cons.1 hx with rfl | hx
    · exact ⟨rp, iv_one⟩
    · obtain rfl := List.mem_singleton.1 hx
      exact ⟨r2, iv_one⟩
  · rw [hlen, hlen2]; simp; omega
  · intro x hx
    rcases List.mem_cons.1 hx with rfl | hx
    · exact nl (d := pc) (h.row _ (by simp))
    · obtain rfl := List.mem_singleton.1 hx
      exact nl (d := c2) (h.row _ (by simp))
  rw [hlen, hlen2] at hrow ⊢
  replace h := (h.push hx hrow).sub (List.Sublist.cons_cons _ ((List.Sublist.cons _ (List.Sublist.cons _ (List.Sublist.refl _)))))
  clear rp r2 nl
  repeat first|refine sp ?_|refine cond_t rfl ?_|refine cond_f rfl ?_|refine asT_i rfl rfl ?_|refine asA_i rfl rfl ?_|refine h.l rfl ?_|refine h.hd rfl ?_|(refine h.sb rfl rfl ?_;clear h;intro _ h)|(refine h.dw ?_;clear h;intro _ h)
  refine rowin_k (most := 32768) hb.c.c.c h.swap (fun e w h => hZ e w (h.drop 3)) (by decide) fun code cp cc a w hcode hi64 h => ?_
  repeat first|refine sp ?_|refine cond_t rfl ?_|refine cond_f rfl ?_|refine asT_i rfl rfl ?_|refine asA_i rfl rfl ?_|refine h.l rfl ?_|refine h.hd rfl ?_|(refine h.sb rfl rfl ?_;clear h;intro _ h)|(refine h.dw ?_;clear h;intro _ h)
  refine hK ⟨nm, pp, pc, p3, c3, cp, cc, ⟨par, res, par ++ l2, code⟩⟩ a _ ⟨hpar, ?_, hcode, by simp, hi64⟩ (h.sub (List.Sublist.cons_cons _ (List.Sublist.cons_cons _ (List.Sublist.cons_cons _ (List.Sublist.cons_cons _ (List.Sublist.cons _ (List.Sublist.refl _)))))) |>.perm ?_)
  · simp; omega
  · exact (List.Perm.cons _ ((List.reverse_perm [_, _, _]).symm.append_right Rs)).trans (List.Perm.swap _ _ _)
theorem rowf_k (hb : Byt Rs p n c) (h : Hs w0 w (rdr T t p n c a :: Rs)) (hZ : ∀ e w', Hs w0 w' Rs → Z (thr e) w') {most : Nat} (hm : most ≤ 100000)
    (hK : ∀ (l : List Fs) p' c' nx w', l.length ≤ most → (∀ x ∈ l, FnRd x) → Hs w0 w' (⟨42, 5, p', c', l.length, l.flatMap fsC⟩ :: rdr T t p n c nx :: (l.reverse.flatMap rowsF ++ Rs)) → K (.slice p' l.length c') w') : clz Z Tryz.prog 15 #[.pointer (some ⟨t, 0, none⟩), i6 most, .func (.func 16) #[.pointer (some ⟨t, 0, none⟩)] #[]] w K := by
  apply F15_calls
  unfold F15
  refine rows_of (val := fun x : Fs => .agg (fsC x).toArray) (rows := rowsF) (P := FnRd) fsC sl_fn fsC_len (by simp [one, fsC]) (by decide) ok16 hm hb h (fun w a Rs K hb h hZ hK => fn_k hb h hZ hK) hZ (fun J p n c i x w h => ?_) hK
  exact asA_i (l := [.string x.nm, .slice x.pp x.f.par.length x.pc, i6 x.f.res, .slice x.lp x.f.loc.length x.lc, .slice x.cp x.f.code.length x.cc]) rfl rfl (sp (sp (sp (sp (sp h)))))
end
end Go.Proofs.YtndbhmmejjhcfaaGreatDoor
namespace Go.Proofs.YtndbhmmejjhcfaaGreatDoor
open Go Go.Sx
set_option maxRecDepth 100000
set_option linter.unusedVariables false in
def F5 (b : Option Addr) (b_n b_c : Nat) (w : World) (Q : Value → World → Prop) : Prop :=
(nw w (.cells #[(.slice none 0 0), (.slice none 0 0)] 31) fun r1 w2 => (nw w2 (.cells #[(.int .i64 (0 : Int))] 32) fun r3 w4 =>
(cond (decide ((b_n : Int) > (1048576 : Int))) (st w4 (⟨r1, 0, none⟩ : Addr) (.slice none 0 0) fun w5 => (st w5 (Addr.add (⟨r1, 0, none⟩ : Addr) 1) (.slice none 0 0) fun w6 => (st w6 (⟨r3, 0, none⟩ : Addr) (.int .i64 (2 : Int)) fun w7 =>
(ld w7 (⟨r1, 0, none⟩ : Addr) fun v8 => asS v8 fun p9 n10 c11 => (ld w7 (Addr.add (⟨r1, 0, none⟩ : Addr) 1) fun v12 => asS v12 fun p13 n14 c15 => (ld w7 (⟨r3, 0, none⟩ : Addr) fun v16 => asI .i64 v16 fun x17 => (Q (.tuple #[(.agg #[(.slice p9 n10 c11), (.slice p13 n14 c15)]), (.int .i64 x17)]) w7)))))))
(cl Tryz.prog 11 #[(.slice b b_n b_c)] w4 fun v18 w19 => asT 2 v18 fun t20 => asS (t20 0) fun p21 n22 c23 => asB (t20 1) fun b24 =>
(jn (fun s25 w26 => asB (s25.getD 0 undef) fun b30 => (cond b30 (st w26 (⟨r1, 0, none⟩ : Addr) (.slice none 0 0) fun w31 => (st w31 (Addr.add (⟨r1, 0, none⟩ : Addr) 1) (.slice none 0 0) fun w32 => (st w32 (⟨r3, 0, none⟩ : Addr) (.int .i64 (150 : Int)) fun w33 =>
(ld w33 (⟨r1, 0, none⟩ : Addr) fun v34 => asS v34 fun p35 n36 c37 => (ld w33 (Addr.add (⟨r1, 0, none⟩ : Addr) 1) fun v38 => asS v38 fun p39 n40 c41 => (ld w33 (⟨r3, 0, none⟩ : Addr) fun v42 => asI .i64 v42 fun x43 => (Q (.tuple #[(.agg #[(.slice p35 n36 c37), (.slice p39 n40 c41)]), (.int .i64 x43)]) w33))))))) ((fun (Z : List PanicEntry → World → Prop) =>
(nw w26 (.cells #[(.slice p21 n22 c23), (.int .i64 (4 : Int))] 62) fun r46 w47 =>
(clz Z Tryz.prog 13 #[(.pointer (some (⟨r46, 0, none⟩ : Addr))), (.int .i64 (64 : Int)), (.func (.func 14) #[(.pointer (some (⟨r46, 0, none⟩ : Addr)))] #[])] w47 fun v48 w49 => asS v48 fun p50 n51 c52 => (st w49 (⟨r1, 0, none⟩ : Addr) (.slice p50 n51 c52) fun w53 =>
(clz Z Tryz.prog 15 #[(.pointer (some (⟨r46, 0, none⟩ : Addr))), (.int .i64 (64 : Int)), (.func (.func 16) #[(.pointer (some (⟨r46, 0, none⟩ : Addr)))] #[])] w53 fun v54 w55 => asS v54 fun p56 n57 c58 => (st w55 (Addr.add (⟨r1, 0, none⟩ : Addr) 1) (.slice p56 n57 c58) fun w59 =>
(jn (fun s60 w61 => asB (s60.getD 0 undef) fun b76 => (cond b76 (st w61 (⟨r1, 0, none⟩ : Addr) (.slice none 0 0) fun w77 => (st w77 (Addr.add (⟨r1, 0, none⟩ : Addr) 1) (.slice none 0 0) fun w78 => (st w78 (⟨r3, 0, none⟩ : Addr) (.int .i64 (150 : Int)) fun w79 =>
(dfr Tryz.prog 12 [(.pointer (some (⟨r1, 0, none⟩ : Addr))), (.pointer (some (⟨r3, 0, none⟩ : Addr)))] .returning w79 fun w44 => (ld w44 (⟨r1, 0, none⟩ : Addr) fun v80 => asS v80 fun p81 n82 c83 => (ld w44 (Addr.add (⟨r1, 0, none⟩ : Addr) 1) fun v84 => asS v84 fun p85 n86 c87 => (ld w44 (⟨r3, 0, none⟩ : Addr) fun v88 => asI .i64 v88 fun x89 => (Q (.tuple #[(.agg #[(.slice p81 n82 c83), (.slice p85 n86 c87)]), (.int .i64 x89)]) w44))))))))
(ld w61 (⟨r1, 0, none⟩ : Addr) fun v90 => asS v90 fun p91 n92 c93 => (ld w61 (Addr.add (⟨r1, 0, none⟩ : Addr) 1) fun v94 => asS v94 fun p95 n96 c97 => (st w61 (⟨r1, 0, none⟩ : Addr) (.slice p91 n92 c93) fun w98 => (st w98 (Addr.add (⟨r1, 0, none⟩ : Addr) 1) (.slice p95 n96 c97) fun w99 => (st w99 (⟨r3, 0, none⟩ : Addr) (.int .i64 (0 : Int)) fun w100 =>
(dfr Tryz.prog 12 [(.pointer (some (⟨r1, 0, none⟩ : Addr))), (.pointer (some (⟨r3, 0, none⟩ : Addr)))] .returning w100 fun w44 => (ld w44 (⟨r1, 0, none⟩ : Addr) fun v101 => asS v101 fun p102 n103 c104 => (ld w44 (Addr.add (⟨r1, 0, none⟩ : Addr) 1) fun v105 => asS v105 fun p106 n107 c108 => (ld w44 (⟨r3, 0, none⟩ : Addr) fun v109 => asI .i64 v109 fun x110 => (Q (.tuple #[(.agg #[(.slice p102 n103 c104), (.slice p106 n107 c108)]), (.int .i64 x110)]) w44))))))))))))
 (fun J62 => (ld w59 (Addr.add (⟨r46, 0, none⟩ : Addr) 1) fun v63 => asI .i64 v63 fun x64 => (cond (x64 != (n22 : Int)) (J62 [(.bool true)] w59) (ld w59 (⟨r1, 0, none⟩ : Addr) fun v65 => asS v65 fun p66 n67 c68 => (ld w59 (Addr.add (⟨r1, 0, none⟩ : Addr) 1) fun v69 => asS v69 fun p70 n71 c72 => (cl Tryz.prog 17 #[(.agg #[(.slice p66 n67 c68), (.slice p70 n71 c72)])] w59 fun v73 w74 => asB v73 fun b75 => (J62 [(.bool (!b75))] w74))))))))))))))
 (fun ch w => dfr Tryz.prog 12 [(.pointer (some (⟨r1, 0, none⟩ : Addr))), (.pointer (some (⟨r3, 0, none⟩ : Addr)))] (.panicking ch) w fun w45 => (ld w45 (⟨r1, 0, none⟩ : Addr) fun v111 => asS v111 fun p112 n113 c114 => (ld w45 (Addr.add (⟨r1, 0, none⟩ : Addr) 1) fun v115 => asS v115 fun p116 n117 c118 => (ld w45 (⟨r3, 0, none⟩ : Addr) fun v119 => asI .i64 v119 fun x120 => (Q (.tuple #[(.agg #[(.slice p112 n113 c114), (.slice p116 n117 c118)]), (.int .i64 x120)]) w45))))))))
 (fun J27 => (cond (!b24) (J27 [(.bool true)] w19) (cond (decide ((n22 : Int) < (4 : Int))) (J27 [(.bool true)] w19) (bn2 (4 : Int) c23 (rq Tryz.prog (Go.convert 22 9 (.slice p21 (Int.toNat (4 : Int)) c23)) w19 fun v28 => asY v28 fun s29 => (J27 [(.bool (!(ByteArray.toList s29 == ByteArray.toList (⟨#[84, 73, 76, 84]⟩ : ByteArray))))] w19)))))))))))
theorem F5_link (b : Option Addr) (b_n b_c : Nat) (w : World) (Q : Value → World → Prop) : fnEvD Tryz.prog Tryz.f5 4 5 [.d, .d, .d, (.j [(28, 4)] .d .d)] [.d, .z, .z, (.j [(55, 4)] .d .d), .d] .d [(.slice b b_n b_c)] w Q = F5 b b_n b_c w Q := by kernel_rfl
theorem F5_calls {b : Option Addr} {b_n b_c : Nat} {w : World} {Q : Value → World → Prop} (hF_ : F5 b b_n b_c w Q) : cl Tryz.prog 5 #[(.slice b b_n b_c)] w Q :=
  calls_of_evD (fn := Tryz.f5) Tryz.func5 4 5 [.d, .d, .d, (.j [(28, 4)] .d .d)] [.d, .z, .z, (.j [(55, 4)] .d .d), .d] .d (args := [(.slice b b_n b_c)]) (by rw [F5_link]; exact hF_)
end Go.Proofs.YtndbhmmejjhcfaaGreatDoor
namespace Go.Proofs.YtndbhmmejjhcfaaGreatDoor
open Go Go.Sx Go.Vp
set_option maxRecDepth 100000
theorem ifc20 : Tryz.prog.underlying 20 = some (.interface (Tryz.prog.methodsAt 20)) := rfl
theorem cl12_ok {w : World} {K : World → Prop} {x e : Value} (hK : K w) : dfr Tryz.prog 12 [x, e] .returning w K := by
  refine dfr_of (fn := Tryz.f12) Tryz.func12 rfl rfl rfl rfl rfl (.inl ⟨rfl, rfl⟩) ?_
  refine wp_block (wp_seq (wp_region ?_))
  refine opV (o := _) rfl rfl (v := .bool true) (w' := w) ?_ ?_
  · have : ∀ a : Act, a.eval (.tmp 5) = .nilIface → ∀ o : Oper, o.op = .binOp .eql 20 (.tmp 5) (.const .nilIface) 20 → (execOp a.eval o).run Tryz.prog w = .ok (.value (.bool true)) w := by
      intro a ha o ho
      have hc : a.eval (.const .nilIface) = .nilIface := rfl
      simp [execOp, ho, ha, hc, eqGuard_nil_constR, run_eql_nil_nil _ _ ifc20]
    exact this _ (by kernel_rfl) _ rfl
  refine wp_cond_true ?_ (wp_region (opV rfl rfl (v := .nilIface) (w' := w) ?_ ?_))
  · kernel_rfl
  · kernel_rfl
  · exact ⟨rfl, rfl, hK⟩
theorem u32e : Tryz.prog.underlying 32 = some (.int .i64) := rfl
theorem cl12_thrown {w0 w : World} {Rs : List Rw} {K : World → Prop} {x e : Nat} {a b c : Value} {er : Int} (h : Hs w0 w (bk 31 x [a, b] :: bk 32 e [c] :: Rs)) (hK : ∀ w', Hs w0 w' (bk 31 x [.slice none 0 0, .slice none 0 0] :: bk 32 e [i6 150] :: Rs) → K w') :
    dfr Tryz.prog 12 [.pointer (some ⟨x, 0, none⟩), .pointer (some ⟨e, 0, none⟩)] (.panicking (thr er)) w K := by
  refine dfr_of (fn := Tryz.f12) (v := .iface 32 (i6 er)) Tryz.func12 rfl rfl rfl rfl rfl (.inr rfl) ?_
  refine wp_block (wp_seq (wp_region ?_))
  refine opV (o := _) rfl rfl (v := .bool false) (w' := w) ?_ ?_
  · have : ∀ a : Act, a.eval (.tmp 5) = .iface 32 (i6 er) → ∀ o : Oper, o.op = .binOp .eql 20 (.tmp 5) (.const .nilIface) 20 → (execOp a.eval o).run Tryz.prog w = .ok (.value (.bool false)) w := by
      intro a ha o ho
      have hg : eqGuard .eql 20 (.tmp 5) (.const .nilIface) (.iface 32 (i6 er)) .nilIface = pure () := rfl
      have hc : a.eval (.const .nilIface) = .nilIface := rfl
      simp [execOp, ho, ha, hc, hg, run_eql_held_nil _ _ _ _ ifc20]
    exact this _ (by kernel_rfl) _ rfl
  refine wp_cond_false (by kernel_rfl) (wp_seq (wp_region ?_))
  refine opV (o := _) rfl rfl (v := .tuple #[i6 er, .bool true]) (w' := w) ?_ ?_
  · have : ∀ a : Act, a.eval (.tmp 5) = .iface 32 (i6 er) → ∀ o : Oper, o.op = .typeAssert (.tmp 5) 20 32 true → (execOp a.eval o).run Tryz.prog w = .ok (.value (.tuple #[i6 er, .bool true])) w := by
      intro a ha o ho
      simp [execOp, ho, ha, Instr.typeAssert, run_underlying u32e]
    exact this _ (by kernel_rfl) _ rfl
  refine opV (o := _) rfl rfl (v := .bool true) (w' := w) (by kernel_rfl) (opV (o := _) rfl rfl (v := i6 er) (w' := w) (by kernel_rfl) ?_)
  refine wp_cond_true (by kernel_rfl) (wp_seq (wp_region (opV (o := _) rfl rfl (v := i6 er) (w' := w) (by kernel_rfl) ?_)))
  let E : Env := fun t => match t with | 0 => some (.pointer (some ⟨x, 0, none⟩)) | 1 => some (.pointer (some ⟨e, 0, none⟩)) | _ => none
  let KK : KX := fun e _ w => match e with | .normal => K w | _ => False
  refine wp_mono (ev_sound (n := 12) 3 _ .d E KK _ w ⟨rfl, by kernel_rfl, fun t v ht => ?_⟩ (Eq.mp (α := st w ⟨x, 0, none⟩ (.slice none 0 0) fun w => st w (Addr.add ⟨x, 0, none⟩ 1) (.slice none 0 0) fun w => st w ⟨e, 0, none⟩ (i6 150) fun w => K w) (by kernel_rfl) ?_)) ?_
  · match t with
    | 0 => exact Eq.trans (b := some _) (by kernel_rfl) ht
    | 1 => exact Eq.trans (b := some _) (by kernel_rfl) ht
    | n + 2 => cases ht
  · repeat first|refine sp ?_|refine cond_t rfl ?_|refine cond_f rfl ?_|refine asT_i rfl rfl ?_|refine asA_i rfl rfl ?_|refine h.l rfl ?_|refine h.hd rfl ?_|(refine h.sb rfl rfl ?_;clear h;intro _ h)|(refine h.dw ?_;clear h;intro _ h)
    exact hK _ h
  · rintro ex a' w' ⟨env, h1, h2, _⟩
    cases ex <;> first | exact ⟨rfl, h1.defers, h2⟩ | exact h2.elim
end Go.Proofs.YtndbhmmejjhcfaaGreatDoor
namespace Go.Proofs.YtndbhmmejjhcfaaGreatDoor
open Go Go.Sx Go.Vp
attribute [local irreducible] jn lv ld st nw asI asB asP asS asY asM asF asA asT lp rn ru rq cl dw dr bnd bn2 nz nn hd hr so eqW
attribute [local irreducible] callOk
section
variable {w : World} {K : Value → World → Prop}
theorem jb {w : World} {B : Bool} {Q : List Value → World → Prop} {T : (List Value → World → Prop) → Prop} (hQ : Q [.bool B] w) (hT : ∀ J, (∀ b, b = B → J [.bool b] w) → T J) : jn Q T :=
  jn_of (fun s w' => s = [.bool B] ∧ w' = w) (fun s w' ⟨h1, h2⟩ => by subst h1 h2; exact hQ) fun J hJ => hT J fun b hb => hJ _ _ ⟨by rw [hb], rfl⟩
def typedB (t : Int) : Bool := decide (1 ≤ t) && decide (t ≤ 4)
theorem typed_k {t : Int} (hK : K (.bool (typedB t)) w) : cl Tryz.prog 97 #[i6 t] w K := by
  apply F97_calls
  unfold F97
  refine jb (B := typedB t) (sp hK) fun J hJ => cond_split (fun h => hJ _ ?_) fun h => hJ _ ?_
  · simp only [typedB, h, Bool.true_and]
  · simp only [typedB, h, Bool.false_and]
def letterB (c : Int) : Bool := decide (97 ≤ c) && decide (c ≤ 122) || c == 95
theorem letter_k {c : Int} (hK : K (.bool (letterB c)) w) : cl Tryz.prog 117 #[.int .u8 c] w K := by
  apply F117_calls
  unfold F117
  refine jb (B := letterB c) (sp hK) fun J hJ => cond_split (fun h => cond_split (fun h2 => hJ _ ?_) fun h2 => hJ _ ?_) fun h => hJ _ ?_
  · simp only [letterB, h, h2, Bool.true_and, Bool.true_or]
  · simp only [letterB, h, h2, Bool.true_and, Bool.false_or]
  · simp only [letterB, h, Bool.false_and, Bool.false_or]
def digitB (c : Int) : Bool := decide (48 ≤ c) && decide (c ≤ 57)
theorem digit_k {c : Int} (hK : K (.bool (digitB c)) w) : cl Tryz.prog 120 #[.int .u8 c] w K := by
  apply F120_calls
  unfold F120
  refine jb (B := digitB c) (sp hK) fun J hJ => cond_split (fun h => hJ _ ?_) fun h => hJ _ ?_
  · simp only [digitB, h, Bool.true_and]
  · simp only [digitB, h, Bool.false_and]
def inB (c : Int) : Bool := letterB c || digitB c
theorem inName_k {c : Int} (hK : K (.bool (inB c)) w) : cl Tryz.prog 118 #[.int .u8 c] w K := by
  apply F118_calls
  unfold F118
  refine jb (B := inB c) (sp hK) fun J hJ => letter_k (sp (cond_split (fun h => hJ _ ?_) fun h => digit_k (sp (hJ _ ?_))))
  · simp only [inB, h, Bool.true_or]
  · simp only [inB, h, Bool.false_or]
def wordsL : List (List UInt8) := [[98, 111, 111, 108], [101, 108, 115, 101], [101, 110, 116], [102, 97, 108, 115, 101], [102, 105, 120], [102, 110], [105, 102], [105, 110, 116], [108, 101, 116], [110, 117, 108, 108], [114, 101, 116, 117, 114, 110], [116, 114, 117, 101], [118, 97, 114], [119, 104, 105, 108, 101]]
def wordB (s : ByteArray) : Bool := wordsL.any fun x => ByteArray.toList s == ByteArray.toList ⟨x.toArray⟩
theorem word_k {s : ByteArray} (hK : K (.bool (wordB s)) w) : cl Tryz.prog 119 #[.string s] w K := by
  apply F119_calls
  unfold F119
  refine jb (B := wordB s) (sp (cond_split (fun h => by rw [← h]; exact hK) fun h => by rw [← h]; exact hK)) fun J hJ => ?_
  iterate 13 refine cond_split (fun h => hJ _ (by simp only [wordB, wordsL, List.any_cons, h, Bool.true_or, Bool.or_true])) fun h => ?_
  exact hJ _ (by simp only [wordB, wordsL, List.any_cons, List.any_nil, Bool.or_false, Bool.false_or, *])
def runB (s : ByteArray) : Bool := (List.range s.size).all fun i => inB (byteAt s (i : Int))
theorem ok118 : callOk Tryz.prog 118 = true := by kernel_rfl
theorem run_k {s : ByteArray} (hb : s.size ≤ 1000) (hK : ∀ n : Int, (n == (s.size : Int)) = runB s → K (i6 n) w) : cl Tryz.prog 64 #[.string s, .func (.func 118) #[] #[]] w K := by
  apply F64_calls
  unfold F64
  refine sp (lp_mk (fun k : Nat => [i6 (k : Int)]) (fun n k w' => n = s.size - k ∧ k ≤ s.size ∧ (∀ i, i < k → inB (byteAt s (i : Int)) = true) ∧ w' = w) s.size 0 rfl ⟨rfl, Nat.zero_le _, fun i hi => absurd hi (Nat.not_lt_zero _), rfl⟩ ?_)
  rintro n k w1 ⟨rfl, hk, hall, rfl⟩ J hJ
  refine sp (cond_split (fun hc => sp ?_) fun hc => ?_)
  · have hks : k < s.size := by have := of_decide_eq_true hc; omega
    refine bnd_mk (by omega) (by omega) (cond_t ok118 (inName_k (sp (cond_split (fun h => sp (hK _ ?_)) fun h => ?_))))
    · have h1 : ((k : Int) == (s.size : Int)) = false := by simp; omega
      rw [h1]
      symm
      unfold runB
      rw [List.all_eq_false]
      exact ⟨k, List.mem_range.2 hks, by simpa using h⟩
    · rw [natS k (by omega)]
      refine hJ _ (k + 1) w1 (by omega) ⟨rfl, hks, fun i hi => ?_, rfl⟩
      by_cases e : i = k
      · subst e; simpa using h
      · exact hall i (by omega)
  · have hks : k = s.size := by have := of_decide_eq_false hc; omega
    refine sp (hK _ ?_)
    rw [beq_self_eq_true]
    symm
    unfold runB
    rw [List.all_eq_true]
    intro i hi
    exact hall i (by rw [hks]; exact List.mem_range.1 hi)
def nameB (s : ByteArray) : Bool := !(ByteArray.toList s == ByteArray.toList ⟨#[]⟩) && (decide ((s.size : Int) ≤ 24) && (letterB (byteAt s 0) && (runB s && !wordB s)))
theorem name_k {s : ByteArray} (hK : K (.bool (nameB s)) w) : cl Tryz.prog 99 #[.string s] w K := by
  apply F99_calls
  unfold F99
  refine jb (B := nameB s) (sp hK) fun J hJ => cond_split (fun h1 => cond_split (fun h2 => ?_) fun h2 => hJ _ ?_) fun h1 => hJ _ ?_
  · have h3 : 0 < s.size := by
      rcases Nat.eq_zero_or_pos s.size with h | h
      · exfalso
        have e : s = ⟨#[]⟩ := by
          rcases s with ⟨l⟩
          congr 1
          exact Array.eq_empty_of_size_eq_zero h
        rw [e] at h1
        simp at h1
      · exact h
    have h2' := of_decide_eq_true h2
    refine bnd_mk (by decide) (by omega) (letter_k (sp (cond_split (fun h4 => run_k (by omega) fun n hn => sp (cond_split (fun h5 => word_k (sp (hJ _ ?_))) fun h5 => hJ _ ?_)) fun h4 => hJ _ ?_)))
    · rw [hn] at h5
      simp only [nameB, h1, h2, h4, h5, Bool.true_and]
    · rw [hn] at h5
      simp only [nameB, h5, Bool.false_and, Bool.and_false]
    · simp only [nameB, h4, Bool.false_and, Bool.and_false]
  · simp only [nameB, h2, Bool.false_and, Bool.and_false]
  · simp only [nameB, h1, Bool.false_and]
end
end Go.Proofs.YtndbhmmejjhcfaaGreatDoor
namespace Go.Proofs.YtndbhmmejjhcfaaGreatDoor
open Go Go.Sx Go.Vp
attribute [local irreducible] jn lv ld st nw asI asB asP asS asY asM asF asA asT lp rn ru rq cl dw dr bnd bn2 nz nn hd hr so eqW
attribute [local irreducible] callOk
section
variable {w : World} {K : Value → World → Prop}
theorem idx_of {α : Type} {R : Int → World → Prop} {f : Nat} {args : α → Array Value} (q : α → Bool) {l : List α} {n : Nat} (hn : l.length = n) (hb : n ≤ 1000000)
    (hf : ∀ x ∈ l, ∀ w' (K : Value → World → Prop), Ext no w w' → (∀ w'', Ext no w' w'' → K (.bool (q x)) w'') → cl Tryz.prog f (args x) w' K)
    (hK : ∀ (r : Int) w', Ext no w w' → decide (r ≥ 0) = l.any q → R r w') {BODY : (List Value → World → Prop) → Int → Int → World → Prop}
    (hB : ∀ J (i : Nat) x w', l[i]? = some x → Ext no w w' → (cl Tryz.prog f (args x) w' fun v w'' => asB v fun b => cond b (lv (i : Int) fun y => R y w'') (J [i6 (IntKind.wrap .i64 (i + 1))] w'')) → BODY J (i : Int) (i : Int) w') :
    lv (0 : Int) fun _ => lp [i6 0] w fun J s w => asI .i64 (s.getD 0 undef) fun x => cond (decide (x < (n : Int))) (lv x fun i => BODY J x i w) (lv (-1) fun y => R y w) := by
  subst hn
  refine sp (lp_mk (fun k : Nat => [.int .i64 (k : Int)]) (fun n k w' => n = l.length - k ∧ k ≤ l.length ∧ Ext no w w' ∧ (l.take k).any q = false) l.length 0 rfl ⟨rfl, Nat.zero_le _, Ext.refl _ _, rfl⟩ ?_)
  rintro n k w1 ⟨rfl, hk, hx, hno⟩ J hJ
  refine sp (cond_split (fun hc => sp ?_) fun hc => ?_)
  · have hkl : k < l.length := by have := of_decide_eq_true hc; omega
    refine hB _ _ _ _ (List.getElem?_eq_getElem hkl) hx (hf _ (List.getElem_mem hkl) w1 _ hx fun w2 hx2 => sp (cond_split (fun h => sp ?_) fun h => ?_))
    · have : l.any q = true := List.any_eq_true.2 ⟨_, List.getElem_mem hkl, h⟩
      exact hK _ _ (hx.trans hx2) (by rw [this]; exact decide_eq_true (by omega))
    · rw [natS k (by omega)]
      refine hJ _ (k + 1) w2 (by omega) ⟨rfl, hkl, hx.trans hx2, ?_⟩
      rw [List.take_add_one, List.getElem?_eq_getElem hkl, List.any_append, hno, Bool.false_or]
      simpa using h
  · have : k = l.length := by have := of_decide_eq_false hc; omega
    subst this
    rw [List.take_length] at hno
    exact sp (hK _ _ hx (by rw [hno]; rfl))
theorem any_gl {f : Nat} (hok : callOk Tryz.prog f = true) {l : List Gl} {p : Option Addr} {n c : Nat} (hr : Reads w p (l.flatMap glC)) (hn : l.length = n) (hb : n ≤ 1000000) (q : Gl → Bool)
    (hf : ∀ x ∈ l, ∀ w' (K : Value → World → Prop), Ext no w w' → (∀ w'', Ext no w' w'' → K (.bool (q x)) w'') → cl Tryz.prog f #[.agg #[i6 x.t, i6 x.z, i6 x.v]] w' K)
    (hK : ∀ w', Ext no w w' → K (.bool (l.any q)) w') : cl Tryz.prog 47 #[.slice p n c, .func (.func f) #[] #[]] w K := by
  apply F47_calls
  unfold F47
  apply F96_calls
  unfold F96
  refine idx_of q hn hb hf (R := fun r w' => asI .i64 (i6 r) fun x => K (.bool (decide (x ≥ 0))) w') (fun r w' hx hr => sp (by rw [hr]; exact hK _ hx)) fun J i x w' hx hxt h => ?_
  refine Reads.atN glC_len (hr.no hxt) hn hx (by decide) fun a _ hc => ?_
  rw [Int.toNat_natCast]
  refine ld_mk (hc 0 (by decide)) (sp (ld_mk (hc 1 (by decide)) (sp (ld_mk (hc 2 (by decide)) (sp (cond_t hok h))))))
theorem any_in {f : Nat} (hok : callOk Tryz.prog f = true) {l : List Ins} {p : Option Addr} {n c : Nat} (hr : Reads w p (l.flatMap inC)) (hn : l.length = n) (hb : n ≤ 1000000) (q : Ins → Bool)
    (hf : ∀ x ∈ l, ∀ w' (K : Value → World → Prop), Ext no w w' → (∀ w'', Ext no w' w'' → K (.bool (q x)) w'') → cl Tryz.prog f #[.agg #[i6 x.op, i6 x.a, i6 x.b]] w' K)
    (hK : ∀ w', Ext no w w' → K (.bool (l.any q)) w') : cl Tryz.prog 101 #[.slice p n c, .func (.func f) #[] #[]] w K := by
  apply F101_calls
  unfold F101
  apply F144_calls
  unfold F144
  refine idx_of q hn hb hf (R := fun r w' => asI .i64 (i6 r) fun x => K (.bool (decide (x ≥ 0))) w') (fun r w' hx hr => sp (by rw [hr]; exact hK _ hx)) fun J i x w' hx hxt h => ?_
  refine Reads.atN inC_len (hr.no hxt) hn hx (by decide) fun a _ hc => ?_
  rw [Int.toNat_natCast]
  refine ld_mk (hc 0 (by decide)) (sp (ld_mk (hc 1 (by decide)) (sp (ld_mk (hc 2 (by decide)) (sp (cond_t hok h))))))
theorem any_fn {f : Nat} (hok : callOk Tryz.prog f = true) {l : List Fs} {p : Option Addr} {n c : Nat} (hr : Reads w p (l.flatMap fsC)) (hn : l.length = n) (hb : n ≤ 1000000) (q : Fs → Bool)
    (hf : ∀ x ∈ l, ∀ w' (K : Value → World → Prop), Ext no w w' → (∀ w'', Ext no w' w'' → K (.bool (q x)) w'') → cl Tryz.prog f #[.agg (fsC x).toArray] w' K)
    (hK : ∀ w', Ext no w w' → K (.bool (l.any q)) w') : cl Tryz.prog 50 #[.slice p n c, .func (.func f) #[] #[]] w K := by
  apply F50_calls
  unfold F50
  apply F98_calls
  unfold F98
  refine idx_of q hn hb hf (R := fun r w' => asI .i64 (i6 r) fun x => K (.bool (decide (x ≥ 0))) w') (fun r w' hx hr => sp (by rw [hr]; exact hK _ hx)) fun J i x w' hx hxt h => ?_
  refine Reads.atN fsC_len (hr.no hxt) hn hx (by decide) fun a _ hc => ?_
  rw [Int.toNat_natCast]
  refine ld_mk (hc 0 (by decide)) (sp (ld_mk (hc 1 (by decide)) (sp (ld_mk (hc 2 (by decide)) (sp (ld_mk (hc 3 (by decide)) (sp (ld_mk (hc 4 (by decide)) (sp (cond_t hok h))))))))))
theorem eqi_k {p q : Option Addr} {xs ys : List Int} {n m c d : Nat} (hr : Reads w p (iw xs)) (hn : xs.length = n) (hs : Reads w q (iw ys)) (hm : ys.length = m) (hb : n ≤ 1000000) (hK : ∀ w', Ext no w w' → K (.bool (xs == ys)) w') : cl Tryz.prog 57 #[.slice p n c, .slice q m d] w K := by
  apply F57_calls
  unfold F57
  have bad : xs ≠ ys → (xs == ys) = false := fun h => by simpa using h
  refine cond_split (fun he => ?_) fun he => ?_
  · rw [bad fun e => by rw [← hn, ← hm, e] at he; simp at he] at hK
    exact hK _ (Ext.refl _ _)
  have he : n = m := by simp at he; omega
  refine lp_mk (fun k : Nat => [.int .i64 (k : Int)]) (fun z k w' => z = n - k ∧ k ≤ n ∧ xs.take k = ys.take k ∧ Ext no w w') n 0 rfl ⟨rfl, Nat.zero_le _, rfl, Ext.refl _ _⟩ ?_
  rintro z i w1 ⟨rfl, hi, hall, hx⟩ J hJ
  refine sp (cond_split (fun hc => sp ?_) fun hc => ?_)
  · have hil : i < n := by have := of_decide_eq_true hc; omega
    refine dw_mk ?_
    have hx2 := hx.trans (Ext.drew w1)
    refine Reads.ati (hr.no hx2) hn hil (sp ?_)
    refine Reads.ati (hs.no hx2) hm (by omega) (sp ?_)
    refine cond_split (fun h => ?_) fun h => ?_
    · rw [bad fun e => by rw [e] at h; simp at h] at hK
      exact hK _ hx2
    · rw [natS i (by omega)]
      refine hJ _ (i + 1) _ (by omega) ⟨rfl, hil, ?_, hx2⟩
      have e : xs.getD i 0 = ys.getD i 0 := by simpa using h
      rw [List.take_add_one, List.take_add_one, hall]
      simp only [List.getD_eq_getElem?_getD] at e
      rw [List.getElem?_eq_getElem (by omega), List.getElem?_eq_getElem (by omega)] at e
      have e : xs[i] = ys[i] := by simpa using e
      rw [List.getElem?_eq_getElem (by omega), List.getElem?_eq_getElem (by omega), e]
  · have : i = n := by have := of_decide_eq_false hc; omega
    subst this
    rw [List.take_of_length_le (by omega), List.take_of_length_le (by omega)] at hall
    have : (xs == ys) = true := by simpa using hall
    rw [this] at hK
    exact hK _ hx
theorem ok143 : callOk Tryz.prog 143 = true := by kernel_rfl
theorem ok48 : callOk Tryz.prog 48 = true := by kernel_rfl
theorem ok51 : callOk Tryz.prog 51 = true := by kernel_rfl
theorem ok102 : callOk Tryz.prog 102 = true := by kernel_rfl
theorem types_k {l : List Int} {p : Option Addr} {n c : Nat} (hr : Reads w p (iw l)) (hn : l.length = n) (hb : n ≤ 1000000) (hK : ∀ w', Ext no w w' → K (.bool (!l.any fun t => !typedB t)) w') : cl Tryz.prog 100 #[.slice p n c] w K := by
  apply F100_calls
  unfold F100
  refine any_int ok143 hr hn hb (fun t => !typedB t) (fun v _ w' K _ hK => ?_) fun w' hx => sp (hK _ hx)
  apply F143_calls
  unfold F143
  exact typed_k (sp (hK _ (Ext.refl _ _)))
def globB (g : Gl) : Bool := typedB g.t && (decide (0 ≤ g.z) && (decide (g.z ≤ 256) && (if g.z > 0 ∨ g.t = 4 then decide (0 ≤ g.v) && decide (g.v ≤ 0) else if g.t = 3 then decide (0 ≤ g.v) && decide (g.v ≤ 1) else true)))
theorem glob_okk {g : Gl} (hK : ∀ w', Ext no w w' → K (.bool (globB g)) w') : cl Tryz.prog 49 #[.agg #[i6 g.t, i6 g.z, i6 g.v]] w K := by
  apply F49_calls
  unfold F49
  have h := Hs.start w
  refine h.nw ?_
  clear h
  intro q w1 h
  refine sp (jn_of (fun s w' => s = [i6 (if g.z > 0 ∨ g.t = 4 then 0 else if g.t = 3 then 1 else 9223372036854775807)] ∧ w' = w1) ?_ fun J hJ => jn_of (fun s w' => s = [.bool (decide (g.z > 0 ∨ g.t = 4))] ∧ w' = w1) ?_ fun J2 hJ2 => ?_)
  · rintro _ w2 ⟨rfl, rfl⟩
    refine sp (jb (B := globB g) (sp (hK _ h.ext)) fun J hJ => ?_)
    repeat first|refine sp ?_|refine cond_t rfl ?_|refine cond_f rfl ?_|refine asT_i rfl rfl ?_|refine asA_i rfl rfl ?_|refine h.l rfl ?_|refine h.hd rfl ?_|(refine h.sb rfl rfl ?_;clear h;intro _ h)|(refine h.dw ?_;clear h;intro _ h)
    refine typed_k ?_
    refine sp (cond_split (fun h1 => ?_) fun h1 => hJ _ (by simp only [globB, h1, Bool.false_and]))
    repeat first|refine sp ?_|refine cond_t rfl ?_|refine cond_f rfl ?_|refine asT_i rfl rfl ?_|refine asA_i rfl rfl ?_|refine h.l rfl ?_|refine h.hd rfl ?_|(refine h.sb rfl rfl ?_;clear h;intro _ h)|(refine h.dw ?_;clear h;intro _ h)
    refine cond_split (fun h2 => ?_) fun h2 => hJ _ (by simp only [globB, h2, Bool.false_and, Bool.and_false])
    repeat first|refine sp ?_|refine cond_t rfl ?_|refine cond_f rfl ?_|refine asT_i rfl rfl ?_|refine asA_i rfl rfl ?_|refine h.l rfl ?_|refine h.hd rfl ?_|(refine h.sb rfl rfl ?_;clear h;intro _ h)|(refine h.dw ?_;clear h;intro _ h)
    refine cond_split (fun h3 => ?_) fun h3 => hJ _ (by simp only [globB, h3, Bool.false_and, Bool.and_false])
    have fin : ∀ m : Int, m ≠ 9223372036854775807 → globB g = (decide (0 ≤ g.v) && decide (g.v ≤ m)) → cond (m == 9223372036854775807) (J [.bool true] w2) (ld w2 (Addr.add ⟨q, 0, none⟩ 2) fun v => asI .i64 v fun x => cond (decide (0 ≤ x)) (ld w2 (Addr.add ⟨q, 0, none⟩ 2) fun v => asI .i64 v fun x => J [.bool (decide (x ≤ m))] w2) (J [.bool false] w2)) := by
      intro m hm hg
      refine cond_f (by simpa using hm) ?_
      repeat first|refine sp ?_|refine cond_t rfl ?_|refine cond_f rfl ?_|refine asT_i rfl rfl ?_|refine asA_i rfl rfl ?_|refine h.l rfl ?_|refine h.hd rfl ?_|(refine h.sb rfl rfl ?_;clear h;intro _ h)|(refine h.dw ?_;clear h;intro _ h)
      refine cond_split (fun h4 => ?_) fun h4 => hJ _ (by rw [hg, h4, Bool.false_and])
      repeat first|refine sp ?_|refine cond_t rfl ?_|refine cond_f rfl ?_|refine asT_i rfl rfl ?_|refine asA_i rfl rfl ?_|refine h.l rfl ?_|refine h.hd rfl ?_|(refine h.sb rfl rfl ?_;clear h;intro _ h)|(refine h.dw ?_;clear h;intro _ h)
      exact hJ _ (by rw [hg, h4, Bool.true_and])
    by_cases hA : g.z > 0 ∨ g.t = 4
    · rw [if_pos hA]
      exact fin 0 (by decide) (by simp only [globB, h1, h2, h3, Bool.true_and, if_pos hA])
    by_cases hB : g.t = 3
    · rw [if_neg hA, if_pos hB]
      exact fin 1 (by decide) (by simp only [globB, h1, h2, h3, Bool.true_and, if_neg hA, if_pos hB])
    rw [if_neg hA, if_neg hB]
    exact cond_t (by decide) (hJ _ (by simp only [globB, h1, h2, h3, Bool.true_and, if_neg hA, if_neg hB]))
  · rintro _ _ ⟨rfl, rfl⟩
    refine sp (cond_split (fun hA => sp (hJ _ _ ⟨?_, rfl⟩)) fun hA => ?_)
    · rw [if_pos (of_decide_eq_true hA)]
    · have hA := of_decide_eq_false hA
      repeat first|refine sp ?_|refine cond_t rfl ?_|refine cond_f rfl ?_|refine asT_i rfl rfl ?_|refine asA_i rfl rfl ?_|refine h.l rfl ?_|refine h.hd rfl ?_|(refine h.sb rfl rfl ?_;clear h;intro _ h)|(refine h.dw ?_;clear h;intro _ h)
      refine cond_op (fun e => sp (hJ _ _ ⟨?_, rfl⟩)) fun e => hJ _ _ ⟨?_, rfl⟩
      · rw [if_neg hA, if_pos e]
      · rw [if_neg hA, if_neg e]
  · repeat first|refine sp ?_|refine cond_t rfl ?_|refine cond_f rfl ?_|refine asT_i rfl rfl ?_|refine asA_i rfl rfl ?_|refine h.l rfl ?_|refine h.hd rfl ?_|(refine h.sb rfl rfl ?_;clear h;intro _ h)|(refine h.dw ?_;clear h;intro _ h)
    refine cond_split (fun hA => hJ2 _ _ ⟨?_, rfl⟩) fun hA => ?_
    · have hA := of_decide_eq_true hA
      simp [hA]
    · have hA := of_decide_eq_false hA
      repeat first|refine sp ?_|refine cond_t rfl ?_|refine cond_f rfl ?_|refine asT_i rfl rfl ?_|refine asA_i rfl rfl ?_|refine h.l rfl ?_|refine h.hd rfl ?_|(refine h.sb rfl rfl ?_;clear h;intro _ h)|(refine h.dw ?_;clear h;intro _ h)
      refine hJ2 _ _ ⟨?_, rfl⟩
      have : (g.t == 4) = decide (g.z > 0 ∨ g.t = 4) := by rw [Bool.eq_iff_iff]; simp; omega
      rw [this]
def insB (i : Ins) : Bool := decide (i.op < 1) || (decide (i.op > 33) || (decide (i.b < 0) || decide (i.b > 4)))
theorem ins_okk {i : Ins} (hK : ∀ w', Ext no w w' → K (.bool (insB i)) w') : cl Tryz.prog 102 #[.agg #[i6 i.op, i6 i.a, i6 i.b]] w K := by
  apply F102_calls
  unfold F102
  have h := Hs.start w
  refine h.nw ?_
  clear h
  intro q w1 h
  refine jb (B := insB i) (sp (hK _ h.ext)) fun J hJ => ?_
  repeat first|refine sp ?_|refine cond_t rfl ?_|refine cond_f rfl ?_|refine asT_i rfl rfl ?_|refine asA_i rfl rfl ?_|refine h.l rfl ?_|refine h.hd rfl ?_|(refine h.sb rfl rfl ?_;clear h;intro _ h)|(refine h.dw ?_;clear h;intro _ h)
  refine cond_split (fun h1 => hJ _ (by simp only [insB, h1, Bool.true_or])) fun h1 => ?_
  repeat first|refine sp ?_|refine cond_t rfl ?_|refine cond_f rfl ?_|refine asT_i rfl rfl ?_|refine asA_i rfl rfl ?_|refine h.l rfl ?_|refine h.hd rfl ?_|(refine h.sb rfl rfl ?_;clear h;intro _ h)|(refine h.dw ?_;clear h;intro _ h)
  refine cond_split (fun h2 => hJ _ (by simp only [insB, h2, Bool.true_or, Bool.or_true])) fun h2 => ?_
  repeat first|refine sp ?_|refine cond_t rfl ?_|refine cond_f rfl ?_|refine asT_i rfl rfl ?_|refine asA_i rfl rfl ?_|refine h.l rfl ?_|refine h.hd rfl ?_|(refine h.sb rfl rfl ?_;clear h;intro _ h)|(refine h.dw ?_;clear h;intro _ h)
  refine cond_split (fun h3 => hJ _ (by simp only [insB, h3, Bool.true_or, Bool.or_true])) fun h3 => ?_
  repeat first|refine sp ?_|refine cond_t rfl ?_|refine cond_f rfl ?_|refine asT_i rfl rfl ?_|refine asA_i rfl rfl ?_|refine h.l rfl ?_|refine h.hd rfl ?_|(refine h.sb rfl rfl ?_;clear h;intro _ h)|(refine h.dw ?_;clear h;intro _ h)
  exact hJ _ (by simp only [insB, h1, h2, h3, Bool.false_or])
def fnB (x : Fs) : Bool := (nameB x.nm && (decide ((x.f.par.length : Int) ≤ 8) && (decide ((x.f.loc.length : Int) ≤ 32) && (decide ((x.f.code.length : Int) ≤ 32768) && ((!x.f.loc.any fun t => !typedB t) && (x.f.res == 0 || typedB x.f.res)))))) &&
  (decide ((x.f.par.length : Int) ≤ x.f.loc.length) && ((x.f.par == x.f.loc.take x.f.par.length) && !x.f.code.any insB))
theorem jh {w0 : World} {Rs : List Rw} {B : Bool} {Q : List Value → World → Prop} {T : (List Value → World → Prop) → Prop} (hQ : ∀ w', Hs w0 w' Rs → Q [.bool B] w') (hT : ∀ J, (∀ b w', b = B → Hs w0 w' Rs → J [.bool b] w') → T J) : jn Q T :=
  jn_of (fun s w' => s = [.bool B] ∧ Hs w0 w' Rs) (fun s w' ⟨h1, h2⟩ => by subst h1; exact hQ _ h2) fun J hJ => hT J fun b w' hb h => hJ _ _ ⟨by rw [hb], h⟩
theorem fn_okk {x : Fs} (hx : FsAt w x) (hl : x.f.loc.length ≤ 100000) (hcl : x.f.code.length ≤ 100000) (hK : ∀ w', Ext no w w' → K (.bool (fnB x)) w') : cl Tryz.prog 52 #[.agg (fsC x).toArray] w K := by
  apply F52_calls
  unfold F52
  have h := Hs.start w
  refine h.nw ?_
  clear h
  intro q w1 h
  repeat first|refine sp ?_|refine cond_t rfl ?_|refine cond_f rfl ?_|refine asT_i rfl rfl ?_|refine asA_i rfl rfl ?_|refine h.l rfl ?_|refine h.hd rfl ?_|(refine h.sb rfl rfl ?_;clear h;intro _ h)|(refine h.dw ?_;clear h;intro _ h)
  refine jh (w0 := w) (Rs := [bk 42 q (fsC x)]) (B := nameB x.nm && (decide ((x.f.par.length : Int) ≤ 8) && (decide ((x.f.loc.length : Int) ≤ 32) && (decide ((x.f.code.length : Int) ≤ 32768) && ((!x.f.loc.any fun t => !typedB t) && (x.f.res == 0 || typedB x.f.res)))))) ?_ ?_
  rotate_left
  · intro J hJ
    repeat first|refine sp ?_|refine cond_t rfl ?_|refine cond_f rfl ?_|refine asT_i rfl rfl ?_|refine asA_i rfl rfl ?_|refine h.l rfl ?_|refine h.hd rfl ?_|(refine h.sb rfl rfl ?_;clear h;intro _ h)|(refine h.dw ?_;clear h;intro _ h)
    refine name_k (sp (cond_split (fun h1 => ?_) fun h1 => hJ _ _ (by simp only [h1, Bool.false_and]) h))
    refine cond_split (fun h2 => ?_) fun h2 => hJ _ _ (by simp only [h2, Bool.false_and, Bool.and_false]) h
    repeat first|refine sp ?_|refine cond_t rfl ?_|refine cond_f rfl ?_|refine asT_i rfl rfl ?_|refine asA_i rfl rfl ?_|refine h.l rfl ?_|refine h.hd rfl ?_|(refine h.sb rfl rfl ?_;clear h;intro _ h)|(refine h.dw ?_;clear h;intro _ h)
    refine cond_split (fun h3 => ?_) fun h3 => hJ _ _ (by simp only [h3, Bool.false_and, Bool.and_false]) h
    repeat first|refine sp ?_|refine cond_t rfl ?_|refine cond_f rfl ?_|refine asT_i rfl rfl ?_|refine asA_i rfl rfl ?_|refine h.l rfl ?_|refine h.hd rfl ?_|(refine h.sb rfl rfl ?_;clear h;intro _ h)|(refine h.dw ?_;clear h;intro _ h)
    refine cond_split (fun h4 => ?_) fun h4 => hJ _ _ (by simp only [h4, Bool.false_and, Bool.and_false]) h
    repeat first|refine sp ?_|refine cond_t rfl ?_|refine cond_f rfl ?_|refine asT_i rfl rfl ?_|refine asA_i rfl rfl ?_|refine h.l rfl ?_|refine h.hd rfl ?_|(refine h.sb rfl rfl ?_;clear h;intro _ h)|(refine h.dw ?_;clear h;intro _ h)
    refine types_k (h.old hx.loc) rfl (by omega) fun w2 hx2 => ?_
    replace h := h.to hx2
    refine sp (cond_split (fun h5 => ?_) fun h5 => hJ _ _ (by simp only [h5, Bool.false_and, Bool.and_false]) h)
    repeat first|refine sp ?_|refine cond_t rfl ?_|refine cond_f rfl ?_|refine asT_i rfl rfl ?_|refine asA_i rfl rfl ?_|refine h.l rfl ?_|refine h.hd rfl ?_|(refine h.sb rfl rfl ?_;clear h;intro _ h)|(refine h.dw ?_;clear h;intro _ h)
    refine cond_split (fun h6 => hJ _ _ (by simp only [h1, h2, h3, h4, h5, h6, Bool.true_and, Bool.true_or]) h) fun h6 => ?_
    repeat first|refine sp ?_|refine cond_t rfl ?_|refine cond_f rfl ?_|refine asT_i rfl rfl ?_|refine asA_i rfl rfl ?_|refine h.l rfl ?_|refine h.hd rfl ?_|(refine h.sb rfl rfl ?_;clear h;intro _ h)|(refine h.dw ?_;clear h;intro _ h)
    exact typed_k (sp (hJ _ _ (by simp only [h1, h2, h3, h4, h5, h6, Bool.true_and, Bool.false_or]) h))
  intro w2 h
  generalize hB : (nameB x.nm && _) = B1
  have hB2 : fnB x = (B1 && (decide ((x.f.par.length : Int) ≤ x.f.loc.length) && ((x.f.par == x.f.loc.take x.f.par.length) && !x.f.code.any insB))) := by rw [← hB]; rfl
  refine sp (jh (w0 := w) (Rs := [bk 42 q (fsC x)]) (B := fnB x) (fun w' h => sp (hK _ h.ext)) fun J hJ => ?_)
  repeat first|refine sp ?_|refine cond_t rfl ?_|refine cond_f rfl ?_|refine asT_i rfl rfl ?_|refine asA_i rfl rfl ?_|refine h.l rfl ?_|refine h.hd rfl ?_|(refine h.sb rfl rfl ?_;clear h;intro _ h)|(refine h.dw ?_;clear h;intro _ h)
  refine cond_split (fun h1 => ?_) fun h1 => hJ _ _ (by rw [hB2, h1, Bool.false_and]) h
  repeat first|refine sp ?_|refine cond_t rfl ?_|refine cond_f rfl ?_|refine asT_i rfl rfl ?_|refine asA_i rfl rfl ?_|refine h.l rfl ?_|refine h.hd rfl ?_|(refine h.sb rfl rfl ?_;clear h;intro _ h)|(refine h.dw ?_;clear h;intro _ h)
  refine cond_split (fun h2 => ?_) fun h2 => hJ _ _ (by rw [hB2, h2, Bool.false_and, Bool.and_false]) h
  repeat first|refine sp ?_|refine cond_t rfl ?_|refine cond_f rfl ?_|refine asT_i rfl rfl ?_|refine asA_i rfl rfl ?_|refine h.l rfl ?_|refine h.hd rfl ?_|(refine h.sb rfl rfl ?_;clear h;intro _ h)|(refine h.dw ?_;clear h;intro _ h)
  have h2' := of_decide_eq_true h2
  have hlc := hx.ll
  refine bn2_mk (by omega) (by omega) ?_
  rw [Int.toNat_natCast]
  have hpre : Reads w x.lp (iw (x.f.loc.take x.f.par.length)) := by
    have := hx.loc
    rw [← List.take_append_drop x.f.par.length x.f.loc] at this
    exact Reads.pre (ys := iw (x.f.loc.drop x.f.par.length)) (by simpa [iw, iv] using this)
  refine eqi_k (h.old hx.par) rfl (h.old hpre) (by simp; omega) (by omega) fun w3 hx3 => ?_
  replace h := h.to hx3
  repeat first|refine sp ?_|refine cond_t rfl ?_|refine cond_f rfl ?_|refine asT_i rfl rfl ?_|refine asA_i rfl rfl ?_|refine h.l rfl ?_|refine h.hd rfl ?_|(refine h.sb rfl rfl ?_;clear h;intro _ h)|(refine h.dw ?_;clear h;intro _ h)
  refine cond_split (fun h3 => ?_) fun h3 => hJ _ _ (by rw [hB2, h3, Bool.false_and, Bool.and_false, Bool.and_false]) h
  repeat first|refine sp ?_|refine cond_t rfl ?_|refine cond_f rfl ?_|refine asT_i rfl rfl ?_|refine asA_i rfl rfl ?_|refine h.l rfl ?_|refine h.hd rfl ?_|(refine h.sb rfl rfl ?_;clear h;intro _ h)|(refine h.dw ?_;clear h;intro _ h)
  refine any_in ok102 (h.old hx.code) rfl (by omega) insB (fun i _ w' K _ hK => ins_okk fun w'' hx => hK _ hx) fun w4 hx4 => ?_
  replace h := h.to hx4
  repeat first|refine sp ?_|refine cond_t rfl ?_|refine cond_f rfl ?_|refine asT_i rfl rfl ?_|refine asA_i rfl rfl ?_|refine h.l rfl ?_|refine h.hd rfl ?_|(refine h.sb rfl rfl ?_;clear h;intro _ h)|(refine h.dw ?_;clear h;intro _ h)
  exact hJ _ _ (by rw [hB2, h1, h2, h3, Bool.true_and, Bool.true_and, Bool.true_and]) h
def okB (I : Is) : Bool := decide ((I.gl.length : Int) ≤ 64) && (decide ((I.fs.length : Int) ≤ 64) && ((!I.gl.any fun g => !globB g) && !I.fs.any fun x => !fnB x))
theorem ok_k {I : Is} (hI : IsAt w I) (hs : ∀ x ∈ I.fs, x.f.loc.length ≤ 100000 ∧ x.f.code.length ≤ 100000) (hK : ∀ w', Ext no w w' → K (.bool (okB I)) w') : cl Tryz.prog 17 #[I.val] w K := by
  apply F17_calls
  unfold F17
  have h := Hs.start w
  refine h.nw ?_
  clear h
  intro q w1 h
  refine jh (w0 := w) (Rs := [bk 31 q [.slice I.gp I.gl.length I.gc, .slice I.fp I.fs.length I.fc]]) (B := okB I) (fun w' h => sp (hK _ h.ext)) fun J hJ => ?_
  repeat first|refine sp ?_|refine cond_t rfl ?_|refine cond_f rfl ?_|refine asT_i rfl rfl ?_|refine asA_i rfl rfl ?_|refine h.l rfl ?_|refine h.hd rfl ?_|(refine h.sb rfl rfl ?_;clear h;intro _ h)|(refine h.dw ?_;clear h;intro _ h)
  refine cond_split (fun h1 => ?_) fun h1 => hJ _ _ (by simp only [okB, h1, Bool.false_and]) h
  repeat first|refine sp ?_|refine cond_t rfl ?_|refine cond_f rfl ?_|refine asT_i rfl rfl ?_|refine asA_i rfl rfl ?_|refine h.l rfl ?_|refine h.hd rfl ?_|(refine h.sb rfl rfl ?_;clear h;intro _ h)|(refine h.dw ?_;clear h;intro _ h)
  refine cond_split (fun h2 => ?_) fun h2 => hJ _ _ (by simp only [okB, h2, Bool.false_and, Bool.and_false]) h
  have h1' := of_decide_eq_true h1
  have h2' := of_decide_eq_true h2
  repeat first|refine sp ?_|refine cond_t rfl ?_|refine cond_f rfl ?_|refine asT_i rfl rfl ?_|refine asA_i rfl rfl ?_|refine h.l rfl ?_|refine h.hd rfl ?_|(refine h.sb rfl rfl ?_;clear h;intro _ h)|(refine h.dw ?_;clear h;intro _ h)
  refine any_gl ok48 (h.old hI.gl) rfl (by omega) (fun g => !globB g) (fun g _ w' K _ hK => ?_) fun w4 hx4 => ?_
  · apply F48_calls
    unfold F48
    have h := Hs.start w'
    refine h.nw ?_
    clear h
    intro q w1 h
    repeat first|refine sp ?_|refine cond_t rfl ?_|refine cond_f rfl ?_|refine asT_i rfl rfl ?_|refine asA_i rfl rfl ?_|refine h.l rfl ?_|refine h.hd rfl ?_|(refine h.sb rfl rfl ?_;clear h;intro _ h)|(refine h.dw ?_;clear h;intro _ h)
    exact glob_okk fun w2 hx => sp (hK _ (h.ext.trans hx))
  replace h := h.to hx4
  repeat first|refine sp ?_|refine cond_t rfl ?_|refine cond_f rfl ?_|refine asT_i rfl rfl ?_|refine asA_i rfl rfl ?_|refine h.l rfl ?_|refine h.hd rfl ?_|(refine h.sb rfl rfl ?_;clear h;intro _ h)|(refine h.dw ?_;clear h;intro _ h)
  refine cond_split (fun h3 => ?_) fun h3 => hJ _ _ (by simp only [okB, h3, Bool.false_and, Bool.and_false]) h
  repeat first|refine sp ?_|refine cond_t rfl ?_|refine cond_f rfl ?_|refine asT_i rfl rfl ?_|refine asA_i rfl rfl ?_|refine h.l rfl ?_|refine h.hd rfl ?_|(refine h.sb rfl rfl ?_;clear h;intro _ h)|(refine h.dw ?_;clear h;intro _ h)
  refine any_fn ok51 (h.old hI.fn) rfl (by omega) (fun x => !fnB x) (fun x hx w' K hxt hK => ?_) fun w4 hx4 => ?_
  · apply F51_calls
    unfold F51
    have h2 := Hs.start w'
    refine h2.nw ?_
    clear h2
    intro q w1 h2
    have hf := ((hI.each x hx).ext h.ext).ext (hxt.trans h2.ext)
    clear h
    have h := h2
    repeat first|refine sp ?_|refine cond_t rfl ?_|refine cond_f rfl ?_|refine asT_i rfl rfl ?_|refine asA_i rfl rfl ?_|refine h.l rfl ?_|refine h.hd rfl ?_|(refine h.sb rfl rfl ?_;clear h;intro _ h)|(refine h.dw ?_;clear h;intro _ h)
    exact fn_okk hf (hs x hx).1 (hs x hx).2 fun w2 hx => sp (hK _ (h.ext.trans hx))
  replace h := h.to hx4
  repeat first|refine sp ?_|refine cond_t rfl ?_|refine cond_f rfl ?_|refine asT_i rfl rfl ?_|refine asA_i rfl rfl ?_|refine h.l rfl ?_|refine h.hd rfl ?_|(refine h.sb rfl rfl ?_;clear h;intro _ h)|(refine h.dw ?_;clear h;intro _ h)
  exact hJ _ _ (by simp only [okB, h1, h2, h3, Bool.true_and]) h
end
end Go.Proofs.YtndbhmmejjhcfaaGreatDoor
namespace Go.Proofs.YtndbhmmejjhcfaaGreatDoor
open Go Go.Sx Go.Vp
attribute [local irreducible] jn lv ld st nw asI asB asP asS asY asM asF asA asT lp rn ru rq cl dw dr bnd bn2 nz nn hd hr so eqW
attribute [local irreducible] callOk clz dfr
structure DecOK (I : Is) : Prop where
  gl : ∀ g ∈ I.gl, I64 g.t ∧ I64 g.z ∧ I64 g.v
  fn : ∀ x ∈ I.fs, FnRd x
theorem isAt_of {w0 w : World} {Rs : List Rw} (h : Hs w0 w Rs) {I : Is} (hg : (⟨65, 3, I.gp, I.gc, I.gl.length, I.gl.flatMap glC⟩ : Rw) ∈ Rs) (hf : (⟨42, 5, I.fp, I.fc, I.fs.length, I.fs.flatMap fsC⟩ : Rw) ∈ Rs) (he : ∀ x ∈ I.fs, ∀ r ∈ rowsF x, r ∈ Rs) : IsAt w I := by
  have cap : ∀ {e : TypeId} {s : Nat} {p : Option Addr} {c n : Nat} {xs : List Value}, (⟨e, s, p, c, n, xs⟩ : Rw) ∈ Rs → n ≤ c := by
    intro e s p c n xs hm
    rcases RowN.cases (h.row _ hm) with ⟨_, h1, h2, _⟩ | ⟨_, _, _, _, _, h1, _⟩
    · simp only at h1 h2; omega
    · exact h1
  refine ⟨h.rd hg, h.rd hf, fun x hx => ?_⟩
  have h1 := he x hx ⟨3, 1, x.pp, x.pc, x.f.par.length, iw x.f.par⟩ (by simp [rowsF])
  have h2 := he x hx ⟨3, 1, x.lp, x.lc, x.f.loc.length, iw x.f.loc⟩ (by simp [rowsF])
  have h3 := he x hx ⟨81, 3, x.cp, x.cc, x.f.code.length, x.f.code.flatMap inC⟩ (by simp [rowsF])
  exact ⟨h.rd h1, h.rd h2, h.rd h3, cap h1, cap h2⟩
section
variable {w : World} {K : Value → World → Prop}
set_option maxRecDepth 100000 in
theorem decode_k (hN : Nib w) {p : Option Addr} {bs : List Nat} {n c : Nat} (hr : Reads w p (bv bs)) (hn : bs.length = n) (hc : n ≤ c) (hp : p = none → bs = [])
    (hF : ∀ e w', e ≠ 0 → Ext no w w' → K (.tuple #[.agg #[.slice none 0 0, .slice none 0 0], i6 e]) w')
    (hT : ∀ I w', Ext no w w' → IsAt w' I → DecOK I → okB I = true → K (.tuple #[I.val, i6 0]) w') : cl Tryz.prog 5 #[.slice p n c] w K := by
  apply F5_calls
  unfold F5
  refine (Hs.start w).nw fun x w1 h => ?_
  refine h.nw fun e w2 h => ?_
  refine cond_split (fun h1 => ?_) fun h1 => ?_
  · repeat first|refine sp ?_|refine cond_t rfl ?_|refine cond_f rfl ?_|refine asT_i rfl rfl ?_|refine asA_i rfl rfl ?_|refine h.l rfl ?_|refine h.hd rfl ?_|(refine h.sb rfl rfl ?_;clear h;intro _ h)|(refine h.dw ?_;clear h;intro _ h)
    exact hF _ _ (by decide) h.ext
  have h1 := of_decide_eq_false h1
  refine open_k (hN.ext h.ext) (h.old hr) hn (by omega) hc hp (fun w3 hx => ?_) fun q d rs w3 hl hx hrow => ?_
  · replace h := h.to hx
    repeat first|refine sp ?_|refine cond_t rfl ?_|refine cond_f rfl ?_|refine asT_i rfl rfl ?_|refine asA_i rfl rfl ?_|refine h.l rfl ?_|refine h.hd rfl ?_|(refine h.sb rfl rfl ?_;clear h;intro _ h)|(refine h.dw ?_;clear h;intro _ h)
    refine jn_of (fun s w' => s = [.bool true] ∧ w' = w3) ?_ fun J hJ => cond_t rfl (hJ _ _ ⟨rfl, rfl⟩)
    rintro _ _ ⟨rfl, rfl⟩
    refine sp (cond_t rfl ?_)
    repeat first|refine sp ?_|refine cond_t rfl ?_|refine cond_f rfl ?_|refine asT_i rfl rfl ?_|refine asA_i rfl rfl ?_|refine h.l rfl ?_|refine h.hd rfl ?_|(refine h.sb rfl rfl ?_;clear h;intro _ h)|(refine h.dw ?_;clear h;intro _ h)
    exact hF _ _ (by decide) h.ext
  replace h := h.push hx hrow
  have hrl : rs.length ≤ d := by
    rcases RowN.cases hrow with ⟨_, h1, h2, _⟩ | ⟨_, _, _, _, _, h1, _⟩
    · simp only at h1 h2; omega
    · exact h1
  have hq0 : q = none → rs = [] := fun e => by
    rcases RowN.cases hrow with ⟨_, _, h2, _⟩ | ⟨g, _, h0, _⟩
    · exact List.eq_nil_of_length_eq_zero h2
    · simp only at h0; rw [e] at h0; cases h0
  repeat first|refine sp ?_|refine cond_t rfl ?_|refine cond_f rfl ?_|refine asT_i rfl rfl ?_|refine asA_i rfl rfl ?_|refine h.l rfl ?_|refine h.hd rfl ?_|(refine h.sb rfl rfl ?_;clear h;intro _ h)|(refine h.dw ?_;clear h;intro _ h)
  refine jn_of (fun s w' => ∃ b, s = [.bool b] ∧ w' = w3) ?_ fun J hJ => cond_f rfl (cond_split (fun h4 => hJ _ _ ⟨_, rfl, rfl⟩) fun h4 => ?_)
  rotate_left
  · have h4 := of_decide_eq_false h4
    refine bn2_mk (by decide) (by omega) ?_
    have hrd := h.rd (r := ⟨5, 1, q, d, rs.length, bv rs⟩) List.mem_cons_self
    have hd : bv rs = bv (rs.take 4) ++ bv (rs.drop 4) := by rw [← bv_append, List.take_append_drop]
    simp only [hd] at hrd
    refine rq_mk (run_str (P := Tryz.prog) (e := 5) rfl rfl rfl hrd.pre (by simp; omega) fun h0 => by rw [hq0 h0]; rfl) (sp (hJ _ _ ⟨_, rfl, rfl⟩))
  rintro _ _ ⟨b, rfl, rfl⟩
  refine sp (cond_split (fun _ => ?_) fun _ => ?_)
  · repeat first|refine sp ?_|refine cond_t rfl ?_|refine cond_f rfl ?_|refine asT_i rfl rfl ?_|refine asA_i rfl rfl ?_|refine h.l rfl ?_|refine h.hd rfl ?_|(refine h.sb rfl rfl ?_;clear h;intro _ h)|(refine h.dw ?_;clear h;intro _ h)
    exact hF _ _ (by decide) h.ext
  refine h.nw fun t w4 h => ?_
  have thrown : ∀ {u : World} {er : Int} {a b c : Value} {K' : World → Prop}, Hs w u (bk 31 x [a, b] :: bk 32 e [c] :: [⟨5, 1, q, d, rs.length, bv rs⟩]) →
      (∀ u', Hs w u' (bk 31 x [.slice none 0 0, .slice none 0 0] :: bk 32 e [i6 150] :: [⟨5, 1, q, d, rs.length, bv rs⟩]) → K' u') → dfr Tryz.prog 12 [.pointer (some ⟨x, 0, none⟩), .pointer (some ⟨e, 0, none⟩)] (.panicking (thr er)) u K' := fun h hK => cl12_thrown h hK
  have hb : Byt [⟨5, 1, q, d, rs.length, bv rs⟩, bk 32 e [i6 0], bk 31 x [.slice none 0 0, .slice none 0 0]] q rs.length d := ⟨⟨rs, by simp, rfl, hq0⟩, by omega, hrl⟩
  refine rowg_k (T := 62) (most := 64) hb h (fun er u h => ?_) (by decide) fun gl gp gc at1 w5 hgl hg64 h => ?_
  · refine thrown (h.perm (List.reverse_perm [_, _, _])) fun u h => ?_
    repeat first|refine sp ?_|refine cond_t rfl ?_|refine cond_f rfl ?_|refine asT_i rfl rfl ?_|refine asA_i rfl rfl ?_|refine h.l rfl ?_|refine h.hd rfl ?_|(refine h.sb rfl rfl ?_;clear h;intro _ h)|(refine h.dw ?_;clear h;intro _ h)
    exact hF _ _ (by decide) h.ext
  repeat first|refine sp ?_|refine cond_t rfl ?_|refine cond_f rfl ?_|refine asT_i rfl rfl ?_|refine asA_i rfl rfl ?_|refine h.l rfl ?_|refine h.hd rfl ?_|(refine h.sb rfl rfl ?_;clear h;intro _ h)|(refine h.dw ?_;clear h;intro _ h)
  refine rowf_k (T := 62) (most := 64) (Rs := [⟨65, 3, gp, gc, gl.length, gl.flatMap glC⟩, ⟨5, 1, q, d, rs.length, bv rs⟩, bk 32 e [i6 0], bk 31 x [.slice gp gl.length gc, .slice none 0 0]]) ⟨⟨rs, by simp, rfl, hq0⟩, by omega, hrl⟩ h.swap (fun er u h => ?_) (by decide) fun fs fp fc at2 w6 hfs hrd h => ?_
  · refine thrown (h.tail.perm (List.reverse_perm [_, _, _])) fun u h => ?_
    repeat first|refine sp ?_|refine cond_t rfl ?_|refine cond_f rfl ?_|refine asT_i rfl rfl ?_|refine asA_i rfl rfl ?_|refine h.l rfl ?_|refine h.hd rfl ?_|(refine h.sb rfl rfl ?_;clear h;intro _ h)|(refine h.dw ?_;clear h;intro _ h)
    exact hF _ _ (by decide) h.ext
  replace h : Hs w w6 (⟨42, 5, fp, fc, fs.length, fs.flatMap fsC⟩ :: rdr 62 t q rs.length d at2 :: ⟨65, 3, gp, gc, gl.length, gl.flatMap glC⟩ :: ⟨5, 1, q, d, rs.length, bv rs⟩ :: bk 32 e [i6 0] :: bk 31 x [.slice gp gl.length gc, .slice none 0 0] :: fs.reverse.flatMap rowsF) :=
    h.perm (List.Perm.cons _ (List.Perm.cons _ (List.perm_append_comm (l₁ := [_, _, _, _]))))
  repeat first|refine sp ?_|refine cond_t rfl ?_|refine cond_f rfl ?_|refine asT_i rfl rfl ?_|refine asA_i rfl rfl ?_|refine h.l rfl ?_|refine h.hd rfl ?_|(refine h.sb rfl rfl ?_;clear h;intro _ h)|(refine h.dw ?_;clear h;intro _ h)
  let I : Is := ⟨gp, gc, gl, fp, fc, fs⟩
  have hD : DecOK I := ⟨hg64, hrd⟩
  refine jn_of (fun s w' => ∃ b, s = [.bool b] ∧ (b = false → okB I = true) ∧ Hs w w' (⟨42, 5, fp, fc, fs.length, fs.flatMap fsC⟩ :: rdr 62 t q rs.length d at2 :: ⟨65, 3, gp, gc, gl.length, gl.flatMap glC⟩ :: ⟨5, 1, q, d, rs.length, bv rs⟩ :: bk 32 e [i6 0] :: bk 31 x [.slice gp gl.length gc, .slice fp fs.length fc] :: fs.reverse.flatMap rowsF)) ?_ fun J hJ => ?_
  rotate_left
  · repeat first|refine sp ?_|refine cond_t rfl ?_|refine cond_f rfl ?_|refine asT_i rfl rfl ?_|refine asA_i rfl rfl ?_|refine h.l rfl ?_|refine h.hd rfl ?_|(refine h.sb rfl rfl ?_;clear h;intro _ h)|(refine h.dw ?_;clear h;intro _ h)
    refine cond_split (fun _ => hJ _ _ ⟨_, rfl, by simp, h⟩) fun _ => ?_
    repeat first|refine sp ?_|refine cond_t rfl ?_|refine cond_f rfl ?_|refine asT_i rfl rfl ?_|refine asA_i rfl rfl ?_|refine h.l rfl ?_|refine h.hd rfl ?_|(refine h.sb rfl rfl ?_;clear h;intro _ h)|(refine h.dw ?_;clear h;intro _ h)
    have hI : IsAt _ I := isAt_of h (I := I) (by simp [I]) (by simp [I]) (fun y hy r hr => by simp only [List.mem_cons]; repeat first | (refine .inr ?_) | exact List.mem_flatMap.2 ⟨y, List.mem_reverse.2 hy, hr⟩)
    refine ok_k (I := I) hI (fun y hy => ⟨by have := (hrd y hy).loc; omega, by have := (hrd y hy).code; omega⟩) fun w8 hx => sp (hJ _ _ ⟨_, rfl, by simp, h.to hx⟩)
  rintro _ w7 ⟨b, rfl, hb, h⟩
  refine sp (cond_split (fun _ => ?_) fun hbf => ?_)
  · repeat first|refine sp ?_|refine cond_t rfl ?_|refine cond_f rfl ?_|refine asT_i rfl rfl ?_|refine asA_i rfl rfl ?_|refine h.l rfl ?_|refine h.hd rfl ?_|(refine h.sb rfl rfl ?_;clear h;intro _ h)|(refine h.dw ?_;clear h;intro _ h)
    refine cl12_ok ?_
    repeat first|refine sp ?_|refine cond_t rfl ?_|refine cond_f rfl ?_|refine asT_i rfl rfl ?_|refine asA_i rfl rfl ?_|refine h.l rfl ?_|refine h.hd rfl ?_|(refine h.sb rfl rfl ?_;clear h;intro _ h)|(refine h.dw ?_;clear h;intro _ h)
    exact hF _ _ (by decide) h.ext
  · repeat first|refine sp ?_|refine cond_t rfl ?_|refine cond_f rfl ?_|refine asT_i rfl rfl ?_|refine asA_i rfl rfl ?_|refine h.l rfl ?_|refine h.hd rfl ?_|(refine h.sb rfl rfl ?_;clear h;intro _ h)|(refine h.dw ?_;clear h;intro _ h)
    refine cl12_ok ?_
    repeat first|refine sp ?_|refine cond_t rfl ?_|refine cond_f rfl ?_|refine asT_i rfl rfl ?_|refine asA_i rfl rfl ?_|refine h.l rfl ?_|refine h.hd rfl ?_|(refine h.sb rfl rfl ?_;clear h;intro _ h)|(refine h.dw ?_;clear h;intro _ h)
    have hI : IsAt _ I := isAt_of h (I := I) (by simp [I]) (by simp [I]) (fun y hy r hr => by simp only [List.mem_cons]; repeat first | (refine .inr ?_) | exact List.mem_flatMap.2 ⟨y, List.mem_reverse.2 hy, hr⟩)
    exact hT I _ h.ext hI hD (hb hbf)
end
end Go.Proofs.YtndbhmmejjhcfaaGreatDoor
namespace Go.Proofs.YtndbhmmejjhcfaaGreatDoor
open Go Go.Sx Go.Vp
attribute [local irreducible] jn lv ld st nw asI asB asP asS asY asM asF asA asT lp rn ru rq cl dw dr bnd bn2 nz nn hd hr so eqW
attribute [local irreducible] callOk
def lenF : Nat → Nat → Nat
  | 0, _ => 1
  | f + 1, z => if z < 128 then 1 else lenF f (z / 128) + 1
def lenN (z : Nat) : Nat := lenF 9 z
theorem lenF_le : ∀ f z, lenF f z ≤ f + 1
  | 0, _ => Nat.le_refl _
  | f + 1, z => by
    unfold lenF
    split
    · omega
    · have := lenF_le f (z / 128); omega
theorem lenN_le (z : Nat) : lenN z ≤ 10 := lenF_le 9 z
set_option maxRecDepth 100000 in
theorem arr338 : Tryz.prog.underlying 338 = some (.array (Tryz.prog.arrayLen 338) (Tryz.prog.elem 338)) ∧ Tryz.prog.arrayLen 338 = 10 ∧ ∃ i, Tryz.prog.info? (Tryz.prog.elem 338) = some i ∧ i.size = 1 := ⟨rfl, rfl, _, rfl, rfl⟩
theorem or_u8 (a b : Int) : ∃ m : Nat, Value.int .u8 (Go.bits .or .u8 a b) = .int .u8 (m : Int) := u8_nat _
section
variable {w : World} {K : Value → World → Prop}
theorem put_k {p : Option Addr} {bs : List Nat} {n c : Nat} (hr : Reads w p (bv bs)) (hn : bs.length = n) (hb : n ≤ 100000000) (hp : p = none → bs = []) {z : Nat} (hz : z < 18446744073709551616)
    (hK : ∀ p' c' (bs' : List Nat) w', Ext no w w' → bs'.length = n + lenN z → Rw.ok ⟨5, 1, p', c', n + lenN z, bv bs'⟩ w' w.heap.size → K (.slice p' (n + lenN z) c') w') : cl Tryz.prog 205 #[.slice p n c, .int .u64 (z : Int)] w K := by
  refine clz_cl ?_
  apply F205_calls
  unfold F205
  refine (Hs.start w).nwN 10 1 rfl (by decide) fun r w1 h => sp ?_
  refine lp_mk (fun x : Nat × Nat => [.int .u64 (x.1 : Int), .int .i64 (x.2 : Int)]) (fun m x w' => m = 10 - x.2 ∧ x.2 ≤ 9 ∧ x.1 < 2 ^ (64 - 7 * x.2) ∧ x.2 + lenF (9 - x.2) x.1 = lenN z ∧ ∃ l : List Nat, l.length = 10 ∧ Hs w w' [⟨338, 1, some ⟨r, 0, none⟩, 10, 10, bv l⟩]) 10 (z, 0) rfl
    ⟨rfl, Nat.zero_le _, hz, by rw [Nat.zero_add]; rfl, List.replicate 10 0, rfl, h⟩ ?_
  clear h
  rintro m ⟨y, i⟩ w2 ⟨rfl, hi, hy, hL, l, hl, h⟩ J hJ
  simp only at hi hy hL
  refine sp (sp (bnd_mk (by simp only; omega) (by simp only; omega) ?_))
  obtain ⟨v1, e1⟩ := u8_nat (Go.bits .and .u64 (y : Int) 127)
  rw [e1]
  have ei : Int.toNat (i : Int) * 1 = i := by rw [Int.toNat_natCast, Nat.mul_one]
  simp only [ei]
  refine h.sx (by simp [bv, hl]; omega) rfl fun w3 h => sp ?_
  have e2 : Int.fdiv (y : Int) (2 ^ (min (Int.toNat (7 : Int)) 64)) = ((y / 128 : Nat) : Int) := shr_nat y 7 (by decide)
  rw [e2]
  have hset : ∀ (l : List Nat) (v : Nat) (i : Nat), (bv l).set i (.int .u8 (v : Int)) = bv (l.set i v) := fun l v i => by simp [bv]
  rw [hset] at h
  refine cond_split (fun hc => ?_) fun hc => ?_
  · have hy128 : 128 ≤ y := by have h1 := of_decide_eq_true hc; omega
    have hi8 : i ≤ 8 := by
      rcases Nat.lt_or_ge i 9 with h | h
      · omega
      · have : i = 9 := by omega
        subst this
        have : y < 2 := by simpa using hy
        omega
    refine bnd_mk (by omega) (by omega) ?_
    obtain ⟨v2, hv2⟩ : ∃ v2, (bv (l.set (0 + i) v1))[0 + i]? = some (.int .u8 (v2 : Int)) := ⟨v1, by rw [Nat.zero_add, ← hset, List.getElem?_set_self (by rw [bv_length]; omega)]⟩
    refine h.l hv2 (sp (bnd_mk (by omega) (by omega) ?_))
    obtain ⟨v3, e3⟩ := or_u8 (v2 : Int) 128
    rw [e3]
    refine h.sx (by simp [bv, hl]; omega) rfl fun w4 h => sp ?_
    rw [hset] at h
    rw [natS i (by omega)]
    refine hJ (10 - (i + 1)) (y / 128, i + 1) _ (by simp only; omega) ⟨rfl, by simp only; omega, ?_, ?_, _, by simp [hl], h⟩
    · show y / 128 < 2 ^ (64 - 7 * (i + 1))
      have e : 2 ^ (64 - 7 * i) = 128 * 2 ^ (64 - 7 * (i + 1)) := by
        rw [show 64 - 7 * i = 7 + (64 - 7 * (i + 1)) by omega, Nat.pow_add]
      rw [e] at hy
      omega
    · show i + 1 + lenF (9 - (i + 1)) (y / 128) = lenN z
      rw [← hL, show 9 - i = (9 - (i + 1)) + 1 by omega]
      conv => rhs; unfold lenF
      rw [if_neg (by omega)]
      omega
  · have hy128 : y < 128 := by have h1 := of_decide_eq_false hc; omega
    have hlen : lenN z = i + 1 := by
      rw [← hL]
      have : lenF (9 - i) y = 1 := by
        rcases Nat.eq_zero_or_pos (9 - i) with h0 | h0
        · rw [h0]; rfl
        · rw [show 9 - i = (9 - i - 1) + 1 by omega]
          unfold lenF
          rw [if_pos hy128]
      omega
    rw [natS i (by omega)]
    obtain ⟨ha, hal, ti, hti, hts⟩ := arr338
    have hsz : (sizeOf (Tryz.prog.elem 338)).run Tryz.prog w3 = .ok 1 w3 := by simp [sizeOf, typeInfo, hti, hts]
    have hrun := run_sliceAt_array_h (P := Tryz.prog) w3 338 ⟨r, 0, none⟩ ha .i64 ((i + 1 : Nat) : Int) (by omega) (by rw [hal]; omega)
    rw [hsz] at hrun
    refine rn_mk hrun ?_
    have hsl : slicedAt (⟨r, 0, none⟩ : Addr) 0 (Int.toNat ((i + 1 : Nat) : Int)) (Tryz.prog.arrayLen 338) 1 = .slice (some ⟨r, 0, none⟩) (i + 1) 10 := by
      rw [hal, Int.toNat_natCast]
      simp [slicedAt, add_mk]
    rw [hsl]
    refine sp (h.nwN 2 1 rfl (by decide) fun r2 w4 h => ?_)
    have hrd : Reads w4 (some ⟨r, 0, none⟩) (bv ((l.set (0 + i) v1).take (i + 1))) := by
      have := h.rd (r := ⟨338, 1, some ⟨r, 0, none⟩, 10, 10, bv (l.set (0 + i) v1)⟩) (by simp)
      rw [show bv (l.set (0 + i) v1) = bv ((l.set (0 + i) v1).take (i + 1)) ++ bv ((l.set (0 + i) v1).drop (i + 1)) by rw [← bv_append, List.take_append_drop]] at this
      exact this.pre
    have htl : (bv ((l.set (0 + i) v1).take (i + 1))).length = i + 1 := by simp [bv, hl]; omega
    have hL2 : (([(p, c, bv bs), (some ⟨r, 0, none⟩, 10, bv ((l.set (0 + i) v1).take (i + 1)))] : List (Option Addr × Nat × List Value)).flatMap fun x => x.2.2) = bv (bs ++ (l.set (0 + i) v1).take (i + 1)) := by simp [bv]
    have hl3 : (bs ++ (l.set (0 + i) v1).take (i + 1)).length = n + lenN z := by simp [hn, hl, hlen]; omega
    refine concatb_k (L := [(p, c, bv bs), (some ⟨r, 0, none⟩, 10, bv ((l.set (0 + i) v1).take (i + 1)))]) ?_ rfl ?_ ?_ (by simp) ?_ fun p' c' w' hx' hrow => ?_
    · have := h.rd (r := ⟨22, 1, some ⟨r2, 0, none⟩, 2, 2, [.slice p n c, .slice (some ⟨r, 0, none⟩) (i + 1) 10]⟩) List.mem_cons_self
      simp only [List.map_cons, List.map_nil, slV, htl, bv_length, hn]
      exact this
    · intro x hx
      rcases List.mem_cons.1 hx with rfl | hx
      · exact ⟨h.old hr, bv_one⟩
      · obtain rfl := List.mem_singleton.1 hx
        exact ⟨hrd, bv_one⟩
    · rw [hL2, bv_length, hl3]
      have := lenN_le z
      omega
    · intro x hx e
      rcases List.mem_cons.1 hx with rfl | hx
      · rw [hp e]; rfl
      · obtain rfl := List.mem_singleton.1 hx
        cases e
    · rw [hL2, bv_length, hl3] at hrow ⊢
      exact sp (hK p' c' _ w' (h.ext.trans hx') hl3 (RowN.mono hrow h.ext.size))
def Put {α : Type} (f : Nat) (val : α → Value) (len : α → Nat) (ok : World → α → Prop) : Prop :=
  ∀ {w0 w : World} {Rs : List Rw} {p : Option Addr} {n c : Nat} {bs : List Nat} {K : Value → World → Prop} (x : α), ok w0 x → Hs w0 w (⟨5, 1, p, c, n, bv bs⟩ :: Rs) → n + len x ≤ 100000000 →
    (∀ p' c' (bs' : List Nat) w', Hs w0 w' (⟨5, 1, p', c', n + len x, bv bs'⟩ :: Rs) → K (.slice p' (n + len x) c') w') → cl Tryz.prog f #[.slice p n c, val x] w K
theorem row_len {w : World} {b : Nat} {p : Option Addr} {n c : Nat} {bs : List Nat} (h : Rw.ok ⟨5, 1, p, c, n, bv bs⟩ w b) : bs.length = n ∧ (p = none → bs = []) := by
  have h1 := RowN.len h
  rw [bv_length, Nat.mul_one] at h1
  refine ⟨h1, fun e => ?_⟩
  rcases RowN.cases h with ⟨_, _, h2, _⟩ | ⟨g, _, h0, _⟩
  · exact List.eq_nil_of_length_eq_zero (by rw [h1]; exact h2)
  · simp only at h0; rw [e] at h0; cases h0
theorem num_k {n : Int} (h0 : 0 ≤ n) (h1 : n < 9223372036854775808) (hK : ∀ p' c' (bs' : List Nat) w', Ext no w w' → bs'.length = lenN n.toNat → Rw.ok ⟨5, 1, p', c', lenN n.toNat, bv bs'⟩ w' w.heap.size → K (.tuple #[.slice p' (lenN n.toNat) c', i6 0]) w') : cl Tryz.prog 204 #[.slice none 0 0, i6 n] w K := by
  apply F204_calls
  unfold F204
  refine sp (cond_f (decide_eq_false (by omega)) ?_)
  obtain ⟨m, rfl⟩ := Int.eq_ofNat_of_zero_le h0
  rw [wu (by omega) (by omega)]
  refine put_k (bs := []) (n := 0) (.inl rfl) rfl (by decide) (fun _ => rfl) (by omega) fun p' c' bs' w' hx hl hr => sp (sp ?_)
  rw [Nat.zero_add] at *
  rw [Int.toNat_natCast] at hK
  exact hK _ _ _ _ hx hl hr
theorem nat_put : Put 148 i6 (fun n => lenN n.toNat) fun _ n => 0 ≤ n ∧ n < 9223372036854775808 := by
  intro w0 w Rs p n c bs K x ⟨h0, h1⟩ h hb hK
  dsimp only at hb hK
  apply F148_calls
  unfold F148
  refine num_k h0 h1 fun p' c' bs' w' hx hl hr => ?_
  replace h := h.push hx hr
  repeat first|refine sp ?_|refine cond_t rfl ?_|refine cond_f rfl ?_|refine asT_i rfl rfl ?_|refine asA_i rfl rfl ?_|refine h.l rfl ?_|refine h.hd rfl ?_|(refine h.sb rfl rfl ?_;clear h;intro _ h)|(refine h.dw ?_;clear h;intro _ h)
  refine Hs.app sl_b (h.perm (List.Perm.swap _ _ _)) (h.rd List.mem_cons_self) (by rw [bv_length]; omega) (fun e => ?_) bv_one (by omega) (by simp only [maxLen]; omega) fun q d w4 h _ => sp ?_
  · rw [← hl, (row_len hr).2 e]; rfl
  · rw [← bv_append] at h
    exact hK _ _ _ _ (h.sub (List.Sublist.cons_cons _ (List.sublist_cons_self _ _)))
def zigN (n : Int) : Nat := (Go.bits .xor .u64 (IntKind.wrap .u64 ((IntKind.wrap .u64 n) * 2 ^ (min (Int.toNat (1 : Int)) 64))) (IntKind.wrap .u64 (Int.fdiv n (2 ^ (min (Int.toNat (63 : Int)) 64))))).toNat
theorem zig_eq (n : Int) : Go.bits .xor .u64 (IntKind.wrap .u64 ((IntKind.wrap .u64 n) * 2 ^ (min (Int.toNat (1 : Int)) 64))) (IntKind.wrap .u64 (Int.fdiv n (2 ^ (min (Int.toNat (63 : Int)) 64)))) = (zigN n : Int) ∧ zigN n < 18446744073709551616 := by
  unfold zigN
  have h : ∀ a b : Int, 0 ≤ Go.bits .xor .u64 a b ∧ Go.bits .xor .u64 a b < 18446744073709551616 := fun a b => wu_lt _
  have := h (IntKind.wrap .u64 ((IntKind.wrap .u64 n) * 2 ^ (min (Int.toNat (1 : Int)) 64))) (IntKind.wrap .u64 (Int.fdiv n (2 ^ (min (Int.toNat (63 : Int)) 64))))
  omega
theorem whole_put : Put 147 i6 (fun n => lenN (zigN n)) fun _ _ => True := by
  intro w0 w Rs p n c bs K x _ h hb hK
  dsimp only at hb hK
  apply F147_calls
  unfold F147
  apply F203_calls
  unfold F203
  rw [(zig_eq x).1]
  refine put_k (bs := []) (n := 0) (.inl rfl) rfl (by decide) (fun _ => rfl) (zig_eq x).2 fun p' c' bs' w' hx hl hr => sp ?_
  rw [Nat.zero_add] at *
  replace h := h.push hx hr
  repeat first|refine sp ?_|refine cond_t rfl ?_|refine cond_f rfl ?_|refine asT_i rfl rfl ?_|refine asA_i rfl rfl ?_|refine h.l rfl ?_|refine h.hd rfl ?_|(refine h.sb rfl rfl ?_;clear h;intro _ h)|(refine h.dw ?_;clear h;intro _ h)
  refine Hs.app sl_b (h.perm (List.Perm.swap _ _ _)) (h.rd List.mem_cons_self) (by rw [bv_length]; omega) (fun e => ?_) bv_one (by omega) (by simp only [maxLen]; omega) fun q d w4 h _ => sp ?_
  · rw [← hl, (row_len hr).2 e]; rfl
  · rw [← bv_append] at h
    exact hK _ _ _ _ (h.sub (List.Sublist.cons_cons _ (List.sublist_cons_self _ _)))
def textLen (s : ByteArray) : Nat := lenN s.size + s.size
set_option maxRecDepth 100000 in
theorem inf5 : ∃ i, Tryz.prog.info? 5 = some i ∧ i.zero = some (.int .u8 0) ∧ i.size = 1 ∧ i.bytes = 1 := ⟨_, rfl, rfl, rfl, rfl⟩
set_option maxRecDepth 100000 in
theorem textp_k {s : ByteArray} (hs : s.size ≤ 65536) (hK : ∀ p' c' (bs' : List Nat) w', Ext no w w' → bs'.length = textLen s → Rw.ok ⟨5, 1, p', c', textLen s, bv bs'⟩ w' w.heap.size → K (.tuple #[.slice p' (textLen s) c', i6 0]) w') : cl Tryz.prog 151 #[.slice none 0 0, .string s] w K := by
  apply F151_calls
  unfold F151
  refine sp (cond_f (decide_eq_false (by omega)) ?_)
  rw [wu (by omega) (by omega)]
  refine put_k (bs := []) (n := 0) (.inl rfl) rfl (by decide) (fun _ => rfl) (by omega) fun p' c' bs' w1 hx hl hr => sp ?_
  rw [Nat.zero_add] at *
  obtain ⟨i, hi, hz, hs1, hb1⟩ := inf5
  have h10 := lenN_le s.size
  obtain ⟨v', w2, hrun, how, hgr, hnil⟩ := Lib.run_append_own_string (P := Tryz.prog) w1 w.heap.size 22 9 22 5 i rfl rfl hi hz hs1 hb1 (.slice p' (lenN s.size) c') (lenN s.size) (bv bs') hr.own s (by simp only [maxLen]; omega) (by omega) hx.size
  have hxw : Ext no w w2 := hx.then (Ext.of_grown hgr) fun k hk hb => by
    cases p' with
    | none => simp [Value.ownBlock] at hb
    | some a =>
      have := (RowN.at hr rfl).1
      simp [Value.ownBlock] at hb
      omega
  have hcells : bv bs' ++ Lib.strCells s = bv (bs' ++ s.data.toList.map UInt8.toNat) := by
    rw [bv_append]
    congr 1
    simp [Lib.strCells, bv]
  rw [hcells] at how
  refine rn_mk hrun ?_
  have hlen : (bs' ++ s.data.toList.map UInt8.toNat).length = textLen s := by simp [hl, textLen]
  rcases how.2 with ⟨rfl, h0⟩ | ⟨g, cap, cur, rfl, hrest⟩
  · have e0 : textLen s = 0 := h0
    have hsl : (Value.slice none 0 0) = .slice none (textLen s) 0 := by rw [e0]
    rw [hsl]
    refine sp (sp (hK _ _ _ _ hxw hlen ⟨?_⟩))
    rw [hsl] at how
    exact how
  · exact sp (sp (hK _ _ _ _ hxw hlen ⟨how⟩))
end
end Go.Proofs.YtndbhmmejjhcfaaGreatDoor
namespace Go.Proofs.YtndbhmmejjhcfaaGreatDoor
open Go Go.Sx Go.Vp
attribute [local irreducible] jn lv ld st nw asI asB asP asS asY asM asF asA asT lp rn ru rq cl dw dr bnd bn2 nz nn hd hr so eqW
attribute [local irreducible] callOk
def rowLen {α : Type} (len : α → Nat) (l : List α) : Nat := lenN l.length + (l.map len).sum
section
variable {w0 w : World} {Rs : List Rw} {p : Option Addr} {n c : Nat} {bs : List Nat} {K : Value → World → Prop}
theorem nat_first {ln : Nat} (hlm : ln ≤ 1000000) (h : Hs w0 w (⟨5, 1, p, c, n, bv bs⟩ :: Rs)) (hb : n + lenN ln ≤ 100000000) (K : Value → World → Prop) (hK : ∀ p' c' (bs' : List Nat) w', Hs w0 w' (⟨5, 1, p', c', n + lenN ln, bv bs'⟩ :: Rs) → K (.slice p' (n + lenN ln) c') w') :
    cl Tryz.prog 148 #[.slice p n c, i6 (ln : Int)] w K := by
  refine nat_put (ln : Int) ⟨by omega, by omega⟩ h (by simp only [Int.toNat_natCast]; omega) fun p1 c1 b1 w1 h => ?_
  simp only [Int.toNat_natCast] at h ⊢
  exact hK _ _ _ _ h
theorem row_put {α : Type} {f : Nat} {val : α → Value} {len : α → Nat} {ok : World → α → Prop} (hput : Put f val len ok) {l : List α} {ln : Nat} (hln : l.length = ln) (hlm : ln ≤ 1000000) (hok : ∀ x ∈ l, ok w0 x) (hfst : ∀ K : Value → World → Prop, (∀ p' c' (bs' : List Nat) w', Hs w0 w' (⟨5, 1, p', c', n + lenN ln, bv bs'⟩ :: Rs) → K (.slice p' (n + lenN ln) c') w') → cl Tryz.prog 148 #[.slice p n c, i6 (ln : Int)] w K) (hb : n + rowLen len l ≤ 100000000)
    {BODY : (List Value → World → Prop) → Option Addr → Nat → Nat → Int → World → Prop}
    (hB : ∀ J p n c (bs : List Nat) (i : Nat) x w', l[i]? = some x → Hs w0 w' (⟨5, 1, p, c, n, bv bs⟩ :: Rs) → (∀ w'', Hs w0 w'' (⟨5, 1, p, c, n, bv bs⟩ :: Rs) → cl Tryz.prog f #[.slice p n c, val x] w'' fun v w3 => asS v fun p n c => J [.slice p n c, i6 (IntKind.wrap .i64 (i + 1))] w3) → BODY J p n c (i : Int) w')
    (hK : ∀ p' c' (bs' : List Nat) w', Hs w0 w' (⟨5, 1, p', c', n + rowLen len l, bv bs'⟩ :: Rs) → K (.slice p' (n + rowLen len l) c') w') :
    cl Tryz.prog 148 #[.slice p n c, i6 (ln : Int)] w fun v w => asS v fun p n c => lp [.slice p n c, i6 0] w fun J s w => asS (s.getD 0 undef) fun p n c => asI .i64 (s.getD 1 undef) fun x => cond (decide (x < (ln : Int))) (BODY J p n c x w) (K (.slice p n c) w) := by
  subst hln
  have hsum : ∀ i, i ≤ l.length → ((l.take i).map len).sum ≤ (l.map len).sum := fun i _ => by
    conv => rhs; rw [← List.take_append_drop i l, List.map_append, List.sum_append]
    omega
  unfold rowLen at hb hK
  refine hfst _ fun p1 c1 b1 w1 h => sp ?_
  refine lp_mk (fun x : Option Addr × Nat × Nat => [.slice x.1 (n + lenN l.length + ((l.take x.2.2).map len).sum) x.2.1, i6 (x.2.2 : Int)]) (fun m x w' => m = l.length - x.2.2 ∧ x.2.2 ≤ l.length ∧ ∃ bs : List Nat, Hs w0 w' (⟨5, 1, x.1, x.2.1, n + lenN l.length + ((l.take x.2.2).map len).sum, bv bs⟩ :: Rs)) l.length (p1, c1, 0) rfl
    ⟨rfl, Nat.zero_le _, b1, h⟩ ?_
  clear h
  rintro m ⟨q, d, i⟩ w2 ⟨rfl, hi, b2, h⟩ J hJ
  simp only at hi h
  refine sp (sp (cond_split (fun hc => ?_) fun hc => ?_))
  · have hil : i < l.length := by have := of_decide_eq_true hc; simp only at this; omega
    refine hB _ _ _ _ b2 i l[i] w2 (List.getElem?_eq_getElem hil) h fun w3 h => ?_
    have e1 : ((l.take (i + 1)).map len).sum = ((l.take i).map len).sum + len l[i] := by rw [List.take_add_one, List.getElem?_eq_getElem hil]; simp only [List.map_append, List.map_cons, List.map_nil, List.sum_append, List.sum_cons, List.sum_nil, Option.toList_some, Nat.add_zero]
    have := hsum (i + 1) hil
    rw [e1] at this
    refine hput l[i] (hok _ (List.getElem_mem hil)) h (by dsimp only; omega) fun p' c' bs' w4 h => sp ?_
    rw [natS i (by omega), Nat.add_assoc _ _ (len _), ← e1] at *
    exact hJ (l.length - (i + 1)) (p', c', i + 1) _ (by simp only; omega) ⟨rfl, hil, bs', h⟩
  · have : i = l.length := by have := of_decide_eq_false hc; simp only at this; omega
    subst this
    rw [List.take_length, Nat.add_assoc] at h ⊢
    exact hK _ _ _ _ h
theorem ok148 : callOk Tryz.prog 148 = true := by kernel_rfl
theorem ok146 : callOk Tryz.prog 146 = true := by kernel_rfl
theorem ok150 : callOk Tryz.prog 150 = true := by kernel_rfl
theorem ok154 : callOk Tryz.prog 154 = true := by kernel_rfl
def natL (n : Int) : Nat := lenN n.toNat
def okN (n : Int) : Prop := 0 ≤ n ∧ n < 9223372036854775808
theorem rowi_put {q : Option Addr} {l : List Int} {ln d : Nat} (hr : Reads w0 q (iw l)) (hln : l.length = ln) (hlm : ln ≤ 1000000) (hok : ∀ x ∈ l, okN x) (h : Hs w0 w (⟨5, 1, p, c, n, bv bs⟩ :: Rs)) (hb : n + rowLen natL l ≤ 100000000)
    (hK : ∀ p' c' (bs' : List Nat) w', Hs w0 w' (⟨5, 1, p', c', n + rowLen natL l, bv bs'⟩ :: Rs) → K (.slice p' (n + rowLen natL l) c') w') : cl Tryz.prog 152 #[.slice p n c, .slice q ln d, .func (.func 148) #[] #[]] w K := by
  apply F152_calls
  unfold F152
  refine row_put (ok := fun _ n => okN n) nat_put hln hlm hok (nat_first hlm h (by rw [← hln]; unfold rowLen at hb; omega)) hb (fun J p n c bs i x w' hx h hcl => ?_) hK
  have hil := (List.getElem?_eq_some_iff.1 hx)
  refine Reads.ati (h.old hr) hln (by rw [← hln]; exact hil.1) (sp (sp (cond_t ok148 ?_)))
  have e : l.getD i 0 = x := by simp [List.getD_eq_getElem?_getD, hx]
  rw [e]
  exact hcl _ h
def glE (g : Gl) : Nat := natL g.t + natL g.z + lenN (zigN g.v)
def insL (i : Ins) : Nat := natL i.op + lenN (zigN i.a) + natL i.b
theorem glob_put : Put 146 (fun g : Gl => .agg #[i6 g.t, i6 g.z, i6 g.v]) glE fun _ g => okN g.t ∧ okN g.z := by
  intro w0 w Rs p n c bs K x ⟨o1, o2⟩ h hb hK
  unfold glE at hb hK
  apply F146_calls
  unfold F146
  refine h.nw fun q w1 h => ?_
  repeat first|refine sp ?_|refine cond_t rfl ?_|refine cond_f rfl ?_|refine asT_i rfl rfl ?_|refine asA_i rfl rfl ?_|refine h.l rfl ?_|refine h.hd rfl ?_|(refine h.sb rfl rfl ?_;clear h;intro _ h)|(refine h.dw ?_;clear h;intro _ h)
  refine nat_put _ o1 (h.perm (List.Perm.swap _ _ _)) (by dsimp only; unfold natL at hb; omega) fun p1 c1 b1 w2 h => ?_
  repeat first|refine sp ?_|refine cond_t rfl ?_|refine cond_f rfl ?_|refine asT_i rfl rfl ?_|refine asA_i rfl rfl ?_|refine h.l rfl ?_|refine h.hd rfl ?_|(refine h.sb rfl rfl ?_;clear h;intro _ h)|(refine h.dw ?_;clear h;intro _ h)
  refine nat_put _ o2 h (by dsimp only; unfold natL at hb; omega) fun p2 c2 b2 w3 h => ?_
  repeat first|refine sp ?_|refine cond_t rfl ?_|refine cond_f rfl ?_|refine asT_i rfl rfl ?_|refine asA_i rfl rfl ?_|refine h.l rfl ?_|refine h.hd rfl ?_|(refine h.sb rfl rfl ?_;clear h;intro _ h)|(refine h.dw ?_;clear h;intro _ h)
  refine whole_put _ trivial h (by dsimp only; unfold natL at hb; omega) fun p3 c3 b3 w4 h => ?_
  repeat first|refine sp ?_|refine cond_t rfl ?_|refine cond_f rfl ?_|refine asT_i rfl rfl ?_|refine asA_i rfl rfl ?_|refine h.l rfl ?_|refine h.hd rfl ?_|(refine h.sb rfl rfl ?_;clear h;intro _ h)|(refine h.dw ?_;clear h;intro _ h)
  unfold natL at hK
  rw [← Nat.add_assoc, ← Nat.add_assoc] at hK
  exact hK _ _ _ _ (h.sub (List.Sublist.cons_cons _ (List.sublist_cons_self _ _)))
theorem ins_put : Put 154 (fun i : Ins => .agg #[i6 i.op, i6 i.a, i6 i.b]) insL fun _ i => okN i.op ∧ okN i.b := by
  intro w0 w Rs p n c bs K x ⟨o1, o2⟩ h hb hK
  unfold insL at hb hK
  apply F154_calls
  unfold F154
  refine h.nw fun q w1 h => ?_
  repeat first|refine sp ?_|refine cond_t rfl ?_|refine cond_f rfl ?_|refine asT_i rfl rfl ?_|refine asA_i rfl rfl ?_|refine h.l rfl ?_|refine h.hd rfl ?_|(refine h.sb rfl rfl ?_;clear h;intro _ h)|(refine h.dw ?_;clear h;intro _ h)
  refine nat_put _ o1 (h.perm (List.Perm.swap _ _ _)) (by dsimp only; unfold natL at hb; omega) fun p1 c1 b1 w2 h => ?_
  repeat first|refine sp ?_|refine cond_t rfl ?_|refine cond_f rfl ?_|refine asT_i rfl rfl ?_|refine asA_i rfl rfl ?_|refine h.l rfl ?_|refine h.hd rfl ?_|(refine h.sb rfl rfl ?_;clear h;intro _ h)|(refine h.dw ?_;clear h;intro _ h)
  refine whole_put _ trivial h (by dsimp only; unfold natL at hb; omega) fun p3 c3 b3 w4 h => ?_
  repeat first|refine sp ?_|refine cond_t rfl ?_|refine cond_f rfl ?_|refine asT_i rfl rfl ?_|refine asA_i rfl rfl ?_|refine h.l rfl ?_|refine h.hd rfl ?_|(refine h.sb rfl rfl ?_;clear h;intro _ h)|(refine h.dw ?_;clear h;intro _ h)
  refine nat_put _ o2 h (by dsimp only; unfold natL at hb; omega) fun p2 c2 b2 w3 h => ?_
  repeat first|refine sp ?_|refine cond_t rfl ?_|refine cond_f rfl ?_|refine asT_i rfl rfl ?_|refine asA_i rfl rfl ?_|refine h.l rfl ?_|refine h.hd rfl ?_|(refine h.sb rfl rfl ?_;clear h;intro _ h)|(refine h.dw ?_;clear h;intro _ h)
  unfold natL at hK
  rw [← Nat.add_assoc, ← Nat.add_assoc] at hK
  exact hK _ _ _ _ (h.sub (List.Sublist.cons_cons _ (List.sublist_cons_self _ _)))
theorem rowg_put {q : Option Addr} {l : List Gl} {ln d : Nat} (hr : Reads w0 q (l.flatMap glC)) (hln : l.length = ln) (hlm : ln ≤ 1000000) (hok : ∀ x ∈ l, okN x.t ∧ okN x.z) (hfst : ∀ K : Value → World → Prop, (∀ p' c' (bs' : List Nat) w', Hs w0 w' (⟨5, 1, p', c', n + lenN ln, bv bs'⟩ :: Rs) → K (.slice p' (n + lenN ln) c') w') → cl Tryz.prog 148 #[.slice p n c, i6 (ln : Int)] w K) (hb : n + rowLen glE l ≤ 100000000)
    (hK : ∀ p' c' (bs' : List Nat) w', Hs w0 w' (⟨5, 1, p', c', n + rowLen glE l, bv bs'⟩ :: Rs) → K (.slice p' (n + rowLen glE l) c') w') : cl Tryz.prog 145 #[.slice p n c, .slice q ln d, .func (.func 146) #[] #[]] w K := by
  apply F145_calls
  unfold F145
  refine row_put glob_put hln hlm hok hfst hb (fun J p n c bs i x w' hx h hcl => ?_) hK
  refine Reads.atN glC_len (h.old hr) hln hx (by decide) fun a _ hc => ?_
  rw [Int.toNat_natCast]
  refine ld_mk (hc 0 (by decide)) (sp (ld_mk (hc 1 (by decide)) (sp (ld_mk (hc 2 (by decide)) (sp ?_)))))
  refine h.nw fun r w1 h => ?_
  repeat first|refine sp ?_|refine cond_t rfl ?_|refine cond_f rfl ?_|refine asT_i rfl rfl ?_|refine asA_i rfl rfl ?_|refine h.l rfl ?_|refine h.hd rfl ?_|(refine h.sb rfl rfl ?_;clear h;intro _ h)|(refine h.dw ?_;clear h;intro _ h)
  exact cond_t ok146 (hcl _ h.tail)
theorem rowin_put {q : Option Addr} {l : List Ins} {ln d : Nat} (hr : Reads w0 q (l.flatMap inC)) (hln : l.length = ln) (hlm : ln ≤ 1000000) (hok : ∀ x ∈ l, okN x.op ∧ okN x.b) (h : Hs w0 w (⟨5, 1, p, c, n, bv bs⟩ :: Rs)) (hb : n + rowLen insL l ≤ 100000000)
    (hK : ∀ p' c' (bs' : List Nat) w', Hs w0 w' (⟨5, 1, p', c', n + rowLen insL l, bv bs'⟩ :: Rs) → K (.slice p' (n + rowLen insL l) c') w') : cl Tryz.prog 153 #[.slice p n c, .slice q ln d, .func (.func 154) #[] #[]] w K := by
  apply F153_calls
  unfold F153
  refine row_put ins_put hln hlm hok (nat_first hlm h (by rw [← hln]; unfold rowLen at hb; omega)) hb (fun J p n c bs i x w' hx h hcl => ?_) hK
  refine Reads.atN inC_len (h.old hr) hln hx (by decide) fun a _ hc => ?_
  rw [Int.toNat_natCast]
  refine ld_mk (hc 0 (by decide)) (sp (ld_mk (hc 1 (by decide)) (sp (ld_mk (hc 2 (by decide)) (sp ?_)))))
  refine h.nw fun r w1 h => ?_
  repeat first|refine sp ?_|refine cond_t rfl ?_|refine cond_f rfl ?_|refine asT_i rfl rfl ?_|refine asA_i rfl rfl ?_|refine h.l rfl ?_|refine h.hd rfl ?_|(refine h.sb rfl rfl ?_;clear h;intro _ h)|(refine h.dw ?_;clear h;intro _ h)
  exact cond_t ok154 (hcl _ h.tail)
theorem _root_.Go.Sx.Hs.r3 {x y z : Rw} (h : Hs w0 w (x :: y :: z :: Rs)) : Hs w0 w (z :: y :: x :: Rs) := h.perm ((List.reverse_perm [_, _, _]).symm.append_right Rs)
def fnL (x : Fs) : Nat := textLen x.nm + rowLen natL x.f.par + natL x.f.res + rowLen natL (x.f.loc.drop x.f.par.length) + rowLen insL x.f.code
structure FnE (w : World) (x : Fs) : Prop where
  at' : FsAt w x
  nm : x.nm.size ≤ 65536
  pl : x.f.par.length ≤ x.f.loc.length
  ll : x.f.loc.length ≤ 1000000
  cl : x.f.code.length ≤ 1000000
  par : ∀ v ∈ x.f.par, okN v
  res : okN x.f.res
  loc : ∀ v ∈ x.f.loc, okN v
  code : ∀ i ∈ x.f.code, okN i.op ∧ okN i.b
theorem fn_put : Put 150 (fun x : Fs => .agg (fsC x).toArray) fnL FnE := by
  intro w0 w Rs p n c bs K x hx h hb hK
  unfold fnL at hb hK
  have hpl := hx.pl
  have hll := hx.ll
  apply F150_calls
  unfold F150
  refine h.nw fun q w1 h => ?_
  repeat first|refine sp ?_|refine cond_t rfl ?_|refine cond_f rfl ?_|refine asT_i rfl rfl ?_|refine asA_i rfl rfl ?_|refine h.l rfl ?_|refine h.hd rfl ?_|(refine h.sb rfl rfl ?_;clear h;intro _ h)|(refine h.dw ?_;clear h;intro _ h)
  refine textp_k hx.nm fun p1 c1 b1 w2 hx2 hl1 hr1 => ?_
  replace h := h.push hx2 hr1
  repeat first|refine sp ?_|refine cond_t rfl ?_|refine cond_f rfl ?_|refine asT_i rfl rfl ?_|refine asA_i rfl rfl ?_|refine h.l rfl ?_|refine h.hd rfl ?_|(refine h.sb rfl rfl ?_;clear h;intro _ h)|(refine h.dw ?_;clear h;intro _ h)
  have e1 : (p1 = none → textLen x.nm = 0) := fun e => by rw [← hl1, (row_len hr1).2 e]; rfl
  refine Hs.app sl_b h.r3 (h.rd List.mem_cons_self) (by rw [bv_length]; omega) e1 bv_one (by omega) (by simp only [maxLen]; omega) fun p2 c2 w3 h _ => sp ?_
  rw [← bv_append] at h
  refine h.hd rfl ?_
  refine rowi_put hx.at'.par rfl (by omega) hx.par h (by omega) fun p3 c3 b3 w4 h => ?_
  repeat first|refine sp ?_|refine cond_t rfl ?_|refine cond_f rfl ?_|refine asT_i rfl rfl ?_|refine asA_i rfl rfl ?_|refine h.l rfl ?_|refine h.hd rfl ?_|(refine h.sb rfl rfl ?_;clear h;intro _ h)|(refine h.dw ?_;clear h;intro _ h)
  refine bn2_mk (by omega) (by omega) ?_
  refine nat_put _ hx.res h (by dsimp only; unfold natL at *; omega) fun p4 c4 b4 w5 h => ?_
  repeat first|refine sp ?_|refine cond_t rfl ?_|refine cond_f rfl ?_|refine asT_i rfl rfl ?_|refine asA_i rfl rfl ?_|refine h.l rfl ?_|refine h.hd rfl ?_|(refine h.sb rfl rfl ?_;clear h;intro _ h)|(refine h.dw ?_;clear h;intro _ h)
  rw [Int.toNat_natCast]
  have hrl : Reads w0 (slp x.lp x.lc x.f.par.length 1) (iw (x.f.loc.drop x.f.par.length)) := by
    have := Reads.drop (n := x.f.par.length) hx.at'.loc (c := x.lc) (by simpa [iv] using hx.at'.ll)
    rw [show (iw x.f.loc).drop x.f.par.length = iw (x.f.loc.drop x.f.par.length) from iv_drop] at this
    exact this
  refine rowi_put hrl (by simp) (by omega) (fun v hv => hx.loc v (List.mem_of_mem_drop hv)) h (by dsimp only; unfold natL at *; omega) fun p5 c5 b5 w6 h => ?_
  repeat first|refine sp ?_|refine cond_t rfl ?_|refine cond_f rfl ?_|refine asT_i rfl rfl ?_|refine asA_i rfl rfl ?_|refine h.l rfl ?_|refine h.hd rfl ?_|(refine h.sb rfl rfl ?_;clear h;intro _ h)|(refine h.dw ?_;clear h;intro _ h)
  refine rowin_put hx.at'.code rfl hx.cl hx.code h (by dsimp only; unfold natL at *; omega) fun p6 c6 b6 w7 h => ?_
  repeat first|refine sp ?_|refine cond_t rfl ?_|refine cond_f rfl ?_|refine asT_i rfl rfl ?_|refine asA_i rfl rfl ?_|refine h.l rfl ?_|refine h.hd rfl ?_|(refine h.sb rfl rfl ?_;clear h;intro _ h)|(refine h.dw ?_;clear h;intro _ h)
  unfold natL at hK
  rw [← Nat.add_assoc, ← Nat.add_assoc, ← Nat.add_assoc, ← Nat.add_assoc] at hK
  exact hK _ _ _ _ (h.sub (List.Sublist.cons_cons _ (List.Sublist.cons _ (List.sublist_cons_self _ _))))
theorem rowf_put {q : Option Addr} {l : List Fs} {ln d : Nat} (hr : Reads w0 q (l.flatMap fsC)) (hln : l.length = ln) (hlm : ln ≤ 1000000) (hok : ∀ x ∈ l, FnE w0 x) (h : Hs w0 w (⟨5, 1, p, c, n, bv bs⟩ :: Rs)) (hb : n + rowLen fnL l ≤ 100000000)
    (hK : ∀ p' c' (bs' : List Nat) w', Hs w0 w' (⟨5, 1, p', c', n + rowLen fnL l, bv bs'⟩ :: Rs) → K (.slice p' (n + rowLen fnL l) c') w') : cl Tryz.prog 149 #[.slice p n c, .slice q ln d, .func (.func 150) #[] #[]] w K := by
  apply F149_calls
  unfold F149
  refine row_put fn_put hln hlm hok (nat_first hlm h (by rw [← hln]; unfold rowLen at hb; omega)) hb (fun J p n c bs i x w' hx h hcl => ?_) hK
  refine Reads.atN fsC_len (h.old hr) hln hx (by decide) fun a _ hc => ?_
  rw [Int.toNat_natCast]
  refine ld_mk (hc 0 (by decide)) (sp (ld_mk (hc 1 (by decide)) (sp (ld_mk (hc 2 (by decide)) (sp (ld_mk (hc 3 (by decide)) (sp (ld_mk (hc 4 (by decide)) (sp ?_)))))))))
  refine h.nw fun r w1 h => ?_
  repeat first|refine sp ?_|refine cond_t rfl ?_|refine cond_f rfl ?_|refine asT_i rfl rfl ?_|refine asA_i rfl rfl ?_|refine h.l rfl ?_|refine h.hd rfl ?_|(refine h.sb rfl rfl ?_;clear h;intro _ h)|(refine h.dw ?_;clear h;intro _ h)
  exact cond_t ok150 (hcl _ h.tail)
def encL (I : Is) : Nat := 4 + rowLen glE I.gl + rowLen fnL I.fs + 4
structure EncOK (w : World) (I : Is) : Prop where
  gl : ∀ g ∈ I.gl, okN g.t ∧ okN g.z
  fn : ∀ x ∈ I.fs, FnE w x
  gn : I.gl.length ≤ 1000000
  fnn : I.fs.length ≤ 1000000
  len : encL I ≤ 100000000
theorem app_full {P : Program} {t ty e : TypeId} {s b : Nat} (ht : SlN P t e s b) {w : World} {a : Addr} {n c : Nat} {xs : List Value} (hr : ∀ j v, xs[j]? = some v → w.cell? (a.add j) = some v) (hxs : xs.length = n * s) {q : Option Addr} {m c' : Nat} {news : List Value} (hs : Reads w q news) (hm : news.length = m * s) (hm0 : 0 < m)
    (hg : c < n + m) (h63 : n + m ≤ maxLen) (hby : (n + m) * b ≤ 140737488355328) {K : Value → World → Prop} (hK : ∀ p' c'' w', Ext no w w' → Rw.ok ⟨e, s, p', c'', n + m, xs ++ news⟩ w' w.heap.size → K (.slice p' (n + m) c'') w') :
    rn P (Builtin.append_ #[t, t] ty #[.slice (some a) n c, .slice q m c']) w K := by
  obtain ⟨i, z, hi, hz, hzs, hsz, rfl⟩ := ht.inf
  have hpos : 0 < m * s := Nat.mul_pos hm0 ht.pos
  rcases hs with h | ⟨b', o', rfl, hc⟩
  · rw [h, List.length_nil] at hm; omega
  · obtain ⟨v', w', hrun, h2, h3⟩ := run_append_arg_grows (P := P) (w := w) t ty e i z s i.bytes ht.und hi hz hsz rfl hzs ht.pos a n c xs hxs hr ⟨b', o', none⟩ m c' news hm (fun j u hu => by rw [add_mk]; exact hc j u hu) hg h63 hby
    have hx : Ext no w w' := (Ext.of_grown h3).mono fun k _ hk => by cases hk
    rcases h2.2 with ⟨_, h0⟩ | ⟨g, cap, cur, rfl, _⟩
    · omega
    · exact rn_mk hrun (hK _ _ _ hx ⟨h2⟩)
set_option maxRecDepth 100000 in
theorem encode_k (hN : Nib w) {I : Is} (hI : IsAt w I) (hs : ∀ x ∈ I.fs, x.f.loc.length ≤ 100000 ∧ x.f.code.length ≤ 100000) (hE : okB I = true → EncOK w I)
    (hK : ∀ p c n e w', Ext no w w' → (e = 0 ↔ okB I = true ∧ encL I ≤ 1048576) → K (.tuple #[.slice p n c, i6 e]) w') : cl Tryz.prog 103 #[I.val] w K := by
  apply F103_calls
  unfold F103
  refine (Hs.start w).nw fun q w1 h => ?_
  repeat first|refine sp ?_|refine cond_t rfl ?_|refine cond_f rfl ?_|refine asT_i rfl rfl ?_|refine asA_i rfl rfl ?_|refine h.l rfl ?_|refine h.hd rfl ?_|(refine h.sb rfl rfl ?_;clear h;intro _ h)|(refine h.dw ?_;clear h;intro _ h)
  refine ok_k (hI.ext h.ext) hs fun w2 hx => sp (cond_split (fun hc => ?_) fun hc => ?_)
  · replace h := h.to hx
    repeat first|refine sp ?_|refine cond_t rfl ?_|refine cond_f rfl ?_|refine asT_i rfl rfl ?_|refine asA_i rfl rfl ?_|refine h.l rfl ?_|refine h.hd rfl ?_|(refine h.sb rfl rfl ?_;clear h;intro _ h)|(refine h.dw ?_;clear h;intro _ h)
    exact hK _ _ _ _ _ h.ext (by simp at hc; simp [hc])
  have hok : okB I = true := by simpa using hc
  have hE := hE hok
  have hlen := hE.len
  unfold encL at hlen
  replace h := h.to hx
  refine nw_mk (rn_mk (Lib.run_convert_bytes_const w2 22 5 _ 4 4 rfl rfl) (sp ?_))
  have hx3 := Ext.alloc w2 (.cells #[.int .u8 84, .int .u8 73, .int .u8 76, .int .u8 84] 5 (4, 5))
  have hcell : ∀ j v, (bv [84, 73, 76, 84])[j]? = some v → (w2.alloc (.cells #[.int .u8 84, .int .u8 73, .int .u8 76, .int .u8 84] 5 (4, 5))).cell? (Addr.add ⟨w2.heap.size, 0, none⟩ j) = some v := fun j v hv => by
    rw [add_mk, blk_cell (new_blk w2 _), Nat.zero_add]
    simpa [bv] using hv
  replace h := h.to hx3
  have hsz : (#[Value.int .u8 84, .int .u8 73, .int .u8 76, .int .u8 84] : Array Value).size = 4 := rfl
  rw [hsz]
  generalize (w2.alloc (.cells #[.int .u8 84, .int .u8 73, .int .u8 76, .int .u8 84] 5 (4, 5))) = w3 at h hcell ⊢
  have hfst : ∀ K : Value → World → Prop, (∀ p' c' (bs' : List Nat) w', Hs w w' (⟨5, 1, p', c', 4 + lenN I.gl.length, bv bs'⟩ :: [bk 31 q [.slice I.gp I.gl.length I.gc, .slice I.fp I.fs.length I.fc]]) → K (.slice p' (4 + lenN I.gl.length) c') w') → cl Tryz.prog 148 #[.slice (some ⟨w2.heap.size, 0, none⟩) 4 4, i6 (I.gl.length : Int)] w3 K := by
    intro K hK
    have hgn := hE.gn
    have h1 : 0 < lenN I.gl.length := by
      unfold lenN lenF
      split <;> omega
    have h10 := lenN_le I.gl.length
    apply F148_calls
    unfold F148
    refine num_k (by omega) (by omega) fun p' c' bs' w' hx hl hr => ?_
    simp only [Int.toNat_natCast] at hl hr ⊢
    replace h := h.to hx
    repeat first|refine sp ?_|refine cond_t rfl ?_|refine cond_f rfl ?_|refine asT_i rfl rfl ?_|refine asA_i rfl rfl ?_|refine h.l rfl ?_|refine h.hd rfl ?_|(refine h.sb rfl rfl ?_;clear h;intro _ h)|(refine h.dw ?_;clear h;intro _ h)
    refine app_full sl_b (fun j v hv => hx.cell (hcell j v hv) fun h => h) rfl (RowN.reads hr) (by rw [bv_length]; omega) h1 (by omega) (by simp only [maxLen]; omega) (by omega) fun p2 c2 w4 hx4 hr4 => sp ?_
    rw [← bv_append] at hr4
    exact hK _ _ _ _ (h.push hx4 hr4)
  repeat first|refine sp ?_|refine cond_t rfl ?_|refine cond_f rfl ?_|refine asT_i rfl rfl ?_|refine asA_i rfl rfl ?_|refine h.l rfl ?_|refine h.hd rfl ?_|(refine h.sb rfl rfl ?_;clear h;intro _ h)|(refine h.dw ?_;clear h;intro _ h)
  refine rowg_put hI.gl rfl hE.gn hE.gl hfst (by omega) fun p1 c1 b1 w4 h => ?_
  repeat first|refine sp ?_|refine cond_t rfl ?_|refine cond_f rfl ?_|refine asT_i rfl rfl ?_|refine asA_i rfl rfl ?_|refine h.l rfl ?_|refine h.hd rfl ?_|(refine h.sb rfl rfl ?_;clear h;intro _ h)|(refine h.dw ?_;clear h;intro _ h)
  refine rowf_put hI.fn rfl hE.fnn hE.fn h (by omega) fun p2 c2 b2 w5 h => ?_
  repeat first|refine sp ?_|refine cond_t rfl ?_|refine cond_f rfl ?_|refine asT_i rfl rfl ?_|refine asA_i rfl rfl ?_|refine h.l rfl ?_|refine h.hd rfl ?_|(refine h.sb rfl rfl ?_;clear h;intro _ h)|(refine h.dw ?_;clear h;intro _ h)
  have hrow := row_len (h.row _ List.mem_cons_self)
  refine frame_k (hN.ext h.ext) (h.rd List.mem_cons_self) hrow.1 (by omega) hrow.2 fun p3 c3 b3 w6 hx3 hl3 hr3 => sp ?_
  have hx := h.ext.trans hx3
  have hL : 4 + rowLen glE I.gl + rowLen fnL I.fs + 4 = encL I := rfl
  refine cond_split (fun hc2 => ?_) fun hc2 => ?_
  · refine sp (hK _ _ _ _ _ hx ?_)
    have := of_decide_eq_true hc2
    exact ⟨fun h => absurd h (by decide), fun h => by omega⟩
  · refine sp (hK _ _ _ _ _ hx ?_)
    have := of_decide_eq_false hc2
    exact ⟨fun _ => ⟨hok, by omega⟩, fun _ => rfl⟩
theorem iright_k (hN : Nib w) {I : Is} (hI : IsAt w I) (hs : ∀ x ∈ I.fs, x.f.loc.length ≤ 100000 ∧ x.f.code.length ≤ 100000) (hE : okB I = true → EncOK w I)
    (hK : ∀ e w', Ext no w w' → (e = 0 ↔ okB I = true ∧ encL I ≤ 1048576) → K (i6 e) w') : cl Tryz.prog 53 #[I.val] w K := by
  apply F53_calls
  unfold F53
  refine (Hs.start w).nw fun q w1 h => ?_
  repeat first|refine sp ?_|refine cond_t rfl ?_|refine cond_f rfl ?_|refine asT_i rfl rfl ?_|refine asA_i rfl rfl ?_|refine h.l rfl ?_|refine h.hd rfl ?_|(refine h.sb rfl rfl ?_;clear h;intro _ h)|(refine h.dw ?_;clear h;intro _ h)
  have hx := h.ext
  refine encode_k (hN.ext hx) (hI.ext hx) hs (fun h => ?_) fun p c n e w2 hx2 he => ?_
  · have := hE h
    exact ⟨this.gl, fun x hx' => by have := this.fn x hx'; exact ⟨this.at'.ext hx, this.nm, this.pl, this.ll, this.cl, this.par, this.res, this.loc, this.code⟩, this.gn, this.fnn, this.len⟩
  repeat first|refine sp ?_|refine cond_t rfl ?_|refine cond_f rfl ?_|refine asT_i rfl rfl ?_|refine asA_i rfl rfl ?_|refine h.l rfl ?_|refine h.hd rfl ?_|(refine h.sb rfl rfl ?_;clear h;intro _ h)|(refine h.dw ?_;clear h;intro _ h)
  exact hK _ _ (hx.trans hx2) he
end
end Go.Proofs.YtndbhmmejjhcfaaGreatDoor
namespace Go.Proofs.YtndbhmmejjhcfaaGreatDoor
open Go Go.Sx Go.Vp
attribute [local irreducible] jn lv ld st nw asI asB asP asS asY asM asF asA asT lp rn ru rq cl dw dr bnd bn2 nz nn hd hr so eqW
attribute [local irreducible] callOk xt
set_option maxRecDepth 100000
theorem u329 : Tryz.prog.underlying 329 = some (.pointer (Tryz.prog.pointee 329)) := rfl
theorem u367 : Tryz.prog.underlying 367 = some .unsafePointer := rfl
theorem i331 : ∃ j, Tryz.prog.info? 331 = some j ∧ j.size ≠ 0 := ⟨_, rfl, by decide⟩
theorem lies331 : liesAt Tryz.prog Tryz.prog.depth 331 (2 / Tryz.prog.cellsOf 331) 0 331 1 = true := by kernel_rfl
section
variable {w0 w : World} {Rs : List Rw} {K : Value → World → Prop} {b : Nat} {v : Value} {a : Option Addr}
theorem noEsc {x : Value} (hK : K x w) : xt Tryz.prog 297 #[x] w K := by
  unfold xt
  refine ⟨x, w, ?_, hK⟩
  rw [run_callFunc_extern Tryz.func297 (by kernel_rfl) (by kernel_rfl) (by kernel_rfl) (e := Extern.AbiNoEscape.same) (by kernel_rfl), Lib.run_noEscape]
  rfl
theorem copyCheck_k (h : Hs w0 w (bk 331 b [.pointer a, v] :: Rs)) (ha : a = none ∨ a = some ⟨b, 0, none⟩) (hK : ∀ w', Hs w0 w' (bk 331 b [.pointer (some ⟨b, 0, none⟩), v] :: Rs) → K (.tuple #[]) w') : cl Tryz.prog 278 #[.pointer (some ⟨b, 0, none⟩)] w K := by
  refine clz_cl ?_
  apply F278_calls
  unfold F278
  repeat first|refine sp ?_|refine cond_t rfl ?_|refine cond_f rfl ?_|refine asT_i rfl rfl ?_|refine asA_i rfl rfl ?_|refine h.l rfl ?_|refine h.hd rfl ?_|(refine h.sb rfl rfl ?_;clear h;intro _ h)|(refine h.dw ?_;clear h;intro _ h)
  have hsh : w.shape? b = some (331, 2) := by
    rcases RowN.cases (h.row _ List.mem_cons_self) with ⟨h0, _⟩ | ⟨g, cur, h0, _, hg, _, _, h3, _⟩
    · cases h0
    · cases h0
      simp [World.shape?, hg, h3]
  obtain ⟨j, hj, hj0⟩ := i331
  have e1 : ∀ x : Option Addr, (eqGuard BinOp.eql 329 (.tmp 5) (.const (.pointer none)) (.pointer x) (.pointer none) >>= fun _ => Go.binOp BinOp.eql 329 (.pointer x) (.pointer none) : Sem Value).run Tryz.prog w = .ok (.bool x.isNone) w := fun x => by
    have hg : eqGuard BinOp.eql 329 (.tmp 5) (.const (.pointer none)) (.pointer x) (.pointer none) = pure () := rfl
    rw [hg]
    simp [run_eql_pointer_nil _ _ _ u329]
  rcases ha with rfl | rfl
  · refine rn_mk (e1 none) (sp (cond_t rfl ?_))
    refine rn_mk (Lib.run_to_unsafe w ⟨b, 0, none⟩ (t := 331) u329 u367 hj hj0 hsh (Nat.zero_lt_succ 1)) (noEsc ?_)
    refine rn_mk (Lib.run_from_unsafe w ⟨b, 0, none⟩ u367 (u := 331) u329 hj hsh lies331) (sp ?_)
    repeat first|refine sp ?_|refine cond_t rfl ?_|refine cond_f rfl ?_|refine asT_i rfl rfl ?_|refine asA_i rfl rfl ?_|refine h.l rfl ?_|refine h.hd rfl ?_|(refine h.sb rfl rfl ?_;clear h;intro _ h)|(refine h.dw ?_;clear h;intro _ h)
    exact hK _ h
  · refine rn_mk (e1 _) (sp (cond_f rfl ?_))
    repeat first|refine sp ?_|refine cond_t rfl ?_|refine cond_f rfl ?_|refine asT_i rfl rfl ?_|refine asA_i rfl rfl ?_|refine h.l rfl ?_|refine h.hd rfl ?_|(refine h.sb rfl rfl ?_;clear h;intro _ h)|(refine h.dw ?_;clear h;intro _ h)
    have hg : eqGuard BinOp.neq 329 (.tmp 17) (.tmp 18) (.pointer (some ⟨b, 0, none⟩)) (.pointer (some ⟨b, 0, none⟩)) = pure () := rfl
    refine rn_mk (v := .bool false) (w' := w) ?_ (sp (cond_f rfl (hK _ h)))
    rw [hg]
    simp [Lib.run_neq_ptr_same w ⟨b, 0, none⟩ (tp := 329) (te := 331) u329 hj]
theorem writeByte_k {q : Option Addr} {n c : Nat} {l : List Nat} {x : Nat} (h : Hs w0 w (bk 331 b [.pointer a, .slice q n c] :: ⟨5, 1, q, c, n, bv l⟩ :: Rs)) (hn : n ≤ 1000000) (ha : a = none ∨ a = some ⟨b, 0, none⟩)
    (hK : ∀ g c' w', Hs w0 w' (bk 331 b [.pointer (some ⟨b, 0, none⟩), .slice (some ⟨g, 0, none⟩) (n + 1) c'] :: ⟨5, 1, some ⟨g, 0, none⟩, c', n + 1, bv (l ++ [x])⟩ :: Rs) → K .nilIface w') : cl Tryz.prog 249 #[.pointer (some ⟨b, 0, none⟩), .int .u8 (x : Int)] w K := by
  apply F249_calls
  unfold F249
  refine of_lvv (copyCheck_k h ha fun w1 h => ?_)
  repeat first|refine sp ?_|refine cond_t rfl ?_|refine cond_f rfl ?_|refine asT_i rfl rfl ?_|refine asA_i rfl rfl ?_|refine h.l rfl ?_|refine h.hd rfl ?_|(refine h.sb rfl rfl ?_;clear h;intro _ h)|(refine h.dw ?_;clear h;intro _ h)
  refine Hs.app1 sl_b h.swap (vs := [.int .u8 (x : Int)]) rfl (by simp [one]) (by omega) (by simp only [maxLen]; omega) fun g c' w2 h => sp ?_
  repeat first|refine sp ?_|refine cond_t rfl ?_|refine cond_f rfl ?_|refine asT_i rfl rfl ?_|refine asA_i rfl rfl ?_|refine h.l rfl ?_|refine h.hd rfl ?_|(refine h.sb rfl rfl ?_;clear h;intro _ h)|(refine h.dw ?_;clear h;intro _ h)
  refine of_lvv (hK g c' _ ?_)
  rw [bv_append]
  exact h.swap
theorem string_k {q : Option Addr} {n c : Nat} {l : List UInt8} (h : Hs w0 w (bk 331 b [.pointer a, .slice q n c] :: ⟨5, 1, q, c, n, bv (l.map UInt8.toNat)⟩ :: Rs)) (hn : n ≤ 1000000) (hq : q = none ∨ 0 < n)
    (hK : ∀ w', Ext no w0 w' → K (.string (B l)) w') : cl Tryz.prog 246 #[.pointer (some ⟨b, 0, none⟩)] w K := by
  apply F246_calls
  unfold F246
  refine h.dw fun w1 h => ?_
  repeat first|refine sp ?_|refine cond_t rfl ?_|refine cond_f rfl ?_|refine asT_i rfl rfl ?_|refine asA_i rfl rfl ?_|refine h.l rfl ?_|refine h.hd rfl ?_|(refine h.sb rfl rfl ?_;clear h;intro _ h)|(refine h.dw ?_;clear h;intro _ h)
  have hl := (row_len (h.row _ (List.mem_cons_of_mem _ List.mem_cons_self))).1
  rw [List.length_map] at hl
  have hrd := h.rd (r := ⟨5, 1, q, c, n, bv (l.map UInt8.toNat)⟩) (by simp)
  rcases RowN.cases (h.row ⟨5, 1, q, c, n, bv (l.map UInt8.toNat)⟩ (by simp)) with ⟨h1, h2, h3, _⟩ | ⟨g, cur, h1, hg0, hg, h2, _, h3, _⟩
  · simp only at h1 h2 h3
    subst h1 h2 h3
    have : l = [] := List.eq_nil_of_length_eq_zero hl
    subst this
    refine rn_mk (Lib.run_unsafeSliceData_nil w1 _ _ 0 0) (sp ?_)
    repeat first|refine sp ?_|refine cond_t rfl ?_|refine cond_f rfl ?_|refine asT_i rfl rfl ?_|refine asA_i rfl rfl ?_|refine h.l rfl ?_|refine h.hd rfl ?_|(refine h.sb rfl rfl ?_;clear h;intro _ h)|(refine h.dw ?_;clear h;intro _ h)
    refine rn_mk (Lib.run_unsafeString_none w1 _ _ _ none) (sp ?_)
    repeat first|refine sp ?_|refine cond_t rfl ?_|refine cond_f rfl ?_|refine asT_i rfl rfl ?_|refine asA_i rfl rfl ?_|refine h.l rfl ?_|refine h.hd rfl ?_|(refine h.sb rfl rfl ?_;clear h;intro _ h)|(refine h.dw ?_;clear h;intro _ h)
    exact hK _ h.ext
  · simp only at h1 hg0 h2 h3
    subst h1
    have hn0 : 0 < n := hq.resolve_left (by simp)
    refine rn_mk (Lib.run_unsafeSliceData_row w1 _ _ _ n c (by omega)) (sp ?_)
    repeat first|refine sp ?_|refine cond_t rfl ?_|refine cond_f rfl ?_|refine asT_i rfl rfl ?_|refine asA_i rfl rfl ?_|refine h.l rfl ?_|refine h.hd rfl ?_|(refine h.sb rfl rfl ?_;clear h;intro _ h)|(refine h.dw ?_;clear h;intro _ h)
    have hsh : w1.shape? g = some (5, c) := by simp [World.shape?, hg, h3]
    have hrun := Lib.run_unsafeString_row (P := Tryz.prog) w1 279 3 9 5 rfl rfl g c hsh l (fun e => by rw [e] at hl; simp at hl; omega) (by omega) (by omega) (fun j x hx => by
      rcases hrd with h0 | ⟨b', o, hp, hc⟩
      · have := congrArg List.length h0
        simp [bv] at this
        rw [this] at hx; simp at hx
      · cases hp
        rw [add_mk]
        exact hc j _ (by simp [bv, hx]))
    rw [hl] at hrun
    refine rn_mk hrun (sp ?_)
    have hx : Ext (fun k => k = g) w1 (w1.freeze ⟨g, 0, none⟩ n) := by
      unfold World.freeze
      split
      · exact Ext.refl _ _
      · exact ⟨rfl, rfl, rfl, by simp, fun k _ hk => by simp only [Array.getElem?_modify]; rw [if_neg (fun e => hk e.symm)]⟩
    have hbg : b ≠ g := by
      have := h.sep
      have := (List.pairwise_cons.1 this).1 ⟨5, 1, some ⟨g, 0, none⟩, c, n, bv (l.map UInt8.toNat)⟩ (by simp)
      exact this ⟨b, 0, none⟩ ⟨g, 0, none⟩ rfl rfl
    have hcell := h.cel (a := Addr.add ⟨b, 0, none⟩ 1) rfl
    refine hd_i (hx.cell hcell (by rw [add_mk]; exact hbg)) (hK _ (h.ext.then hx fun i hi e => by subst e; omega))
theorem byte5 {t : Int} (h0 : 0 ≤ t) (h1 : t ≤ 4) : byteAt (⟨#[46, 105, 102, 98, 101]⟩ : ByteArray) t = ((l5 t).toNat : Int) := by
  have : t = 0 ∨ t = 1 ∨ t = 2 ∨ t = 3 ∨ t = 4 := by omega
  rcases this with rfl | rfl | rfl | rfl | rfl <;> rfl
theorem row_k {p : Option Addr} {l : List Int} {n c : Nat} (hr : Reads w p (iw l)) (hn : l.length = n) (hb : n ≤ 100000) (ht : ∀ t ∈ l, 0 ≤ t ∧ t ≤ 4) (hK : ∀ w', Ext no w w' → K (.string (B (rowL l))) w') : cl Tryz.prog 207 #[.slice p n c] w K := by
  subst hn
  apply F207_calls
  unfold F207
  refine (Hs.start w).nw fun b w1 h => ?_
  replace h := h.push (r := ⟨5, 1, none, 0, 0, []⟩) (Ext.refl _ _) (RowN.nil _ _ _ _)
  refine lp_mk (fun k : Nat => [.int .i64 (k : Int)]) (fun m k w' => m = l.length - k ∧ k ≤ l.length ∧ ∃ a q d, (a = none ∨ a = some ⟨b, 0, none⟩) ∧ (q = none ∨ 0 < k) ∧ Hs w w' [bk 331 b [.pointer a, .slice q k d], ⟨5, 1, q, d, k, bv ((rowL (l.take k)).map UInt8.toNat)⟩]) l.length 0 rfl
    ⟨rfl, Nat.zero_le _, none, none, 0, .inl rfl, .inl rfl, h.swap⟩ ?_
  clear h
  rintro m i w2 ⟨rfl, hi, a, q, d, ha, hq, h⟩ J hJ
  refine sp (cond_split (fun hc => ?_) fun hc => ?_)
  · have hil : i < l.length := by have := of_decide_eq_true hc; omega
    have hm := ht _ (List.getElem_mem hil)
    have e : l.getD i 0 = l[i] := by simp [hil]
    refine Reads.ati (h.old hr) rfl hil (sp (sp ?_))
    rw [e]
    refine bnd_mk hm.1 (by have : (ByteArray.size (⟨#[46, 105, 102, 98, 101]⟩ : ByteArray)) = 5 := rfl; omega) ?_
    rw [byte5 hm.1 hm.2]
    refine writeByte_k h (by omega) ha fun g c' w3 h => ?_
    rw [natS i (by omega)]
    refine hJ _ (i + 1) w3 (by omega) ⟨rfl, hil, some ⟨b, 0, none⟩, some ⟨g, 0, none⟩, c', .inr rfl, .inr (by omega), ?_⟩
    have e2 : (rowL (l.take (i + 1))).map UInt8.toNat = (rowL (l.take i)).map UInt8.toNat ++ [(l5 l[i]).toNat] := by
      rw [List.take_add_one, List.getElem?_eq_getElem hil]
      simp only [rowL, Option.toList_some, List.map_append, List.map_cons, List.map_nil]
    rw [e2]
    exact h
  · have : i = l.length := by have := of_decide_eq_false hc; omega
    subst this
    rw [List.take_length] at h
    exact string_k h (by omega) hq fun w' hx => sp (hK _ hx)
end
end Go.Proofs.YtndbhmmejjhcfaaGreatDoor
namespace Go.Proofs.YtndbhmmejjhcfaaGreatDoor
open Go Go.Sx Go.Vp
attribute [local irreducible] jn lv ld st nw asI asB asP asS asY asM asF asA asT lp rn ru rq cl dw dr bnd bn2 nz nn hd hr so eqW
attribute [local irreducible] callOk
theorem ba_loop (s : ByteArray) : ∀ (n i : Nat) (r : List UInt8), s.size - i = n → ByteArray.toList.loop s i r = r.reverse ++ s.data.toList.drop i
  | 0, i, r, h => by
    rw [ByteArray.toList.loop, if_neg (by omega), List.drop_of_length_le (by simp only [Array.length_toList]; exact Nat.le_of_sub_eq_zero h), List.append_nil]
  | n + 1, i, r, h => by
    have hi : i < s.size := by omega
    rw [ByteArray.toList.loop, if_pos hi, ba_loop s n (i + 1) _ (by omega)]
    have hi2 : i < s.data.toList.length := by simpa using hi
    rw [List.drop_eq_getElem_cons hi2, List.reverse_cons, List.append_assoc]
    congr 1
    show [s.get! i] ++ _ = _
    have : s.get! i = s.data.toList[i] := by
      show s.data[i]! = _
      rw [getElem!_pos s.data i (by simpa using hi2)]
      simp
    rw [this]
    rfl
theorem ba_list (s : ByteArray) : ByteArray.toList s = s.data.toList := by
  unfold ByteArray.toList
  rw [ba_loop s _ 0 [] rfl]
  simp
theorem beq_B (l k : Lt) : (ByteArray.toList (B l) == ByteArray.toList (B k)) = (l == k) := by rw [ba_list, ba_list]; rfl
section
variable {w : World} {K : Value → World → Prop}
theorem row1_k {t : Int} (h0 : 0 ≤ t) (h1 : t ≤ 4) {w0 : World} {Rs : List Rw} (h : Hs w0 w Rs) {ty : TypeId} (hK : ∀ w', Hs w0 w' Rs → K (.string (B [l5 t])) w') : nw w (.cells #[i6 t] ty) fun r w => cl Tryz.prog 207 #[.slice (some ⟨r, 0, none⟩) 1 1] w K := by
  refine h.nw fun r w1 h => ?_
  have hr := h.rd (r := bk ty r [i6 t]) List.mem_cons_self
  refine row_k (l := [t]) hr rfl (by decide) (by simp; omega) fun w2 hx => hK _ (h.to hx).tail
theorem trim_k {t : Int} (h0 : 0 ≤ t) (h1 : t ≤ 4) (hK : K (.string (B (resL t))) w) : cl Tryz.prog 254 #[.string (B [l5 t]), .string ⟨#[46]⟩] w K := by
  apply F254_calls
  unfold F254
  apply F281_calls
  unfold F281
  apply F255_calls
  unfold F255
  have : t = 0 ∨ t = 1 ∨ t = 2 ∨ t = 3 ∨ t = 4 := by omega
  refine jb (w := w) (B := decide (t = 0)) ?_ fun J hJ => ?_
  · refine sp (sp ?_)
    rcases this with rfl | rfl | rfl | rfl | rfl
    · exact cond_t rfl (bn2_mk (by decide) (by decide) (sp hK))
    all_goals exact cond_f rfl (sp hK)
  · rcases this with rfl | rfl | rfl | rfl | rfl <;> exact cond_t (by decide) (bn2_mk (by decide) (by decide) (hJ _ (by rw [ba_list, ba_list]; decide)))
theorem result_k {t : Int} (h0 : 0 ≤ t) (h1 : t ≤ 4) (hK : ∀ w', Ext no w w' → K (.string (B (resL t))) w') : cl Tryz.prog 210 #[i6 t] w K := by
  apply F210_calls
  unfold F210
  refine row1_k h0 h1 (Hs.start w) fun w1 h => ?_
  exact sp (trim_k h0 h1 (sp (hK _ h.ext)))
structure Lk (w : World) (L : Nat) (I : Is) (x : Fs) : Prop where
  at' : IsAt w I
  cgl : w.cell? ⟨L, 0, none⟩ = some (.slice I.gp I.gl.length I.gc)
  cfs : w.cell? (Addr.add ⟨L, 0, none⟩ 1) = some (.slice I.fp I.fs.length I.fc)
  cres : w.cell? (Addr.add (Addr.add ⟨L, 0, none⟩ 2) 2) = some (i6 x.f.res)
  cloc : w.cell? (Addr.add (Addr.add ⟨L, 0, none⟩ 2) 3) = some (.slice x.lp x.f.loc.length x.lc)
  ccode : w.cell? (Addr.add (Addr.add ⟨L, 0, none⟩ 2) 4) = some (.slice x.cp x.f.code.length x.cc)
  mem : x ∈ I.fs
theorem Lk.ext {w' : World} {L : Nat} {I : Is} {x : Fs} (hx : Ext no w w') (h : Lk w L I x) : Lk w' L I x :=
  ⟨h.at'.ext hx, hx.cell h.cgl fun h => h, hx.cell h.cfs fun h => h, hx.cell h.cres fun h => h, hx.cell h.cloc fun h => h, hx.cell h.ccode fun h => h, h.mem⟩
def okT (t : Int) : Prop := 0 ≤ t ∧ t ≤ 4
structure TyOK (I : Is) : Prop where
  gl : ∀ g ∈ I.gl, okT g.t
  fn : ∀ x ∈ I.fs, (∀ t ∈ x.f.par, okT t) ∧ okT x.f.res ∧ (∀ t ∈ x.f.loc, okT t)
  gn : I.gl.length ≤ 1000
  fnn : I.fs.length ≤ 1000
  len : ∀ x ∈ I.fs, x.f.par.length ≤ 1000 ∧ x.f.loc.length ≤ 1000 ∧ x.f.code.length ≤ 100000
theorem globs_k {L : Nat} {I : Is} {x : Fs} (h : Lk w L I x) (hT : TyOK I) {n : Int} {el : Bool} (hK : ∀ w', Ext no w w' → K (.string (B (globL I.im n el))) w') : cl Tryz.prog 208 #[.pointer (some ⟨L, 0, none⟩), i6 n, .bool el] w K := by
  have hgn := hT.gn
  apply F208_calls
  unfold F208
  refine jn_of (fun s w' => w' = w ∧ ∃ b, s = [.bool b] ∧ (b = true → globL I.im n el = []) ∧ (b = false → ∃ (k : Nat) (g : Gl), n = (k : Int) ∧ I.gl[k]? = some g ∧ globL I.im n el = [l5 g.t])) ?_ fun J hJ => ?_
  · rintro _ _ ⟨rfl, b, rfl, hb1, hb2⟩
    refine sp (cond_split (fun hb => ?_) fun hb => ?_)
    · have := hK _ (Ext.refl _ _)
      rw [hb1 hb] at this
      exact this
    · obtain ⟨k, g, rfl, hg, e⟩ := hb2 hb
      rw [e] at hK
      refine sp (ld_mk h.cgl (sp (Reads.atN glC_len h.at'.gl rfl hg (by decide) fun a _ hc => ?_)))
      rw [Int.toNat_natCast]
      have ht := hT.gl g (List.mem_of_getElem? hg)
      have h0 := hc 0 (by decide)
      refine ld_mk h0 (sp (row1_k ht.1 ht.2 (Hs.start _) fun w1 h1 => sp (hK _ h1.ext)))
  · refine cond_split (fun h0 => hJ _ _ ⟨rfl, _, rfl, fun _ => ?_, by simp⟩) fun h0 => ?_
    · unfold globL; rw [if_pos (of_decide_eq_true h0)]
    have h0 := of_decide_eq_false h0
    refine sp (ld_mk h.cgl (sp (cond_split (fun h1 => hJ _ _ ⟨rfl, _, rfl, fun _ => ?_, by simp⟩) fun h1 => ?_)))
    · have h1 := of_decide_eq_true h1
      unfold globL
      rw [if_neg h0, List.getElem?_eq_none (by simp only [Is.im]; omega)]
    have h1 := of_decide_eq_false h1
    obtain ⟨k, rfl⟩ := Int.eq_ofNat_of_zero_le (by omega : 0 ≤ n)
    have hkl : k < I.gl.length := by omega
    have hg := List.getElem?_eq_getElem hkl
    refine sp (ld_mk h.cgl (sp (Reads.atN glC_len h.at'.gl rfl hg (by decide) fun a _ hc => ?_)))
    rw [Int.toNat_natCast]
    refine ld_mk (hc 1 (by decide)) (sp (hJ _ _ ⟨rfl, _, rfl, fun hb => ?_, fun hb => ⟨k, _, rfl, hg, ?_⟩⟩))
    · unfold globL
      rw [if_neg h0, Int.toNat_natCast]
      have : I.im.gl[k]? = some I.gl[k] := hg
      rw [this]
      have : ¬ decide ((I.gl[k]).z > 0) = el := by
        intro e
        rw [e] at hb
        simp at hb
      simp only [if_neg this]
    · unfold globL
      rw [if_neg h0, Int.toNat_natCast]
      have : I.im.gl[k]? = some I.gl[k] := hg
      rw [this]
      have : decide ((I.gl[k]).z > 0) = el := by
        revert hb
        cases decide ((I.gl[k]).z > 0) <;> cases el <;> simp
      simp only [if_pos this]
end
end Go.Proofs.YtndbhmmejjhcfaaGreatDoor
namespace Go.Proofs.YtndbhmmejjhcfaaGreatDoor
open Go Go.Sx Go.Vp
attribute [local irreducible] jn lv ld st nw asI asB asP asS asY asM asF asA asT lp rn ru rq cl dw dr bnd bn2 nz nn hd hr so eqW
attribute [local irreducible] callOk clz
structure InsK (i : Ins) : Prop where
  op : 1 ≤ i.op ∧ i.op ≤ 33
  b : okT i.b
  a : I64 i.a
def PlainAt (w : World) : Prop := ∀ k : Nat, k ≤ 33 → w.cell? (Addr.add ⟨1, 0, none⟩ (k * 2)) = some (.string (B (plainV k).1)) ∧ w.cell? (Addr.add (Addr.add ⟨1, 0, none⟩ (k * 2)) 1) = some (.string (B (plainV k).2))
theorem PlainAt.ext {w w' : World} (h : Ext no w w') (k : PlainAt w) : PlainAt w' := fun n hn => ⟨h.cell (k n hn).1 fun h => h, h.cell (k n hn).2 fun h => h⟩
theorem andNot_key (v : BitVec 64) : (v &&& ~~~(1#64)) = 0#64 ↔ v = 0#64 ∨ v = 1#64 := by
  constructor
  · intro h
    have hb : ∀ i, i < 64 → i ≠ 0 → v.getLsbD i = false := by
      intro i hi h0
      have := congrArg (fun x => x.getLsbD i) h
      simp only [BitVec.getLsbD_and, BitVec.getLsbD_not, BitVec.getLsbD_one, BitVec.getLsbD_zero] at this
      cases hv : v.getLsbD i
      · rfl
      · rw [hv] at this
        simp [hi, h0] at this
    cases h0 : v.getLsbD 0
    · left
      apply BitVec.eq_of_getLsbD_eq
      intro i hi
      by_cases e : i = 0
      · subst e; rw [h0, BitVec.getLsbD_zero]
      · rw [hb i hi e, BitVec.getLsbD_zero]
    · right
      apply BitVec.eq_of_getLsbD_eq
      intro i hi
      by_cases e : i = 0
      · subst e; rw [h0]; rfl
      · rw [hb i hi e, BitVec.getLsbD_one]; simp [e]
  · rintro (rfl | rfl) <;> decide
theorem andNot1 {a : Int} (h : I64 a) : (Go.bits .andNot .i64 a (1 : Int) == (0 : Int)) = decide (a = 0 ∨ a = 1) := by
  have h0 : Go.bits .andNot .i64 a 1 = IntKind.wrap .i64 (((BitVec.ofInt 64 a &&& ~~~ (1#64)).toNat : Nat) : Int) := rfl
  rw [h0]
  have e1 : IntKind.wrap .i64 (((BitVec.ofInt 64 a &&& ~~~ (1#64)).toNat : Nat) : Int) = 0 ↔ (BitVec.ofInt 64 a &&& ~~~ (1#64)) = 0#64 := by
    have := (BitVec.ofInt 64 a &&& ~~~ (1#64)).isLt
    rw [IntKind.wrap_i64]
    constructor
    · intro h
      apply BitVec.eq_of_toNat_eq
      show _ = 0
      omega
    · intro h
      have : (BitVec.ofInt 64 a &&& ~~~ (1#64)).toNat = 0 := by rw [h]; rfl
      omega
  have e2 : ∀ c : Int, 0 ≤ c → c ≤ 1 → (BitVec.ofInt 64 a = BitVec.ofInt 64 c ↔ a = c) := by
    intro c hc hc1
    constructor
    · intro hh
      have := congrArg BitVec.toNat hh
      rw [BitVec.toNat_ofInt, BitVec.toNat_ofInt] at this
      unfold I64 at h
      have e64 : ((2 ^ 64 : Nat) : Int) = 18446744073709551616 := by decide
      rw [e64] at this
      omega
    · intro hh; rw [hh]
  have e3 := e2 0 (by decide) (by decide)
  have e4 := e2 1 (by decide) (by decide)
  rw [show BitVec.ofInt 64 0 = 0#64 from rfl] at e3
  rw [show BitVec.ofInt 64 1 = 1#64 from rfl] at e4
  rw [Bool.eq_iff_iff]
  simp only [beq_iff_eq, decide_eq_true_eq, e1, andNot_key, e3, e4]
section
variable {w : World} {K : Value → World → Prop} {Z : List PanicEntry → World → Prop}
theorem Reads.atz {p : Option Addr} {l : List Int} (hr : Reads w p (iw l)) {a : Int} {n : Nat} (hn : l.length = n) (h0 : 0 ≤ a) (h1 : a < n) {K : Value → Prop} (hK : K (i6 (l.getD a.toNat 0))) : dr p fun ad => bnd a n (ld w (Addr.add ad (Int.toNat a * 1)) K) := by
  obtain ⟨k, rfl⟩ := Int.eq_ofNat_of_zero_le h0
  exact Reads.ati hr hn (by omega) hK
theorem Reads.atNz {α : Type} {f : α → List Value} {s : Nat} (hf : ∀ x, (f x).length = s) {p : Option Addr} {l : List α} (hr : Reads w p (l.flatMap f)) {a : Int} {n : Nat} (hn : l.length = n) (h0 : 0 ≤ a) {x : α} (hx : l[a.toNat]? = some x) (hs : 0 < s) {K : Addr → Prop}
    (hK : ∀ ad, p = some ad → (∀ k, k < s → w.cell? (Addr.add (Addr.add ad (a.toNat * s)) k) = (f x)[k]?) → K ad) : dr p fun ad => bnd a n (K ad) := by
  obtain ⟨k, rfl⟩ := Int.eq_ofNat_of_zero_le h0
  exact Reads.atN hf hr hn hx hs hK
theorem Reads.cN {α : Type} {f : α → List Value} {s : Nat} (hf : ∀ x, (f x).length = s) {g : Nat} {l : List α} (hr : Reads w (some ⟨g, 0, none⟩) (l.flatMap f)) {k : Nat} {x : α} (hx : l[k]? = some x) (hs : 0 < s) {j : Nat} (hj : j < s) :
    w.cell? (Addr.add (Addr.add ⟨g, 0, none⟩ (k * s)) j) = (f x)[j]? := by
  have := Reads.atN hf hr (n := l.length) rfl hx hs (K := fun a => w.cell? (Addr.add (Addr.add a (k * s)) j) = (f x)[j]?) fun a _ hc => hc j hj
  obtain ⟨a, ha, hb⟩ := dr_of this
  cases ha
  unfold bnd at hb
  exact hb.2
theorem B_app (a b : Lt) : B a ++ B b = B (a ++ b) := by
  apply ByteArray.ext
  simp [B]
def Rep : Prop := ∀ (n : Nat), n ≤ 1 → ∀ (w : World) (K : Value → World → Prop), (∀ w', Ext no w w' → K (.string (B (List.replicate n 98))) w') → cl Tryz.prog 209 #[.string ⟨#[98]⟩, i6 (n : Int)] w K
theorem means_k (hR : Rep) {L : Nat} {I : Is} {x : Fs} (hL : Lk w L I x) (hT : TyOK I) (hP : PlainAt w) {i : Ins} (hi : InsK i)
    (hK : ∀ w', Ext no w w' → K (.tuple #[.string (B (meansM I.im x.f i).1), .string (B (meansM I.im x.f i).2.1), .bool (meansM I.im x.f i).2.2]) w') : clz Z Tryz.prog 157 #[.pointer (some ⟨L, 0, none⟩), .agg #[i6 i.op, i6 i.a, i6 i.b]] w K := by
  have fin : ∀ {tk pu : Lt} {ok : Bool} {w' : World}, meansM I.im x.f i = (tk, pu, ok) → Ext no w w' → K (.tuple #[.string (B tk), .string (B pu), .bool ok]) w' := by
    intro tk pu ok w' e hx
    have := hK w' hx
    rw [e] at this
    exact this
  clear hK
  have hfn := hT.fn x hL.mem
  apply F157_calls
  unfold F157
  refine (Hs.start w).nw fun r w1 h => ?_
  repeat first|refine sp ?_|refine cond_t rfl ?_|refine cond_f rfl ?_|refine asT_i rfl rfl ?_|refine asA_i rfl rfl ?_|refine h.l rfl ?_|refine h.hd rfl ?_|(refine h.sb rfl rfl ?_;clear h;intro _ h)|(refine h.dw ?_;clear h;intro _ h)
  refine cond_op (fun e1 => ?_) fun n1 => ?_
  · refine jh (w0 := w) (Rs := [bk 81 r [i6 i.op, i6 i.a, i6 i.b]]) (B := decide (i.b = 1 ∨ i.b = 2 ∨ (i.b = 3 ∧ (i.a = 0 ∨ i.a = 1)) ∨ (i.b = 4 ∧ i.a = 0))) (fun w2 h => ?_) fun J hJ => ?_
    · repeat first|refine sp ?_|refine cond_t rfl ?_|refine cond_f rfl ?_|refine asT_i rfl rfl ?_|refine asA_i rfl rfl ?_|refine h.l rfl ?_|refine h.hd rfl ?_|(refine h.sb rfl rfl ?_;clear h;intro _ h)|(refine h.dw ?_;clear h;intro _ h)
      exact row1_k hi.b.1 hi.b.2 h fun w3 h => sp (fin (by unfold meansM; rw [if_pos e1]) h.ext)
    · repeat first|refine sp ?_|refine cond_t rfl ?_|refine cond_f rfl ?_|refine asT_i rfl rfl ?_|refine asA_i rfl rfl ?_|refine h.l rfl ?_|refine h.hd rfl ?_|(refine h.sb rfl rfl ?_;clear h;intro _ h)|(refine h.dw ?_;clear h;intro _ h)
      refine cond_op (fun e => hJ _ _ (by simp [e]) h) fun e2 => ?_
      repeat first|refine sp ?_|refine cond_t rfl ?_|refine cond_f rfl ?_|refine asT_i rfl rfl ?_|refine asA_i rfl rfl ?_|refine h.l rfl ?_|refine h.hd rfl ?_|(refine h.sb rfl rfl ?_;clear h;intro _ h)|(refine h.dw ?_;clear h;intro _ h)
      refine cond_op (fun e => hJ _ _ (by simp [e]) h) fun e3 => ?_
      repeat first|refine sp ?_|refine cond_t rfl ?_|refine cond_f rfl ?_|refine asT_i rfl rfl ?_|refine asA_i rfl rfl ?_|refine h.l rfl ?_|refine h.hd rfl ?_|(refine h.sb rfl rfl ?_;clear h;intro _ h)|(refine h.dw ?_;clear h;intro _ h)
      have last : ∀ {w2 : World}, Hs w w2 [bk 81 r [i6 i.op, i6 i.a, i6 i.b]] → ¬ (i.b = 3 ∧ (i.a = 0 ∨ i.a = 1)) → ld w2 (Addr.add ⟨r, 0, none⟩ 2) fun v => asI .i64 v fun x => cond (x == (4 : Int)) (ld w2 (Addr.add ⟨r, 0, none⟩ 1) fun v => asI .i64 v fun x => J [.bool (x == (0 : Int))] w2) (J [.bool false] w2) := by
        intro w2 h hn
        repeat first|refine sp ?_|refine cond_t rfl ?_|refine cond_f rfl ?_|refine asT_i rfl rfl ?_|refine asA_i rfl rfl ?_|refine h.l rfl ?_|refine h.hd rfl ?_|(refine h.sb rfl rfl ?_;clear h;intro _ h)|(refine h.dw ?_;clear h;intro _ h)
        refine cond_op (fun e => ?_) fun e => hJ _ _ (by simp [e2, e3, e]; omega) h
        repeat first|refine sp ?_|refine cond_t rfl ?_|refine cond_f rfl ?_|refine asT_i rfl rfl ?_|refine asA_i rfl rfl ?_|refine h.l rfl ?_|refine h.hd rfl ?_|(refine h.sb rfl rfl ?_;clear h;intro _ h)|(refine h.dw ?_;clear h;intro _ h)
        refine hJ _ _ ?_ h
        rw [Bool.eq_iff_iff]
        simp [e]
      refine cond_op (fun e => ?_) fun e => last h (by omega)
      repeat first|refine sp ?_|refine cond_t rfl ?_|refine cond_f rfl ?_|refine asT_i rfl rfl ?_|refine asA_i rfl rfl ?_|refine h.l rfl ?_|refine h.hd rfl ?_|(refine h.sb rfl rfl ?_;clear h;intro _ h)|(refine h.dw ?_;clear h;intro _ h)
      rw [andNot1 hi.a]
      refine cond_split (fun ha => hJ _ _ (by have := of_decide_eq_true ha; simp [e, this]) h) fun ha => last h ?_
      have := of_decide_eq_false ha
      omega
  refine jh (w0 := w) (Rs := [bk 81 r [i6 i.op, i6 i.a, i6 i.b]]) (B := decide (i.op = 2 ∨ i.op = 3)) (fun w2 h => ?_) fun J hJ => ?_
  rotate_left
  · refine cond_op (fun e => hJ _ _ (by simp [e]) h) fun e => hJ _ _ (by rw [Bool.eq_iff_iff]; simp [e]) h
  refine sp (cond_split (fun h23 => ?_) fun h23 => ?_)
  · have h23 := of_decide_eq_true h23
    have e0 : meansM I.im x.f i = if i.a < 0 ∨ i.a ≥ x.f.loc.length then ([], [], false) else let t := [l5 (x.f.loc.getD i.a.toNat 0)]; if i.op = 3 then (t, [], decide (i.b = 0)) else ([], t, decide (i.b = 0)) := by
      unfold meansM; rw [if_neg n1, if_pos h23]
    refine jh (w0 := w) (Rs := [bk 81 r [i6 i.op, i6 i.a, i6 i.b]]) (B := decide (i.a < 0 ∨ i.a ≥ x.f.loc.length)) (fun w3 h => ?_) fun J hJ => ?_
    rotate_left
    · repeat first|refine sp ?_|refine cond_t rfl ?_|refine cond_f rfl ?_|refine asT_i rfl rfl ?_|refine asA_i rfl rfl ?_|refine h.l rfl ?_|refine h.hd rfl ?_|(refine h.sb rfl rfl ?_;clear h;intro _ h)|(refine h.dw ?_;clear h;intro _ h)
      refine cond_split (fun e => hJ _ _ (by have := of_decide_eq_true e; simp [this]) h) fun e => ?_
      have e := of_decide_eq_false e
      repeat first|refine sp ?_|refine cond_t rfl ?_|refine cond_f rfl ?_|refine asT_i rfl rfl ?_|refine asA_i rfl rfl ?_|refine h.l rfl ?_|refine h.hd rfl ?_|(refine h.sb rfl rfl ?_;clear h;intro _ h)|(refine h.dw ?_;clear h;intro _ h)|refine ld_mk (h.oc hL.cloc) ?_
      exact hJ _ _ (by rw [Bool.eq_iff_iff]; simp; omega) h
    refine sp (cond_split (fun hb => ?_) fun hb => ?_)
    · have hb := of_decide_eq_true hb
      exact fin (by rw [e0, if_pos hb]) h.ext
    · have hb := of_decide_eq_false hb
      rw [if_neg hb] at e0
      have hkl : i.a.toNat < x.f.loc.length := by omega
      have hg : x.f.loc.getD i.a.toNat 0 = x.f.loc[i.a.toNat] := by simp [hkl]
      have ht := hfn.2.2 x.f.loc[i.a.toNat] (List.getElem_mem hkl)
      rw [← hg] at ht
      generalize x.f.loc.getD i.a.toNat 0 = t at ht e0 hg
      repeat first|refine sp ?_|refine cond_t rfl ?_|refine cond_f rfl ?_|refine asT_i rfl rfl ?_|refine asA_i rfl rfl ?_|refine h.l rfl ?_|refine h.hd rfl ?_|(refine h.sb rfl rfl ?_;clear h;intro _ h)|(refine h.dw ?_;clear h;intro _ h)|refine ld_mk (h.oc hL.cloc) ?_
      refine Reads.atz (h.old (hL.at'.each x hL.mem).loc) rfl (by omega) (by omega) (sp ?_)
      rw [show x.f.loc.getD i.a.toNat 0 = t by rw [hg]; simp [hkl]]
      refine h.nw fun r2 w4 h => ?_
      have hr2 := h.rd (r := bk 3 r2 [i6 t]) List.mem_cons_self
      repeat first|refine sp ?_|refine cond_t rfl ?_|refine cond_f rfl ?_|refine asT_i rfl rfl ?_|refine asA_i rfl rfl ?_|refine h.l rfl ?_|refine h.hd rfl ?_|(refine h.sb rfl rfl ?_;clear h;intro _ h)|(refine h.dw ?_;clear h;intro _ h)|refine hd_i (h.oc hL.cloc) ?_
      refine row_k (l := [t]) hr2 rfl (by decide) (by intro u hu; rw [List.mem_singleton.1 hu]; exact ht) fun w5 hx => ?_
      replace h := h.to hx
      repeat first|refine sp ?_|refine cond_t rfl ?_|refine cond_f rfl ?_|refine asT_i rfl rfl ?_|refine asA_i rfl rfl ?_|refine h.l rfl ?_|refine h.hd rfl ?_|(refine h.sb rfl rfl ?_;clear h;intro _ h)|(refine h.dw ?_;clear h;intro _ h)|refine hd_i (h.oc hL.cloc) ?_
      refine cond_op (fun e3 => fin (by rw [e0]; simp only [if_pos e3]; rfl) h.ext) fun e3 => fin (by rw [e0]; simp only [if_neg e3]; rfl) h.ext
  have h23 := of_decide_eq_false h23
  have jt : ∀ {tk pu : Lt} {ok : Bool} {Q : List Value → World → Prop} {T : (List Value → World → Prop) → Prop}, meansM I.im x.f i = (tk, pu, ok) →
      (∀ w', Hs w w' [bk 81 r [i6 i.op, i6 i.a, i6 i.b]] → Q [.string (B tk), .string (B pu), .bool ok] w' ) → (∀ J : List Value → World → Prop, (∀ b w', b = ok → Hs w w' [bk 81 r [i6 i.op, i6 i.a, i6 i.b]] → J [.string (B tk), .string (B pu), .bool b] w') → T J) → jn Q T := by
    intro tk pu ok Q T _ hQ hB
    exact jn_of (fun s w' => s = [.string (B tk), .string (B pu), .bool ok] ∧ Hs w w' [bk 81 r [i6 i.op, i6 i.a, i6 i.b]]) (fun s w' ⟨h1, h2⟩ => by subst h1; exact hQ _ h2) fun J hJ => hB J fun b w' hb h => hJ _ _ ⟨by rw [hb], h⟩
  have em : ∀ (l : Lt), (!(ByteArray.toList (B l) == ByteArray.toList (⟨#[]⟩ : ByteArray))) = !l.isEmpty := fun l => by
    have := beq_B l []
    rw [show (B [] : ByteArray) = ⟨#[]⟩ from rfl] at this
    rw [this]
    cases l <;> rfl
  refine cond_op (fun e4 => ?_) fun n4 => ?_
  · have e0 : meansM I.im x.f i = ([], globL I.im i.a false, decide (i.b = 0) && !(globL I.im i.a false).isEmpty) := by
      unfold meansM; rw [if_neg n1, if_neg h23, if_pos e4]
    repeat first|refine sp ?_|refine cond_t rfl ?_|refine cond_f rfl ?_|refine asT_i rfl rfl ?_|refine asA_i rfl rfl ?_|refine h.l rfl ?_|refine h.hd rfl ?_|(refine h.sb rfl rfl ?_;clear h;intro _ h)|(refine h.dw ?_;clear h;intro _ h)
    refine globs_k (hL.ext h.ext) hT fun w3 hx => sp ?_
    replace h := h.to hx
    refine jt e0 (fun w' h => sp (sp (sp (fin e0 h.ext)))) fun J hJ => cond_op (fun eb => hJ _ _ ?_ h) fun eb => hJ _ _ ?_ h
    · rw [em]; simp [eb]
    · simp [eb]
  refine cond_op (fun e5 => ?_) fun n5 => ?_
  · have e0 : meansM I.im x.f i = (globL I.im i.a false, [], decide (i.b = 0) && !(globL I.im i.a false).isEmpty) := by
      unfold meansM; rw [if_neg n1, if_neg h23, if_neg n4, if_pos e5]
    repeat first|refine sp ?_|refine cond_t rfl ?_|refine cond_f rfl ?_|refine asT_i rfl rfl ?_|refine asA_i rfl rfl ?_|refine h.l rfl ?_|refine h.hd rfl ?_|(refine h.sb rfl rfl ?_;clear h;intro _ h)|(refine h.dw ?_;clear h;intro _ h)
    refine globs_k (hL.ext h.ext) hT fun w3 hx => sp ?_
    replace h := h.to hx
    refine jt e0 (fun w' h => sp (sp (sp (fin e0 h.ext)))) fun J hJ => cond_op (fun eb => hJ _ _ ?_ h) fun eb => hJ _ _ ?_ h
    · rw [em]; simp [eb]
    · simp [eb]
  refine cond_op (fun e6 => ?_) fun n6 => ?_
  · have e0 : meansM I.im x.f i = ([105], globL I.im i.a true, decide (i.b = 0) && !(globL I.im i.a true).isEmpty) := by
      unfold meansM; rw [if_neg n1, if_neg h23, if_neg n4, if_neg n5, if_pos e6]
    repeat first|refine sp ?_|refine cond_t rfl ?_|refine cond_f rfl ?_|refine asT_i rfl rfl ?_|refine asA_i rfl rfl ?_|refine h.l rfl ?_|refine h.hd rfl ?_|(refine h.sb rfl rfl ?_;clear h;intro _ h)|(refine h.dw ?_;clear h;intro _ h)
    refine globs_k (hL.ext h.ext) hT fun w3 hx => sp ?_
    replace h := h.to hx
    refine jt e0 (fun w' h => sp (sp (sp (fin e0 h.ext)))) fun J hJ => cond_op (fun eb => hJ _ _ ?_ h) fun eb => hJ _ _ ?_ h
    · rw [em]; simp [eb]
    · simp [eb]
  refine cond_op (fun e7 => ?_) fun n7 => ?_
  · have e0 : meansM I.im x.f i = (105 :: globL I.im i.a true, [], decide (i.b = 0) && !(globL I.im i.a true).isEmpty) := by
      unfold meansM; rw [if_neg n1, if_neg h23, if_neg n4, if_neg n5, if_neg n6, if_pos e7]
    repeat first|refine sp ?_|refine cond_t rfl ?_|refine cond_f rfl ?_|refine asT_i rfl rfl ?_|refine asA_i rfl rfl ?_|refine h.l rfl ?_|refine h.hd rfl ?_|(refine h.sb rfl rfl ?_;clear h;intro _ h)|(refine h.dw ?_;clear h;intro _ h)
    refine globs_k (hL.ext h.ext) hT fun w3 hx => sp ?_
    replace h := h.to hx
    refine jt e0 (fun w' h => sp (sp (sp (fin e0 h.ext)))) fun J hJ => ?_
    refine rn_mk (v := .string (B (105 :: globL I.im i.a true))) (w' := w3) ?_ (sp (cond_op (fun eb => hJ _ _ ?_ h) fun eb => hJ _ _ ?_ h))
    · have := run_string_add_sum (P := Tryz.prog) w3 (B [105]) (B (globL I.im i.a true)) (by
        have hl : (globL I.im i.a true).length ≤ 1 := by
          unfold globL
          split
          · simp
          · split
            · split <;> simp
            · simp
        have h1 : (B [105]).size = 1 := rfl
        have h2 : (B (globL I.im i.a true)).size = (globL I.im i.a true).length := by simp [B, ByteArray.size]
        omega)
      rw [B_app] at this
      exact this
    · rw [em]; simp [eb]
    · simp [eb]
  refine jh (w0 := w) (Rs := [bk 81 r [i6 i.op, i6 i.a, i6 i.b]]) (B := decide (i.op = 28 ∨ i.op = 29)) (fun w2 h => ?_) fun J hJ => ?_
  rotate_left
  · refine cond_op (fun e => hJ _ _ (by simp [e]) h) fun e => hJ _ _ (by rw [Bool.eq_iff_iff]; simp [e]) h
  refine sp (cond_split (fun h89 => ?_) fun h89 => ?_)
  · have h89 := of_decide_eq_true h89
    have e0 : meansM I.im x.f i = (List.replicate (i.op - 28).toNat 98, [], decide (i.b = 0) && decide (0 ≤ i.a ∧ i.a < x.f.code.length)) := by
      unfold meansM
      rw [if_neg n1, if_neg h23, if_neg n4, if_neg n5, if_neg n6, if_neg n7]
      rcases h89 with e | e
      · rw [if_pos e, e]; rfl
      · rw [if_neg (by omega), if_pos e, e]; rfl
    repeat first|refine sp ?_|refine cond_t rfl ?_|refine cond_f rfl ?_|refine asT_i rfl rfl ?_|refine asA_i rfl rfl ?_|refine h.l rfl ?_|refine h.hd rfl ?_|(refine h.sb rfl rfl ?_;clear h;intro _ h)|(refine h.dw ?_;clear h;intro _ h)
    have eo : IntKind.wrap .i64 (i.op - 28) = ((i.op - 28).toNat : Int) := by rw [wr64 (by omega) (by omega)]; omega
    rw [eo]
    refine hR _ (by omega) _ _ fun w3 hx => sp ?_
    replace h := h.to hx
    refine jt e0 (fun w' h => sp (sp (sp (fin e0 h.ext)))) fun J hJ => ?_
    repeat first|refine sp ?_|refine cond_t rfl ?_|refine cond_f rfl ?_|refine asT_i rfl rfl ?_|refine asA_i rfl rfl ?_|refine h.l rfl ?_|refine h.hd rfl ?_|(refine h.sb rfl rfl ?_;clear h;intro _ h)|(refine h.dw ?_;clear h;intro _ h)
    refine cond_op (fun eb => ?_) fun eb => hJ _ _ (by simp [eb]) h
    repeat first|refine sp ?_|refine cond_t rfl ?_|refine cond_f rfl ?_|refine asT_i rfl rfl ?_|refine asA_i rfl rfl ?_|refine h.l rfl ?_|refine h.hd rfl ?_|(refine h.sb rfl rfl ?_;clear h;intro _ h)|(refine h.dw ?_;clear h;intro _ h)
    refine cond_split (fun ha => ?_) fun ha => hJ _ _ (by have := of_decide_eq_false ha; rw [Bool.eq_iff_iff]; simp; omega) h
    repeat first|refine sp ?_|refine cond_t rfl ?_|refine cond_f rfl ?_|refine asT_i rfl rfl ?_|refine asA_i rfl rfl ?_|refine h.l rfl ?_|refine h.hd rfl ?_|(refine h.sb rfl rfl ?_;clear h;intro _ h)|(refine h.dw ?_;clear h;intro _ h)|refine ld_mk (h.oc hL.ccode) ?_
    have := of_decide_eq_true ha
    exact hJ _ _ (by rw [Bool.eq_iff_iff]; simp; omega) h
  have h89 := of_decide_eq_false h89
  refine cond_op (fun e30 => ?_) fun n30 => ?_
  · have e0 : meansM I.im x.f i = if i.a < 0 ∨ i.a ≥ I.im.fn.length then ([], [], false) else (rowL (I.im.fn.getD i.a.toNat ⟨[], 0, [], []⟩).par, resL (I.im.fn.getD i.a.toNat ⟨[], 0, [], []⟩).res, decide (i.b = 0)) := by
      unfold meansM
      rw [if_neg n1, if_neg h23, if_neg n4, if_neg n5, if_neg n6, if_neg n7, if_neg (by omega), if_neg (by omega), if_pos e30]
    have efl : I.im.fn.length = I.fs.length := by simp [Is.im]
    rw [efl] at e0
    refine jh (w0 := w) (Rs := [bk 81 r [i6 i.op, i6 i.a, i6 i.b]]) (B := decide (i.a < 0 ∨ i.a ≥ I.fs.length)) (fun w3 h => ?_) fun J hJ => ?_
    rotate_left
    · repeat first|refine sp ?_|refine cond_t rfl ?_|refine cond_f rfl ?_|refine asT_i rfl rfl ?_|refine asA_i rfl rfl ?_|refine h.l rfl ?_|refine h.hd rfl ?_|(refine h.sb rfl rfl ?_;clear h;intro _ h)|(refine h.dw ?_;clear h;intro _ h)
      refine cond_split (fun e => hJ _ _ (by have := of_decide_eq_true e; simp [this]) h) fun e => ?_
      have e := of_decide_eq_false e
      repeat first|refine sp ?_|refine cond_t rfl ?_|refine cond_f rfl ?_|refine asT_i rfl rfl ?_|refine asA_i rfl rfl ?_|refine h.l rfl ?_|refine h.hd rfl ?_|(refine h.sb rfl rfl ?_;clear h;intro _ h)|(refine h.dw ?_;clear h;intro _ h)|refine ld_mk (h.oc hL.cfs) ?_
      exact hJ _ _ (by rw [Bool.eq_iff_iff]; simp; omega) h
    refine sp (cond_split (fun hb => ?_) fun hb => ?_)
    · have hb := of_decide_eq_true hb
      exact fin (by rw [e0, if_pos hb]) h.ext
    have hb := of_decide_eq_false hb
    rw [if_neg hb] at e0
    have hkl : i.a.toNat < I.fs.length := by omega
    have hg : I.im.fn.getD i.a.toNat ⟨[], 0, [], []⟩ = I.fs[i.a.toNat].f := by simp [Is.im, hkl]
    rw [hg] at e0
    have hmem := List.getElem_mem hkl
    have hy := List.getElem?_eq_getElem hkl
    generalize I.fs[i.a.toNat] = y at e0 hmem hy
    clear hg
    have hty := hT.fn y hmem
    have hly := (hT.len y hmem).1
    repeat first|refine sp ?_|refine cond_t rfl ?_|refine cond_f rfl ?_|refine asT_i rfl rfl ?_|refine asA_i rfl rfl ?_|refine h.l rfl ?_|refine h.hd rfl ?_|(refine h.sb rfl rfl ?_;clear h;intro _ h)|(refine h.dw ?_;clear h;intro _ h)|refine ld_mk (h.oc hL.cfs) ?_
    refine Reads.atNz fsC_len hL.at'.fn rfl (by omega) hy (by decide) fun ad _ hc => ?_
    have c0 : w.cell? (Addr.add ad (i.a.toNat * 5)) = some (.string y.nm) := hc 0 (by decide)
    have c1 : w.cell? (Addr.add (Addr.add ad (i.a.toNat * 5)) 1) = some (.slice y.pp y.f.par.length y.pc) := hc 1 (by decide)
    have c2 : w.cell? (Addr.add (Addr.add ad (i.a.toNat * 5)) 2) = some (i6 y.f.res) := hc 2 (by decide)
    have c3 : w.cell? (Addr.add (Addr.add ad (i.a.toNat * 5)) 3) = some (.slice y.lp y.f.loc.length y.lc) := hc 3 (by decide)
    have c4 : w.cell? (Addr.add (Addr.add ad (i.a.toNat * 5)) 4) = some (.slice y.cp y.f.code.length y.cc) := hc 4 (by decide)
    repeat first|refine sp ?_|refine cond_t rfl ?_|refine cond_f rfl ?_|refine asT_i rfl rfl ?_|refine asA_i rfl rfl ?_|refine h.l rfl ?_|refine h.hd rfl ?_|(refine h.sb rfl rfl ?_;clear h;intro _ h)|(refine h.dw ?_;clear h;intro _ h)|refine ld_mk (h.oc c0) ?_|refine ld_mk (h.oc c1) ?_|refine ld_mk (h.oc c2) ?_|refine ld_mk (h.oc c3) ?_|refine ld_mk (h.oc c4) ?_
    refine h.nw fun r2 w4 h => ?_
    repeat first|refine sp ?_|refine cond_t rfl ?_|refine cond_f rfl ?_|refine asT_i rfl rfl ?_|refine asA_i rfl rfl ?_|refine h.l rfl ?_|refine h.hd rfl ?_|(refine h.sb rfl rfl ?_;clear h;intro _ h)|(refine h.dw ?_;clear h;intro _ h)|refine hd_i (h.oc c0) ?_|refine hd_i (h.oc c1) ?_|refine hd_i (h.oc c2) ?_|refine hd_i (h.oc c3) ?_|refine hd_i (h.oc c4) ?_|refine hd_i (h.oc hL.cfs) ?_
    refine row_k (h.old (hL.at'.each y hmem).par) rfl (by omega) hty.1 fun w5 hx => ?_
    replace h := h.to hx
    repeat first|refine sp ?_|refine cond_t rfl ?_|refine cond_f rfl ?_|refine asT_i rfl rfl ?_|refine asA_i rfl rfl ?_|refine h.l rfl ?_|refine h.hd rfl ?_|(refine h.sb rfl rfl ?_;clear h;intro _ h)|(refine h.dw ?_;clear h;intro _ h)
    refine result_k hty.2.1.1 hty.2.1.2 fun w6 hx => ?_
    replace h := h.to hx
    repeat first|refine sp ?_|refine cond_t rfl ?_|refine cond_f rfl ?_|refine asT_i rfl rfl ?_|refine asA_i rfl rfl ?_|refine h.l rfl ?_|refine h.hd rfl ?_|(refine h.sb rfl rfl ?_;clear h;intro _ h)|(refine h.dw ?_;clear h;intro _ h)
    exact fin (by rw [e0]; congr 2) h.ext
  refine cond_op (fun e31 => ?_) fun n31 => ?_
  · have e0 : meansM I.im x.f i = if i.a < 0 ∨ i.a ≥ 16 then ([], [], false) else (rowL (sysL.getD i.a.toNat ([], 0)).1, resL (sysL.getD i.a.toNat ([], 0)).2, decide (i.b = 0)) := by
      unfold meansM
      rw [if_neg n1, if_neg h23, if_neg n4, if_neg n5, if_neg n6, if_neg n7, if_neg (by omega), if_neg (by omega), if_neg n30, if_pos e31]
    refine calls_k fun cs CR cp w3 hsys hlen hCR hcs => sp ?_
    replace h : Hs w w3 (bk 81 r [i6 i.op, i6 i.a, i6 i.b] :: CR) := (h.over hCR).perm (List.perm_append_comm (l₁ := [_]))
    have hat : ∀ {w' : World}, Hs w w' (bk 81 r [i6 i.op, i6 i.a, i6 i.b] :: CR) → CsAt w' (some ⟨cp, 0, none⟩) cs := fun h => hcs _ fun r hr => RowN.mono (h.row r (List.mem_cons_of_mem _ hr)) (Nat.zero_le _)
    refine jh (w0 := w) (Rs := bk 81 r [i6 i.op, i6 i.a, i6 i.b] :: CR) (B := decide (i.a < 0 ∨ i.a ≥ 16)) (fun w4 h => ?_) fun J hJ => ?_
    rotate_left
    · repeat first|refine sp ?_|refine cond_t rfl ?_|refine cond_f rfl ?_|refine asT_i rfl rfl ?_|refine asA_i rfl rfl ?_|refine h.l rfl ?_|refine h.hd rfl ?_|(refine h.sb rfl rfl ?_;clear h;intro _ h)|(refine h.dw ?_;clear h;intro _ h)
      refine cond_split (fun e => hJ _ _ (by have := of_decide_eq_true e; simp [this]) h) fun e => ?_
      have e := of_decide_eq_false e
      repeat first|refine sp ?_|refine cond_t rfl ?_|refine cond_f rfl ?_|refine asT_i rfl rfl ?_|refine asA_i rfl rfl ?_|refine h.l rfl ?_|refine h.hd rfl ?_|(refine h.sb rfl rfl ?_;clear h;intro _ h)|(refine h.dw ?_;clear h;intro _ h)
      exact hJ _ _ (by rw [Bool.eq_iff_iff]; simp; omega) h
    refine sp (cond_split (fun hb => ?_) fun hb => ?_)
    · have hb := of_decide_eq_true hb
      exact fin (by rw [e0, if_pos hb]) h.ext
    have hb := of_decide_eq_false hb
    rw [if_neg hb] at e0
    have hkl : i.a.toNat < cs.length := by omega
    have hy := List.getElem?_eq_getElem hkl
    have hmem := List.getElem_mem hkl
    have hg : sysL.getD i.a.toNat ([], 0) = (cs[i.a.toNat].par, cs[i.a.toNat].res) := by rw [← hsys]; simp [hkl]
    have hsy : ∀ e ∈ sysL, (∀ t ∈ e.1, 0 ≤ t ∧ t ≤ 4) ∧ 0 ≤ e.2 ∧ e.2 ≤ 4 ∧ e.1.length ≤ 10 := by decide
    have hty := hsy (cs[i.a.toNat].par, cs[i.a.toNat].res) (by rw [← hsys]; exact List.mem_map.2 ⟨_, hmem, rfl⟩)
    rw [hg] at e0
    generalize cs[i.a.toNat] = y at e0 hmem hy hty
    refine h.dw fun w5 h => ?_
    have hA := hat h
    repeat first|refine sp ?_|refine cond_t rfl ?_|refine cond_f rfl ?_|refine asT_i rfl rfl ?_|refine asA_i rfl rfl ?_|refine h.l rfl ?_|refine h.hd rfl ?_|(refine h.sb rfl rfl ?_;clear h;intro _ h)|(refine h.dw ?_;clear h;intro _ h)
    have c1 : w5.cell? (Addr.add (Addr.add ⟨cp, 0, none⟩ (i.a.toNat * 3)) 1) = some (.slice y.p y.par.length y.c) := Reads.cN csC_len hA.rd hy (by decide) (by decide)
    have c3 : w5.cell? (Addr.add (Addr.add ⟨cp, 0, none⟩ (i.a.toNat * 3)) 2) = some (i6 y.res) := Reads.cN csC_len hA.rd hy (by decide) (by decide)
    refine bnd_mk (by omega) (by omega) ?_
    repeat first|refine sp ?_|refine cond_t rfl ?_|refine cond_f rfl ?_|refine asT_i rfl rfl ?_|refine asA_i rfl rfl ?_|refine h.l rfl ?_|refine h.hd rfl ?_|(refine h.sb rfl rfl ?_;clear h;intro _ h)|(refine h.dw ?_;clear h;intro _ h)|refine ld_mk c1 ?_
    refine bnd_mk (by omega) (by omega) ?_
    repeat first|refine sp ?_|refine cond_t rfl ?_|refine cond_f rfl ?_|refine asT_i rfl rfl ?_|refine asA_i rfl rfl ?_|refine h.l rfl ?_|refine h.hd rfl ?_|(refine h.sb rfl rfl ?_;clear h;intro _ h)|(refine h.dw ?_;clear h;intro _ h)|refine ld_mk c3 ?_
    refine row_k (hA.each y hmem) rfl (by have := hty.2.2.2; dsimp only at this; omega) hty.1 fun w6 hx => ?_
    replace h := h.to hx
    repeat first|refine sp ?_|refine cond_t rfl ?_|refine cond_f rfl ?_|refine asT_i rfl rfl ?_|refine asA_i rfl rfl ?_|refine h.l rfl ?_|refine h.hd rfl ?_|(refine h.sb rfl rfl ?_;clear h;intro _ h)|(refine h.dw ?_;clear h;intro _ h)|refine hd_i (hx.cell c3 fun h => h) ?_
    refine result_k hty.2.1 hty.2.2.1 fun w7 hx2 => ?_
    replace h := h.to hx2
    repeat first|refine sp ?_|refine cond_t rfl ?_|refine cond_f rfl ?_|refine asT_i rfl rfl ?_|refine asA_i rfl rfl ?_|refine h.l rfl ?_|refine h.hd rfl ?_|(refine h.sb rfl rfl ?_;clear h;intro _ h)|(refine h.dw ?_;clear h;intro _ h)
    exact fin (by rw [e0]; congr 2) h.ext
  refine cond_op (fun e32 => ?_) fun n32 => ?_
  · have e0 : meansM I.im x.f i = (resL x.f.res, [], decide (i.b = 0) && decide (i.a = 0)) := by
      unfold meansM
      rw [if_neg n1, if_neg h23, if_neg n4, if_neg n5, if_neg n6, if_neg n7, if_neg (by omega), if_neg (by omega), if_neg n30, if_neg n31, if_pos e32]
    refine jt e0 (fun w' h => sp (sp (sp (fin e0 h.ext)))) fun J hJ => ?_
    repeat first|refine sp ?_|refine cond_t rfl ?_|refine cond_f rfl ?_|refine asT_i rfl rfl ?_|refine asA_i rfl rfl ?_|refine h.l rfl ?_|refine h.hd rfl ?_|(refine h.sb rfl rfl ?_;clear h;intro _ h)|(refine h.dw ?_;clear h;intro _ h)|refine ld_mk (h.oc hL.cres) ?_
    refine result_k hfn.2.1.1 hfn.2.1.2 fun w3 hx => sp ?_
    replace h := h.to hx
    refine cond_op (fun eb => ?_) fun eb => hJ _ _ (by simp [eb]) h
    repeat first|refine sp ?_|refine cond_t rfl ?_|refine cond_f rfl ?_|refine asT_i rfl rfl ?_|refine asA_i rfl rfl ?_|refine h.l rfl ?_|refine h.hd rfl ?_|(refine h.sb rfl rfl ?_;clear h;intro _ h)|(refine h.dw ?_;clear h;intro _ h)
    exact hJ _ _ (by rw [Bool.eq_iff_iff]; simp [eb]) h
  · have e0 : meansM I.im x.f i = ((plainV i.op).1, (plainV i.op).2, decide (i.b = 0) && decide (i.a = 0)) := by
      unfold meansM
      rw [if_neg n1, if_neg h23, if_neg n4, if_neg n5, if_neg n6, if_neg n7, if_neg (by omega), if_neg (by omega), if_neg n30, if_neg n31, if_neg n32]
    have hop := hi.op
    have hpl := hP i.op.toNat (by omega)
    rw [show ((i.op.toNat : Nat) : Int) = i.op by omega] at hpl
    refine jt e0 (fun w' h => sp (sp (sp (fin e0 h.ext)))) fun J hJ => ?_
    repeat first|refine sp ?_|refine cond_t rfl ?_|refine cond_f rfl ?_|refine asT_i rfl rfl ?_|refine asA_i rfl rfl ?_|refine h.l rfl ?_|refine h.hd rfl ?_|(refine h.sb rfl rfl ?_;clear h;intro _ h)|(refine h.dw ?_;clear h;intro _ h)
    refine bnd_mk (by omega) (by omega) ?_
    repeat first|refine sp ?_|refine cond_t rfl ?_|refine cond_f rfl ?_|refine asT_i rfl rfl ?_|refine asA_i rfl rfl ?_|refine h.l rfl ?_|refine h.hd rfl ?_|(refine h.sb rfl rfl ?_;clear h;intro _ h)|(refine h.dw ?_;clear h;intro _ h)|refine ld_mk (h.oc hpl.1) ?_
    refine bnd_mk (by omega) (by omega) ?_
    repeat first|refine sp ?_|refine cond_t rfl ?_|refine cond_f rfl ?_|refine asT_i rfl rfl ?_|refine asA_i rfl rfl ?_|refine h.l rfl ?_|refine h.hd rfl ?_|(refine h.sb rfl rfl ?_;clear h;intro _ h)|(refine h.dw ?_;clear h;intro _ h)|refine ld_mk (h.oc hpl.2) ?_
    refine cond_op (fun eb => ?_) fun eb => hJ _ _ (by simp [eb]) h
    repeat first|refine sp ?_|refine cond_t rfl ?_|refine cond_f rfl ?_|refine asT_i rfl rfl ?_|refine asA_i rfl rfl ?_|refine h.l rfl ?_|refine h.hd rfl ?_|(refine h.sb rfl rfl ?_;clear h;intro _ h)|(refine h.dw ?_;clear h;intro _ h)
    exact hJ _ _ (by rw [Bool.eq_iff_iff]; simp [eb]) h
end
end Go.Proofs.YtndbhmmejjhcfaaGreatDoor
namespace Go.Proofs.YtndbhmmejjhcfaaGreatDoor
open Go Go.Sx Go.Cx Go.Proofs
noncomputable section
set_option maxRecDepth 1000000
def isStr (l : List UInt8) (x : Option (AV × AS)) : Bool := match x with
  | some (.lit (.string b), _) => b.data.toList == l
  | _ => false
def rpRun (n : Int) : Option (AV × AS) := runFn Tryz.prog tab 0 3000 40 209 [.lit (.string ⟨#[98]⟩), .lit (.int .i64 n)] (mkS 0 [])
theorem rp0 : isStr [] (rpRun 0) = true := by kernel_rfl
theorem rp1 : isStr [98] (rpRun 1) = true := by kernel_rfl
theorem rel00 (w : World) : Rel (Frm.all w) 0 ⟨id, id⟩ (mkS 0 []) w :=
  ⟨⟨rfl, rfl, rfl, Nat.le_refl _, fun _ _ _ => rfl⟩, fun r hr => rfl, fun r R hr => by have := mkR_get hr; simp at this, fun r R hr => by have := mkR_get hr; simp at this, fun r r' R R' hr => by have := mkR_get hr; simp at this, Nat.le_refl _, Nat.zero_le _⟩
theorem rp_of {n : Int} {l : List UInt8} (h : isStr l (rpRun n) = true) (w : World) : cl Tryz.prog 209 #[.string ⟨#[98]⟩, .int .i64 n] w fun v w' => v = .string (B l) ∧ Ext no w w' := by
  unfold isStr at h
  split at h
  · rename_i b S' hr
    have hb : b = B l := by
      have h := eq_of_beq h
      rcases b with ⟨⟨b⟩⟩
      simp only at h
      rw [h]
      rfl
    subst hb
    obtain ⟨_, k2⟩ := runFn_of tabOk 3000 40 (Frm.all w) 209 [.lit (.string ⟨#[98]⟩), .lit (.int .i64 n)] (mkS 0 []) _ _ hr ⟨id, id⟩ w (rel00 w) rfl
    refine cl_mono k2 ?_
    rintro v w' ⟨y', q1, _, _, _, rfl⟩
    exact ⟨rfl, Frm.all_ext q1.ext⟩
  · cases h
theorem rep : Rep := by
  intro n hn w K hK
  have : n = 0 ∨ n = 1 := by omega
  rcases this with rfl | rfl
  · refine cl_mono (rp_of rp0 w) fun v w' ⟨e, hx⟩ => ?_
    subst e
    exact hK w' hx
  · refine cl_mono (rp_of rp1 w) fun v w' ⟨e, hx⟩ => ?_
    subst e
    exact hK w' hx
end
end Go.Proofs.YtndbhmmejjhcfaaGreatDoor
namespace Go.Proofs.YtndbhmmejjhcfaaGreatDoor
open Go Go.Sx Go.Vp
attribute [local irreducible] jn lv ld st nw asI asB asP asS asY asM asF asA asT lp rn ru rq cl dw dr bnd bn2 nz nn hd hr so eqW
attribute [local irreducible] callOk
theorem B_size (l : Lt) : (B l).size = l.length := by simp [B, ByteArray.size]
theorem B_ext (s : Lt) (i j : Nat) : (B s).extract i j = B ((s.take j).drop i) := by
  apply ByteArray.ext
  rw [ByteArray.data_extract]
  apply Array.ext'
  rw [List.drop_take]
  simp only [B, Array.toList_extract, List.extract_eq_take_drop]
theorem B_at (l : Lt) (i : Nat) : byteAt (B l) (i : Int) = ((l.getD i 0).toNat : Int) := by
  unfold byteAt
  rw [Int.toNat_natCast]
  have : (B l)[i]? = l[i]? := by
    by_cases h : i < l.length
    · rw [getElem?_pos (B l) i (by rw [B_size]; exact h), List.getElem?_eq_getElem h]; rfl
    · rw [getElem?_neg (B l) i (by rw [B_size]; exact h), List.getElem?_eq_none (by omega)]
  rw [this, List.getD_eq_getElem?_getD]
section
variable {w : World} {K : Value → World → Prop}
theorem pref_k {s p : Lt} (hK : K (.bool (s.take p.length == p)) w) : cl Tryz.prog 255 #[.string (B s), .string (B p)] w K := by
  apply F255_calls
  unfold F255
  refine jb (w := w) (B := s.take p.length == p) (sp hK) fun J hJ => cond_split (fun h => ?_) fun h => hJ _ ?_
  · have h := of_decide_eq_true h
    rw [B_size, B_size] at h
    refine bn2_mk (by omega) (by rw [B_size, B_size]; omega) (hJ _ ?_)
    rw [B_size, Int.toNat_natCast, B_ext, List.drop_zero, beq_B]
  · have h := of_decide_eq_false h
    rw [B_size, B_size] at h
    symm
    have : s.take p.length ≠ p := fun e => by
      have := congrArg List.length e
      simp at this
      omega
    simpa using this
theorem ends_k {s tk : Lt} (hs : s.length ≤ 100000) (ht : tk.length ≤ 100000) (hK : ∀ w', Ext no w w' → K (.bool (endsM s tk)) w') : cl Tryz.prog 158 #[.string (B s), .string (B tk)] w K := by
  apply F158_calls
  unfold F158
  rw [B_size, B_size, wr64 (by omega) (by omega)]
  refine sp (cond_split (fun h => ?_) fun h => ?_)
  · have h := of_decide_eq_true h
    have e : endsM s tk = false := by unfold endsM; rw [if_pos (by omega)]
    rw [e] at hK
    exact hK _ (Ext.refl _ _)
  have h := of_decide_eq_false h
  have en : ((s.length : Int) - tk.length) = ((s.length - tk.length : Nat) : Int) := by omega
  rw [en]
  refine bn2_mk (by omega) (by omega) ?_
  simp only [Int.toNat_natCast, B_ext, List.take_length]
  have e0 : endsM s tk = if tk.head? = some 84 then tk.length == 1 || (s.drop (s.length - tk.length)).getD 0 0 == (s.drop (s.length - tk.length)).getD 1 0
      else if tk = [78, 78] then (s.drop (s.length - tk.length)) == [105, 105] || (s.drop (s.length - tk.length)) == [102, 102] else (s.drop (s.length - tk.length)) == tk := by
    unfold endsM; rw [if_neg (by omega)]
  have hgl : (s.drop (s.length - tk.length)).length = tk.length := by simp; omega
  generalize s.drop (s.length - tk.length) = got at e0 hgl
  have hb : ∀ l : Lt, (⟨l.toArray⟩ : ByteArray) = B l := fun _ => rfl
  apply F211_calls
  unfold F211
  refine pref_k (p := [84]) (sp (sp (cond_split (fun h1 => ?_) fun h1 => ?_)))
  · have h1 : tk.head? = some 84 := by
      cases tk with
      | nil => simp at h1
      | cons a r => simp at h1; simp [h1]
    rw [if_pos h1] at e0
    refine jh (w0 := w) (Rs := []) (B := endsM s tk) (fun w' h => sp (hK _ h.ext)) fun J hJ => dw_mk ?_
    have hd := (Hs.start w).to (Ext.drew w)
    refine cond_op (fun e => hJ _ _ ?_ hd) fun e => ?_
    · rw [e0, show (tk.length == 1) = true by simp; omega, Bool.true_or]
    · have h2 : 2 ≤ tk.length := by
        cases tk with
        | nil => simp at h1
        | cons a r => cases r with
          | nil => simp at e
          | cons => simp
      refine bnd_mk (by omega) (by rw [B_size, hgl]; omega) (bnd_mk (by omega) (by rw [B_size, hgl]; omega) (hJ _ _ ?_ hd))
      have b0 := B_at got 0
      have b1 := B_at got 1
      rw [show ((0 : Nat) : Int) = 0 from rfl] at b0
      rw [show ((1 : Nat) : Int) = 1 from rfl] at b1
      rw [b0, b1, e0, show (tk.length == 1) = false by simp; omega, Bool.false_or, Bool.eq_iff_iff]
      simp only [beq_iff_eq]
      constructor
      · intro h
        exact UInt8.toNat_inj.1 (by omega)
      · intro h; rw [h]
  · have h1 : ¬ tk.head? = some 84 := by
      intro e
      cases tk with
      | nil => simp at e
      | cons a r => simp at e; subst e; simp at h1
    rw [if_neg h1] at e0
    refine cond_split (fun h2 => ?_) fun h2 => ?_
    · rw [hb, beq_B] at h2
      rw [if_pos (by simpa using h2)] at e0
      refine jb (w := w) (B := endsM s tk) (sp (hK _ (Ext.refl _ _))) fun J hJ => ?_
      refine cond_split (fun h3 => hJ _ ?_) fun h3 => hJ _ ?_
      · rw [hb, beq_B] at h3
        rw [e0, h3, Bool.true_or]
      · rw [hb, beq_B] at h3
        rw [e0, h3, Bool.false_or, hb, beq_B]
    · rw [hb, beq_B] at h2
      rw [if_neg (by simpa using h2)] at e0
      rw [beq_B, ← e0]
      exact hK _ (Ext.refl _ _)
end
end Go.Proofs.YtndbhmmejjhcfaaGreatDoor
namespace Go.Sx
open Go Go.RowKit
structure Hm (w0 w : World) (Rs : List Rw) (m : Nat) (o : Obj) : Prop where
  hs : Hs w0 w Rs
  blk : w.heap[m]? = some o
  base : w0.heap.size ≤ m
  sep : ∀ r ∈ Rs, ∀ a, r.p = some a → a.block ≠ m
section
variable {w0 w w' : World} {Rs : List Rw} {m : Nat} {o o' : Obj} {r r' : Rw}
theorem Hm.ext (h : Hm w0 w Rs m o) : Ext no w0 w := h.hs.ext
theorem Hm.mlt (h : Hm w0 w Rs m o) : m < w.heap.size := blk_lt h.blk
theorem Hm.to (h : Hm w0 w Rs m o) (hx : Ext no w w') : Hm w0 w' Rs m o := ⟨h.hs.to hx, hx.blk h.blk fun h => h, h.base, h.sep⟩
theorem Hm.dw (h : Hm w0 w Rs m o) {K : World → Prop} (hK : ∀ w', Hm w0 w' Rs m o → K w') : Sx.dw w K := hK w.drew (h.to (Ext.drew w))
theorem Hm.perm (h : Hm w0 w Rs m o) {Rs' : List Rw} (hp : Rs'.Perm Rs) : Hm w0 w Rs' m o := ⟨h.hs.perm hp, h.blk, h.base, fun r hr => h.sep r (hp.subset hr)⟩
theorem Hm.sub (h : Hm w0 w Rs m o) {Rs' : List Rw} (hp : Rs'.Sublist Rs) : Hm w0 w Rs' m o := ⟨h.hs.sub hp, h.blk, h.base, fun r hr => h.sep r (hp.subset hr)⟩
theorem Hm.tail (h : Hm w0 w (r :: Rs) m o) : Hm w0 w Rs m o := h.sub (List.sublist_cons_self _ _)
theorem Hm.old (h : Hm w0 w Rs m o) {p : Option Addr} {xs : List Value} (hr : Reads w0 p xs) : Reads w p xs := h.hs.old hr
theorem Hm.oc (h : Hm w0 w Rs m o) {a : Addr} {v : Value} (hc : w0.cell? a = some v) : w.cell? a = some v := h.hs.oc hc
theorem Hm.rd (h : Hm w0 w Rs m o) (hr : r ∈ Rs) : Reads w r.p r.xs := h.hs.rd hr
theorem Hm.push (h : Hm w0 w Rs m o) (hx : Ext no w w') (hr : r.ok w' w.heap.size) : Hm w0 w' (r :: Rs) m o :=
  ⟨h.hs.push hx hr, hx.blk h.blk fun h => h, h.base, fun b hb a ha => by
    rcases List.mem_cons.1 hb with rfl | hb
    · have h1 := (RowN.at hr ha).1
      have h2 := h.mlt
      omega
    · exact h.sep b hb a ha⟩
theorem Hm.put (h : Hm w0 w Rs m o) {i : Nat} (hi : Rs[i]? = some r) (hx : Ext (blocks r.p) w w') (hr : r'.ok w' w0.heap.size) (hm : Moved w r.p r'.p) : Hm w0 w' (Rs.set i r') m o := by
  have hsep := h.sep r (List.mem_of_getElem? hi)
  refine ⟨h.hs.put hi hx hr hm, hx.blk h.blk fun ⟨a, ha, e⟩ => hsep a ha e, h.base, fun b hb a ha => ?_⟩
  rcases List.mem_or_eq_of_mem_set hb with hb | rfl
  · exact h.sep b hb a ha
  · rcases hm with e | e
    · exact hsep a (by rw [← e]; exact ha)
    · have h1 := e a ha
      have h2 := h.mlt
      omega
theorem Hm.wr (h : Hm w0 w Rs m o) (hx : Ext (onl m) w w') (hb : w'.heap[m]? = some o') : Hm w0 w' Rs m o' :=
  ⟨⟨h.hs.ext.then hx fun k hk e => by have := h.base; cases e; omega, fun r hr => (h.hs.row r hr).ext hx fun a ha e => h.sep r hr a ha e, h.hs.sep⟩, hb, h.base, h.sep⟩
theorem Hm.nwN (h : Hm w0 w Rs m o) {cs : List Value} {t : TypeId} (n s : Nat) (hl : cs.length = n * s) (hn : n ≤ maxLen) {K : Nat → World → Prop}
    (hK : ∀ q w', Hm w0 w' (⟨t, s, some ⟨q, 0, none⟩, n, n, cs⟩ :: Rs) m o → K q w') : nw w (.cells cs.toArray t) K := by
  refine nw_mk (hK _ _ (h.push (Ext.alloc w _) ⟨?_⟩))
  have := World.ownsRow_lit (base := w.heap.size) (e := t) (size := s) w cs.toArray n (Nat.le_refl _) hn (by simpa using hl)
  simpa using this
theorem Hm.nw (h : Hm w0 w Rs m o) {cs : List Value} {t : TypeId} {K : Nat → World → Prop} (hK : ∀ q w', Hm w0 w' (bk t q cs :: Rs) m o → K q w') : Sx.nw w (.cells cs.toArray t) K :=
  h.nwN 1 cs.length (by simp) (by decide) hK
variable {a : Addr} {b j i : Nat} {v : Value} {f : Rw → List Rw} {p : Option Addr} {e : TypeId} {s c n : Nat} {xs : List Value}
theorem Hm.l (h : Hm w0 w Rs m o) [Ad a b j] [Fd Rs (some ⟨b, 0, none⟩) i e s c n xs] (hv : xs[j]? = some v) {K : Value → Prop} (hK : K v) : ld w a K := h.hs.l hv hK
theorem Hm.hd (h : Hm w0 w Rs m o) [Ad a b j] [Fd Rs (some ⟨b, 0, none⟩) i e s c n xs] (hv : xs[j]? = some v) {X : Prop} (hX : X) : Sx.hd w a v X := h.hs.hd hv hX
theorem Hm.sb (h : Hm w0 w Rs m o) [ha : Ad a b j] [hf : Fd Rs (some ⟨b, 0, none⟩) i e s c n xs] [hu : Up Rs i f] (hj : Nat.blt j xs.length = true) (h1 : one v = true) {K : World → Prop}
    (hK : ∀ w', Hm w0 w' (f ⟨e, s, some ⟨b, 0, none⟩, c, n, xs.set j v⟩) m o → K w') : st w a v K := by
  have := RowN.st (h.hs.row _ (List.mem_of_getElem? hf.g)) (j := j) (u := v) (K := K) (by simpa [Nat.blt_eq] using hj) h1 (fun w' hr hx _ => hK w' (hu.e _ ▸ h.put (r' := ⟨e, s, some ⟨b, 0, none⟩, c, n, xs.set j v⟩) hf.g hx hr (.inl rfl))) rfl
  rw [add_mk, Nat.zero_add] at this
  rw [ha.e]
  exact this
variable {P : Program} {t ty : TypeId} {b' : Nat}
theorem Hm.appT (ht : SlN P t e s b') {t' : TypeId} {s' : Nat} {q c' : Nat} {vs : List Value} (h : Hm w0 w (⟨t', s', some ⟨q, 0, none⟩, c', 1, vs⟩ :: Rs) m o) [hf : Fd Rs p i e s c n xs] [hu : Up Rs i f] (hv : vs.length = s) (h1 : ∀ u ∈ vs, one u = true)
    (hn : (n + 1) * b' ≤ 140737488355328) (h63 : n + 1 ≤ maxLen) {K : Value → World → Prop} (hK : ∀ g c'' w', Hm w0 w' (f ⟨e, s, some ⟨g, 0, none⟩, c'', n + 1, xs ++ vs⟩) m o → K (.slice (some ⟨g, 0, none⟩) (n + 1) c'') w') :
    rn P (Builtin.append_ #[t, t] ty #[.slice p n c, .slice (some ⟨q, 0, none⟩) 1 1]) w K :=
  ht.app (h.tail.hs.row _ (List.mem_of_getElem? hf.g)) h.hs.le (h.rd (r := ⟨t', s', some ⟨q, 0, none⟩, c', 1, vs⟩) List.mem_cons_self) (m := 1) (by simpa using hv) (by simp) h1 h63 hn fun p' c'' w' hr hE hmv hp => by
    rcases hr.cases with ⟨h0, _⟩ | ⟨g, _, h0, _⟩
    · have := hp h0; omega
    · subst h0
      exact hK g c'' w' (hu.e _ ▸ h.tail.put (r' := ⟨e, s, some ⟨g, 0, Option.none⟩, c'', n + 1, xs ++ vs⟩) hf.g hE hr hmv)
end
end Go.Sx
namespace Go.Proofs.YtndbhmmejjhcfaaGreatDoor
open Go Go.Sx Go.Vp
attribute [local irreducible] callOk
set_option maxRecDepth 100000
theorem meth214 : ∃ i, Tryz.prog.info? 214 = some i ∧ (∃ m, i.methods.find? (·.name == "Push") = some m ∧ m.path = #[] ∧ m.func = some (349, true)) ∧ (∃ m, i.methods.find? (·.name == "Pop") = some m ∧ m.path = #[] ∧ m.func = some (348, true)) := ⟨_, rfl, ⟨_, rfl, rfl, rfl⟩, ⟨_, rfl, rfl, rfl⟩⟩
theorem und214 : Tryz.prog.underlying 214 = some (.pointer (Tryz.prog.pointee 214)) := rfl
theorem ok349 : callOk Tryz.prog 349 = true := by kernel_rfl
theorem push_inv {a : Addr} {x : Value} {w : World} : (invoke (.fn (.method "Push") #[]) #[.iface 214 (.pointer (some a)), x]).run Tryz.prog w = .ok (.enter 349 #[.pointer (some a), x]) w := by
  obtain ⟨i, hi, ⟨m, hm, hp, hf⟩, _⟩ := meth214
  have hd : 413 + Made.depth = (412 + Made.depth) + 1 := by omega
  have hc := callOk_run ok349 #[.pointer (some a), x] w
  simp [invoke, callMethod]
  rw [hd]
  simp [method, typeInfo, hi, hm, hp, hf, follow, receiverAt, run_underlying und214, Place.get, hc]
theorem ok348 : callOk Tryz.prog 348 = true := by kernel_rfl
theorem ok106 : callOk Tryz.prog 106 = true := by kernel_rfl
theorem ok346 : callOk Tryz.prog 346 = true := by kernel_rfl
theorem ok347 : callOk Tryz.prog 347 = true := by kernel_rfl
theorem pop_inv {a : Addr} {w : World} : (invoke (.fn (.method "Pop") #[]) #[.iface 214 (.pointer (some a))]).run Tryz.prog w = .ok (.enter 348 #[.pointer (some a)]) w := by
  obtain ⟨i, hi, _, ⟨m, hm, hp, hf⟩⟩ := meth214
  have hd : 413 + Made.depth = (412 + Made.depth) + 1 := by omega
  have hc := callOk_run ok348 #[.pointer (some a)] w
  simp [invoke, callMethod]
  rw [hd]
  simp [method, typeInfo, hi, hm, hp, hf, follow, receiverAt, run_underlying und214, Place.get, hc]
theorem meth214b : ∃ i, Tryz.prog.info? 214 = some i ∧ ∀ nk ∈ [("Len", 106), ("Less", 346), ("Swap", 347)], ∃ m s fs f, i.methods.find? (·.name == nk.1) = some m ∧ m.path = #[s] ∧ m.func = some (nk.2, false) ∧ s.deref = true ∧ Tryz.prog.underlying s.struct = some (.struct fs) ∧ fs[s.index]? = some f ∧ f.type = 207 ∧ f.offset = 0 := by
  refine ⟨_, rfl, ?_⟩
  intro nk hnk
  simp only [List.mem_cons, List.not_mem_nil, or_false] at hnk
  rcases hnk with rfl | rfl | rfl <;> exact ⟨_, _, _, _, rfl, rfl, rfl, rfl, rfl, rfl, rfl, rfl⟩
theorem s207 : ∃ j, Tryz.prog.info? 207 = some j ∧ j.size = 1 := ⟨_, rfl, rfl⟩
theorem prom_inv {a : Addr} {w : World} {v : Value} (hl : (loadVar 207 (a.add 0)).run Tryz.prog w = .ok v w) {nm : String} {k : Nat} (hnk : (nm, k) ∈ [("Len", 106), ("Less", 346), ("Swap", 347)]) (hok : callOk Tryz.prog k = true) {xs : Array Value} :
    (invoke (.fn (.method nm) #[]) (#[.iface 214 (.pointer (some a))] ++ xs)).run Tryz.prog w = .ok (.enter k (#[v] ++ xs)) w := by
  obtain ⟨i, hi, hall⟩ := meth214b
  obtain ⟨m, s, fs, f, hm, hp, hf, hdr, hu, hfs, hft, hfo⟩ := hall _ hnk
  obtain ⟨j, hj, hjs⟩ := s207
  have hd : 413 + Made.depth = (412 + Made.depth) + 1 := by omega
  have hc := callOk_run hok (#[v] ++ xs) w
  simp only at hm hf
  have u207 : Tryz.prog.underlying 207 = some (.slice 3) := rfl
  have h0 : (#[Value.iface 214 (.pointer (some a))] ++ xs)[0]? = some (.iface 214 (.pointer (some a))) := by rw [Array.getElem?_append_left (by simp)]; rfl
  simp [invoke, callMethod, h0]
  rw [hd]
  simp [method, typeInfo, hi, hm, hp, hf, follow, hdr, run_underlying hu, hfs, hft, hfo, fieldPlace, sizeOf, hj, hjs, receiverAt, run_underlying u207, Place.get, hc, hl, asAddr]
theorem load207 {a : Addr} {w : World} {v : Value} (h : w.cell? a = some v) : (loadVar 207 a).run Tryz.prog w = .ok v w := by
  have u207 : Tryz.prog.underlying 207 = some (.slice 3) := rfl
  simp [loadVar, isAgg, run_underlying u207, h]
end Go.Proofs.YtndbhmmejjhcfaaGreatDoor
namespace Go.Proofs.YtndbhmmejjhcfaaGreatDoor
open Go Go.Sx Go.Vp
attribute [local irreducible] jn lv ld st nw asI asB asP asS asY asM asF asA asT lp rn ru rq cl dw dr bnd bn2 nz nn hd hr so eqW
attribute [local irreducible] callOk clz clm
def Hq (w0 : World) (L : Nat) (c0 c1 c2 c3 c4 c5 c6 c7 c8 d0 d1 d2 : Value) (Rs : List Rw) (m : Nat) (o : Obj) (l : List Int) (w : World) : Prop :=
  ∃ p c, Hm w0 w (bk 211 L [c0, c1, c2, c3, c4, c5, c6, c7, c8, .slice p l.length c, d0, d1, d2] :: ⟨3, 1, p, c, l.length, iw l⟩ :: Rs) m o
section
variable {w0 w : World} {L : Nat} {c0 c1 c2 c3 c4 c5 c6 c7 c8 d0 d1 d2 : Value} {Rs : List Rw} {m : Nat} {o : Obj} {l : List Int} {Z : List PanicEntry → World → Prop} {K : Value → World → Prop}
abbrev hpv (L : Nat) : Value := .iface 214 (.pointer (some (Addr.add ⟨L, 0, none⟩ 9)))
theorem len_m (h : Hq w0 L c0 c1 c2 c3 c4 c5 c6 c7 c8 d0 d1 d2 Rs m o l w) (hK : K (i6 (l.length : Int)) w) : clm Z Tryz.prog "Len" #[hpv L] w K := by
  obtain ⟨p, c, h⟩ := h
  have hc := h.hs.cel (a := Addr.add (Addr.add ⟨L, 0, none⟩ 9) 0) (v := .slice p l.length c) rfl
  have := prom_inv (xs := #[]) (load207 hc) (nm := "Len") (k := 106) (by simp) ok106
  unfold clm
  refine ⟨_, _, this, ?_⟩
  refine clz_of_cl ?_
  apply F106_calls
  unfold F106
  exact sp (sp hK)
theorem _root_.Go.Sx.Hm.sti {w0 w : World} {Rs : List Rw} {m : Nat} {o : Obj} (h : Hm w0 w Rs m o) {k : Nat} {e : TypeId} {p : Option Addr} {c n : Nat} {xs : List Value} (hk : Rs[k]? = some ⟨e, 1, p, c, n, xs⟩) {i : Int} (h0 : 0 ≤ i) (h1 : i < n) {v : Value} (hv : one v = true) {K : World → Prop}
    (hK : ∀ w', Hm w0 w' (Rs.set k ⟨e, 1, p, c, n, xs.set i.toNat v⟩) m o → K w') : dr p fun a => bnd i n (st w (Addr.add a (Int.toNat i * 1)) v K) := by
  have hr := h.hs.row _ (List.mem_of_getElem? hk)
  have hl : xs.length = n := by have := RowN.len hr; simpa using this
  have hil : i.toNat < xs.length := by omega
  rcases RowN.cases hr with ⟨_, _, h2, _⟩ | ⟨g, cur, hp, _⟩
  · simp only at h2; omega
  · simp only at hp
    subst hp
    refine dr_i (bnd_mk h0 h1 ?_)
    rw [Nat.mul_one]
    exact RowN.st hr (j := i.toNat) hil hv (fun w' hr2 hx _ => hK w' (h.put (r' := ⟨e, 1, some ⟨g, 0, none⟩, c, n, xs.set i.toNat v⟩) hk hx hr2 (.inl rfl))) rfl
theorem less_m (h : Hq w0 L c0 c1 c2 c3 c4 c5 c6 c7 c8 d0 d1 d2 Rs m o l w) {i j : Int} (hi : 0 ≤ i ∧ i < l.length) (hj : 0 ≤ j ∧ j < l.length) (hK : ∀ b w', Hq w0 L c0 c1 c2 c3 c4 c5 c6 c7 c8 d0 d1 d2 Rs m o l w' → K (.bool b) w') : clm Z Tryz.prog "Less" #[hpv L, i6 i, i6 j] w K := by
  obtain ⟨p, c, h⟩ := h
  have hc := h.hs.cel (a := Addr.add (Addr.add ⟨L, 0, none⟩ 9) 0) (v := .slice p l.length c) rfl
  have := prom_inv (xs := #[i6 i, i6 j]) (load207 hc) (nm := "Less") (k := 346) (by simp) ok346
  unfold clm
  refine ⟨_, _, this, ?_⟩
  refine clz_of_cl ?_
  apply F346_calls
  unfold F346
  refine h.dw fun w1 h => ?_
  have hr := h.rd (r := ⟨3, 1, p, c, l.length, iw l⟩) (by simp)
  refine Reads.atz hr rfl hi.1 hi.2 (sp (Reads.atz hr rfl hj.1 hj.2 (sp ?_)))
  exact hK _ _ ⟨p, c, h⟩
theorem swap_m (h : Hq w0 L c0 c1 c2 c3 c4 c5 c6 c7 c8 d0 d1 d2 Rs m o l w) {i j : Int} (hi : 0 ≤ i ∧ i < l.length) (hj : 0 ≤ j ∧ j < l.length)
    (hK : ∀ w', Hq w0 L c0 c1 c2 c3 c4 c5 c6 c7 c8 d0 d1 d2 Rs m o ((l.set i.toNat (l.getD j.toNat 0)).set j.toNat (l.getD i.toNat 0)) w' → K (.tuple #[]) w') : clm Z Tryz.prog "Swap" #[hpv L, i6 i, i6 j] w K := by
  obtain ⟨p, c, h⟩ := h
  have hc := h.hs.cel (a := Addr.add (Addr.add ⟨L, 0, none⟩ 9) 0) (v := .slice p l.length c) rfl
  have := prom_inv (xs := #[i6 i, i6 j]) (load207 hc) (nm := "Swap") (k := 347) (by simp) ok347
  unfold clm
  refine ⟨_, _, this, ?_⟩
  refine clz_of_cl ?_
  apply F347_calls
  unfold F347
  refine h.dw fun w1 h => ?_
  have hr := h.rd (r := ⟨3, 1, p, c, l.length, iw l⟩) (by simp)
  have hset : ∀ (l : List Int) (k : Nat) (x : Int), (iw l).set k (i6 x) = iw (l.set k x) := fun l k x => by simp [iw, iv]
  refine Reads.atz hr rfl hj.1 hj.2 (sp (Reads.atz hr rfl hi.1 hi.2 (sp ?_)))
  refine h.sti (k := 1) rfl hi.1 hi.2 rfl fun w2 h => ?_
  rw [hset] at h
  refine h.sti (k := 1) rfl hj.1 hj.2 rfl fun w3 h => ?_
  rw [hset] at h
  refine hK _ ⟨p, c, ?_⟩
  simpa using h
set_option maxRecDepth 100000 in
theorem sl_so : SlN Tryz.prog 207 3 1 8 := ⟨rfl, ⟨_, _, rfl, rfl, rfl, rfl, rfl⟩, by decide⟩
theorem push_m (h : Hq w0 L c0 c1 c2 c3 c4 c5 c6 c7 c8 d0 d1 d2 Rs m o l w) (hl : l.length ≤ 1000000) {x : Int}
    (hK : ∀ w', Hq w0 L c0 c1 c2 c3 c4 c5 c6 c7 c8 d0 d1 d2 Rs m o (l ++ [x]) w' → K (.tuple #[]) w') : clm Z Tryz.prog "Push" #[hpv L, .iface 3 (i6 x)] w K := by
  obtain ⟨p, c, h⟩ := h
  unfold clm
  refine ⟨_, _, push_inv, ?_⟩
  refine clz_of_cl ?_
  apply F349_calls
  unfold F349
  refine h.dw fun w1 h => ?_
  repeat first|refine sp ?_|refine cond_t rfl ?_|refine cond_f rfl ?_|refine asT_i rfl rfl ?_|refine asA_i rfl rfl ?_|refine h.l rfl ?_|refine h.hd rfl ?_|(refine h.sb rfl rfl ?_;clear h;intro _ h)|(refine h.dw ?_;clear h;intro _ h)
  refine ⟨_, rfl, sp ?_⟩
  refine h.nw fun r w2 h => ?_
  repeat first|refine sp ?_|refine cond_t rfl ?_|refine cond_f rfl ?_|refine asT_i rfl rfl ?_|refine asA_i rfl rfl ?_|refine h.l rfl ?_|refine h.hd rfl ?_|(refine h.sb rfl rfl ?_;clear h;intro _ h)|(refine h.dw ?_;clear h;intro _ h)
  refine h.appT sl_so rfl (by simp [one]) (by omega) (by simp only [maxLen]; omega) fun g c' w3 h => sp ?_
  repeat first|refine sp ?_|refine cond_t rfl ?_|refine cond_f rfl ?_|refine asT_i rfl rfl ?_|refine asA_i rfl rfl ?_|refine h.l rfl ?_|refine h.hd rfl ?_|(refine h.sb rfl rfl ?_;clear h;intro _ h)|(refine h.dw ?_;clear h;intro _ h)
  refine hK _ ⟨some ⟨g, 0, none⟩, c', ?_⟩
  have e : iw (l ++ [x]) = iw l ++ [i6 x] := by simp [iw, iv]
  rw [e, List.length_append]
  exact h
end
end Go.Proofs.YtndbhmmejjhcfaaGreatDoor
