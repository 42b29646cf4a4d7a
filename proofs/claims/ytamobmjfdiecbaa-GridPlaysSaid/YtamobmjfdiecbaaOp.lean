/- Op: arguments laid open: what a reading of a slice of numbers, or of bools, says of its places and its length. No condition. -/
import Derived.Test.YtamobmjfdiecbaaSz
import Derived.SizedLaws
import Derived.ChangeSlices
import Derived.Deep.Grids
import Derived.WalkKit
import Derived.ProofKit
import Derived.OpenShut
import Derived.ShutString
import Derived.ChangeOld
import Derived.Below
namespace Go.Sx
open Go Go.ChangeShapes Go.WideShapes Go.ChangeAt Go.RowKit

section
variable {H : Type} {enc : TypeId × Value → H} {P : Program} {W : World} {base : Nat} {t e : TypeId} {k : IntKind} {a : Option Addr} {len cap : Nat} {d : DataW H} {ps : List MemPlace} {ts : List TypeId} {ds : List (DataW H)} {j : Nat}

theorem reads_of {W : World} {x : Addr} {vs : List Value} (h : ∀ (i : Nat) (v : Value), vs[i]? = some v → W.cell? (x.add i) = some v) : Reads W (some x) vs := by
  cases vs with
  | nil => exact .inl rfl
  | cons u us =>
    have h0 := h 0 u rfl
    have hs : x.spot = none := by
      cases hsp : x.spot with
      | none => rfl
      | some s =>
        have : x.add 0 = x := by simp [Addr.add]
        rw [this] at h0
        unfold World.cell? at h0
        split at h0
        · simp [hsp] at h0
        · cases h0
    obtain ⟨b, o, sp⟩ := x
    simp only at hs
    subst hs
    exact .inr ⟨b, o, rfl, fun i v hv => by have := h i v hv; rwa [add_mk] at this⟩

theorem op_ints (hsz : (DataW.weightsEach P ts ds).all (· ≤ reachBytes) = true) (ht : ts[j]? = some t) (hd : ds[j]? = some d) (hu : P.underlying t = some (.slice e)) (he : P.underlying e = some (.int k)) (hc : P.cellsOf e = 1) {B : Nat} (hB : P.bytesOf e = B)
    (h : DataW.Trod enc P W base (fun _ => true) true t (.slice a len cap) d ps) :
    ∃ zs : List Int, Reads W a (iv k zs) ∧ zs.length = len ∧ (∀ n ∈ zs, (Lit.int k n).wf = true) ∧ len * B ≤ 140737488351232 := by
  obtain ⟨fuel, hf⟩ := h
  rcases open_ints hu he hc hf with ⟨hcs, _⟩ | ⟨x, l, c, zs, hcs, _, hl, _, hz, hx, hcell, hwf⟩
  · simp [Value.cells] at hcs
    obtain ⟨rfl, rfl, rfl⟩ := hcs
    exact ⟨[], .inl rfl, rfl, by simp, by simp⟩
  · simp [Value.cells] at hcs
    obtain ⟨rfl, rfl, rfl⟩ := hcs
    obtain ⟨hx, _⟩ := Prod.mk.inj hx
    subst hx
    simp only [if_true] at hz
    have hl2 : len ≤ zs.length := by omega
    refine ⟨zs.take len, reads_of fun i v hv => ?_, by simp; omega, fun n hn => hwf n (List.mem_of_mem_take hn), ?_⟩
    · have hi : i < len := by
        have := (List.getElem?_eq_some_iff.1 hv).1
        simp [iv] at this
        omega
      rw [hcell i (by omega)]
      rw [iv_get (by simp; omega)] at hv
      rw [← hv]
      congr 2
      simp [hi]
    · have z := sized_slice hsz ht hd hu
      rw [hB] at z
      have h1 : (lits (H := H) k (zs.take len)).length + (lits (H := H) k (zs.drop len)).length = zs.length := by
        simp [lits]
        omega
      rw [h1] at z
      exact Nat.le_trans (Nat.mul_le_mul_right _ hl2) z

theorem op_bools (hsz : (DataW.weightsEach P ts ds).all (· ≤ reachBytes) = true) (ht : ts[j]? = some t) (hd : ds[j]? = some d) (hu : P.underlying t = some (.slice e)) (he : P.underlying e = some .bool) (hc : P.cellsOf e = 1) {B : Nat} (hB : P.bytesOf e = B)
    (h : DataW.Trod enc P W base (fun _ => true) true t (.slice a len cap) d ps) :
    ∃ zs : List Bool, Reads W a (tv zs) ∧ zs.length = len ∧ len * B ≤ 140737488351232 := by
  obtain ⟨fuel, hf⟩ := h
  rcases Deep.open_bools hu he hc hf with ⟨hcs, _⟩ | ⟨x, l, c, Bo, hcs, _, hl, _, hx, hcell⟩
  · simp [Value.cells] at hcs
    obtain ⟨rfl, rfl, rfl⟩ := hcs
    exact ⟨[], .inl rfl, rfl, by simp⟩
  · simp [Value.cells] at hcs
    obtain ⟨rfl, rfl, rfl⟩ := hcs
    obtain ⟨hx, _⟩ := Prod.mk.inj hx
    refine ⟨(List.range len).map Bo, reads_of fun i v hv => ?_, by simp, ?_⟩
    · have hi : i < len := by
        have := (List.getElem?_eq_some_iff.1 hv).1
        simp [tv] at this
        omega
      rw [hcell i (by omega)]
      simp [tv, hi] at hv
      rw [← hv]
    · have hx' := hx
      unfold Deep.boolRow at hx'
      subst hx'
      have z := sized_slice hsz ht hd hu
      rw [hB] at z
      refine Nat.le_trans (Nat.mul_le_mul_right _ ?_) z
      simp

/-- how many places a reading of a slice holds -/
def dlen : DataW H → Nat
  | .slice es rs => es.length + rs.length
  | _ => 0

theorem op_dlen (hu : P.underlying t = some (.slice e)) (h : DataW.Trod enc P W base (fun _ => true) true t (.slice a len cap) d ps) : len ≤ dlen d := by
  obtain ⟨fuel, hf⟩ := h
  rcases DataW.trod_slice hu hf with ⟨hcs, _⟩ | ⟨x, l, c, elems, rest, n, _, hcs, hx, _, _, _, hl, _⟩
  · simp [Value.cells] at hcs
    obtain ⟨rfl, rfl, rfl⟩ := hcs
    exact Nat.zero_le _
  · simp [Value.cells] at hcs
    obtain ⟨rfl, rfl, rfl⟩ := hcs
    obtain ⟨hx, _⟩ := Prod.mk.inj hx
    subst hx
    simp [dlen]
    omega

/-- numbers of one byte as natural numbers -/
theorem bytes_of {zs : List Int} (h : ∀ n ∈ zs, (Lit.int .u8 n).wf = true) : ∃ bs : List Nat, iv .u8 zs = bv bs ∧ bs.length = zs.length ∧ ∀ b ∈ bs, b < 256 := by
  refine ⟨zs.map Int.toNat, ?_, by simp, ?_⟩
  · simp only [iv, bv, List.map_map]
    apply List.map_congr_left
    intro n hn
    have := h n hn
    simp only [Lit.wf, Bool.and_eq_true, IntKind.min, IntKind.max, IntKind.bits, IntKind.signed] at this
    simp at this ⊢
    omega
  · intro b hb
    simp only [List.mem_map] at hb
    obtain ⟨n, hn, rfl⟩ := hb
    have := h n hn
    simp only [Lit.wf, Bool.and_eq_true, IntKind.min, IntKind.max, IntKind.bits, IntKind.signed] at this
    simp at this
    omega

theorem i64_of {n : Int} (h : (Lit.int .i64 n).wf = true) : -9223372036854775808 ≤ n ∧ n ≤ 9223372036854775807 := by
  simp only [Lit.wf, Bool.and_eq_true, IntKind.min, IntKind.max, IntKind.bits, IntKind.signed] at h
  simp at h
  omega
end

theorem calls_of_cl {P : Program} {f : FuncId} {args : Array Value} {w : World} (h : cl P f args w fun v w' => v = .bool true ∧ Ext no w w') :
    Calls P f args w fun e w' => e = .returned (.bool true) ∧ Below w.heap.size w w' :=
  Calls.mono h fun e w' ⟨v, he, hv, hx⟩ => ⟨by rw [he, hv], hx.below fun _ _ h => h⟩
end Go.Sx
