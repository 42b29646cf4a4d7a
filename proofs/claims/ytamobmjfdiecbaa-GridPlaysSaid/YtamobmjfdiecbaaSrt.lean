/- Srt: the keys of a map of one's own, sorted: the kit's contracts over any program laid at this one. Conditions: those of each theorem, on its arguments. -/
import Derived.Shelf.SlIterI.Nil
import Derived.Shelf.SortM.Plain
import Derived.Shelf.SortM.SortNone
import Derived.Ground.GgzProg
import Derived.Ground.SlgmProg
import Derived.Test.YtamobmjfdiecbaaChecked
import Derived.Test.YtamobmjfdiecbaaMp
import Derived.Test.YtamobmjfdiecbaaGrD
namespace Go.Proofs.Ytamobmjfdiecbaa
open Go Go.Sx Go.RowKit Go.Maps Go.Sort Go.Shelf Go.WideElems

shelf_lay_g SlLaysZI.n7 Ggz 7 at Try 54 as keysA
shelf_lay_g SlLaysZI.n6 Ggz 6 at Try 53 as sortedA
shelf_lay_g SlLaysM.n5 Slgm 5 at Try 74 as sortA

theorem sortsA (m : Nat) : AnyZI.SortsIn Try.prog sortedA_ren Fence.wide m :=
  ⟨fun blk off cap ss W hH hblk hsz => callsIn_wide.2 (AnyM.slices_Sort_int sortA blk off cap ss W hH hblk hsz),
   fun p cap W => callsIn_wide.2 (AnyM.slices_Sort_int_none sortA p cap W)⟩

theorem keys_cl {mb : Option Nat} {w : World} {K : Value → World → Prop} (hK : K (.func (.func 75) #[] #[.pointer (some ⟨w.heap.size, 0, none⟩)]) (w.alloc (.cells #[.map mb] 120))) :
    cl Try.prog 54 #[.map mb] w K := by
  have h : CallsIn Fence.wide 5 Try.prog 54 #[.map mb] w fun e w' => e = .returned (.func (.func 75) #[] #[.pointer (some ⟨w.heap.size, 0, none⟩)]) ∧ w' = w.alloc (.cells #[.map mb] 120) :=
    AnyZI.keys_in keysA Fence.wide 5 trivial rfl mb w
  exact (callsIn_wide.1 h).mono fun e w' ⟨he, hw⟩ => ⟨_, he, hw ▸ hK⟩

set_option maxHeartbeats 1000000 in
theorem sorted_cl {H : Type} (b nn : Nat) (D0 : DataW H) (R : Value → Option (DataW H × List MemPlace)) (w : World) (hown : w.ownsMap Try.prog 3 R b nn D0) (hmax : Maps.size D0 ≤ maxLen) (hbytes : Maps.size D0 * 8 ≤ 140737488355328) {K : Value → World → Prop}
    (hK : ∀ v (ss : List Int) w', ss.Perm (intKeys D0) → w'.ownsRow w.heap.size 3 1 v ss.length ((ss.mergeSort (fun x y => decide (x ≤ y))).map encZ) → Ext no w w' → K v w') :
    cl Try.prog 53 #[.func (.func 75) #[] #[.pointer (some ⟨w.heap.size, 0, none⟩)]] (w.alloc (.cells #[.map (some b)] 120)) K := by
  have hbl := hown.lt
  have hseq : SeqGives Fence.wide 2 Try.prog 75 #[.pointer (some ⟨w.heap.size, 0, none⟩)] encZ (fun ss => ss.Perm (intKeys D0)) (Maps.size D0) (w.alloc (.cells #[.map (some b)] 120)) :=
    AnyZI.keys_gives (ρ := keysA_ren) { keysA with } Fence.wide _ trivial rfl (by omega) w.heap.size b nn D0 _ (by simp) (by simp) (by
      obtain ⟨es, clock, hb, Ft, hs, hD⟩ := hown
      exact ⟨es, clock, (Below.heap_alloc _ _ b hbl).trans hb, Ft, hs, hD⟩)
  have cS := AnyZI.sorted_in sortedA Fence.wide 5 trivial trivial trivial trivial rfl (by omega) (sortsA _) (enters_of Try.func74 (by kernel_rfl) rfl) 75 #[.pointer (some ⟨w.heap.size, 0, none⟩)] trivial (enters_of Try.func75 (by kernel_rfl) rfl) _ _ hmax hbytes _ hseq
  change CallsIn _ _ Try.prog 53 _ _ _ at cS
  refine (callsIn_wide.1 cS).mono ?_
  rintro e w' ⟨v, ss, rfl, hS, hrow, hnil, hb⟩
  have hx : Ext no (w.alloc (.cells #[.map (some b)] 120)) w' := ⟨hb.os, hb.tape, hb.output, hb.size, fun k hk _ => hb.block k hk⟩
  exact ⟨v, rfl, hK v ss w' hS (ownsRow_base_a hrow (by simp)) ((Ext.alloc _ _).trans hx)⟩
end Go.Proofs.Ytamobmjfdiecbaa
