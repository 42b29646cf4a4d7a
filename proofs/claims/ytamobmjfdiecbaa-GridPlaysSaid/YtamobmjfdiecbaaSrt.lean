/- Srt: the keys of a map of one's own, sorted: the kit's contracts over any program laid at this one. Conditions: those of each theorem, on its arguments. -/
import Derived.Shelf.SlIterI.Nil
import Derived.Shelf.SortM.Plain
import Derived.Shelf.SortM.SortNone
import Derived.Ground.GgzProg
import Derived.Ground.SlgmProg
import Derived.Test.YtamobmjfdiecbaaChecked
import Derived.Test.YtamobmjfdiecbaaMp
import Derived.Test.YtamobmjfdiecbaaGrD
namespace Go.Proofs.Ytamobmjfdiecbaa
open Go Go.Sx Go.RowKit Go.Maps Go.Sort Go.Shelf Go.WideElems

def keysA_ren : Go.Shelf.Ren := ⟨fun | 7 => 54 | 10 => 75 | n => n, fun | 23 => 120 | 26 => 3 | 3 => 4 | 28 => 123 | 0 => 0 | 27 => 122 | 33 => 107 | 4 => 4 | n => n, fun | n => n⟩
theorem keysA : Go.Proofs.SlLaysZI.n7 Try.prog keysA_ren := {
  mixed := by kernel_rfl
  f7 := ⟨Try.f54.name, by decide, Try.func54.trans (congrArg some (by kernel_rfl))⟩
  f10 := ⟨Try.f75.name, by decide, Try.func75.trans (congrArg some (by kernel_rfl))⟩
  t0 := Try.underlying0
  a0 := Try.isAgg0
  z0 := Try.sizeOf0
  v0 := Try.zeroValue0
  t4 := Try.underlying4
  a4 := Try.isAgg4
  z4 := Try.sizeOf4
  v4 := Try.zeroValue4
  t23 := Try.underlying120
  a23 := Try.isAgg120
  z23 := Try.sizeOf120
  v23 := Try.zeroValue120
  t26 := Try.underlying3
  a26 := Try.isAgg3
  z26 := Try.sizeOf3
  v26 := Try.zeroValue3
  t27 := Try.underlying122
  a27 := Try.isAgg122
  z27 := Try.sizeOf122
  v27 := Try.zeroValue122
  t28 := Try.underlying123
  a28 := Try.isAgg123
  z28 := Try.sizeOf123
  v28 := Try.zeroValue123
  t33 := Try.underlying107
  a33 := Try.isAgg107
  z33 := Try.sizeOf107
  v33 := Try.zeroValue107 }
def sortedA_ren : Go.Shelf.Ren := ⟨fun | 6 => 53 | 8 => 73 | 9 => 74 | 11 => 85 | 13 => 87 | 12 => 86 | 23 => 103 | 24 => 104 | 14 => 94 | 15 => 95 | 16 => 96 | 17 => 97 | 18 => 98 | 19 => 99 | 20 => 100 | 21 => 101 | 22 => 102 | 25 => 107 | 26 => 108 | 27 => 109 | 28 => 110 | 29 => 111 | 30 => 112 | 31 => 114 | n => n, fun | 26 => 3 | 28 => 123 | 24 => 38 | 0 => 0 | 3 => 3 | 37 => 141 | 48 => 154 | 50 => 144 | 4 => 4 | 40 => 148 | 39 => 147 | 45 => 132 | 5 => 5 | 9 => 9 | 51 => 158 | 55 => 162 | 57 => 165 | 58 => 166 | 33 => 107 | n => n, fun | n => n⟩
theorem sortedA : Go.Proofs.SlLaysZI.n6 Try.prog sortedA_ren := {
  mixed := by kernel_rfl
  f6 := ⟨Try.f53.name, by decide, Try.func53.trans (congrArg some (by kernel_rfl))⟩
  f8 := ⟨Try.f73.name, by decide, Try.func73.trans (congrArg some (by kernel_rfl))⟩
  f11 := ⟨Try.f85.name, by decide, Try.func85.trans (congrArg some (by kernel_rfl))⟩
  t0 := Try.underlying0
  a0 := Try.isAgg0
  z0 := Try.sizeOf0
  v0 := Try.zeroValue0
  t24 := Try.underlying38
  a24 := Try.isAgg38
  z24 := Try.sizeOf38
  v24 := Try.zeroValue38
  t26 := Try.underlying3
  a26 := Try.isAgg3
  z26 := Try.sizeOf3
  v26 := Try.zeroValue3
  t28 := Try.underlying123
  a28 := Try.isAgg123
  z28 := Try.sizeOf123
  v28 := Try.zeroValue123
  i26 := by kernel_rfl }
def sortA_ren : Go.Shelf.Ren := ⟨fun | 5 => 74 | 8 => 87 | 7 => 86 | 19 => 103 | 20 => 104 | 10 => 94 | 11 => 95 | 12 => 96 | 13 => 97 | 14 => 98 | 15 => 99 | 16 => 100 | 17 => 101 | 18 => 102 | 30 => 107 | 31 => 108 | 32 => 109 | 33 => 110 | 34 => 111 | 35 => 112 | 40 => 114 | n => n, fun | 23 => 38 | 25 => 3 | 3 => 3 | 32 => 141 | 22 => 38 | 0 => 0 | 44 => 154 | 46 => 144 | 4 => 4 | 36 => 148 | 35 => 147 | 41 => 132 | 5 => 5 | 9 => 9 | 53 => 158 | 57 => 162 | 63 => 165 | 64 => 166 | n => n, fun | n => n⟩
theorem sortA : Go.Proofs.SlLaysM.n5 Try.prog sortA_ren := {
  mixed := by kernel_rfl
  f5 := ⟨Try.f74.name, by decide, Try.func74.trans (congrArg some (by kernel_rfl))⟩
  f7 := ⟨Try.f86.name, by decide, Try.func86.trans (congrArg some (by kernel_rfl))⟩
  f8 := Try.func87.trans (congrArg some (by kernel_rfl))
  f10 := ⟨Try.f94.name, by decide, Try.func94.trans (congrArg some (by kernel_rfl))⟩
  f11 := ⟨Try.f95.name, by decide, Try.func95.trans (congrArg some (by kernel_rfl))⟩
  f12 := ⟨Try.f96.name, by decide, Try.func96.trans (congrArg some (by kernel_rfl))⟩
  f13 := ⟨Try.f97.name, by decide, Try.func97.trans (congrArg some (by kernel_rfl))⟩
  f14 := ⟨Try.f98.name, by decide, Try.func98.trans (congrArg some (by kernel_rfl))⟩
  f15 := ⟨Try.f99.name, by decide, Try.func99.trans (congrArg some (by kernel_rfl))⟩
  f16 := ⟨Try.f100.name, by decide, Try.func100.trans (congrArg some (by kernel_rfl))⟩
  f17 := ⟨Try.f101.name, by decide, Try.func101.trans (congrArg some (by kernel_rfl))⟩
  f18 := ⟨Try.f102.name, by decide, Try.func102.trans (congrArg some (by kernel_rfl))⟩
  f19 := Try.func103.trans (congrArg some (by kernel_rfl))
  f20 := Try.func104.trans (congrArg some (by kernel_rfl))
  f30 := ⟨Try.f107.name, by decide, Try.func107.trans (congrArg some (by kernel_rfl))⟩
  f31 := Try.func108.trans (congrArg some (by kernel_rfl))
  f32 := Try.func109.trans (congrArg some (by kernel_rfl))
  f33 := ⟨Try.f110.name, by decide, Try.func110.trans (congrArg some (by kernel_rfl))⟩
  f34 := ⟨Try.f111.name, by decide, Try.func111.trans (congrArg some (by kernel_rfl))⟩
  f35 := ⟨Try.f112.name, by decide, Try.func112.trans (congrArg some (by kernel_rfl))⟩
  f40 := ⟨Try.f114.name, by decide, Try.func114.trans (congrArg some (by kernel_rfl))⟩
  t0 := Try.underlying0
  a0 := Try.isAgg0
  z0 := Try.sizeOf0
  v0 := Try.zeroValue0
  t3 := Try.underlying3
  a3 := Try.isAgg3
  z3 := Try.sizeOf3
  v3 := Try.zeroValue3
  t4 := Try.underlying4
  a4 := Try.isAgg4
  z4 := Try.sizeOf4
  v4 := Try.zeroValue4
  t5 := Try.underlying5
  a5 := Try.isAgg5
  z5 := Try.sizeOf5
  v5 := Try.zeroValue5
  t9 := Try.underlying9
  a9 := Try.isAgg9
  z9 := Try.sizeOf9
  v9 := Try.zeroValue9
  t22 := Try.underlying38
  a22 := Try.isAgg38
  z22 := Try.sizeOf38
  v22 := Try.zeroValue38
  t23 := Try.underlying38
  a23 := Try.isAgg38
  z23 := Try.sizeOf38
  v23 := Try.zeroValue38
  t25 := Try.underlying3
  a25 := Try.isAgg3
  z25 := Try.sizeOf3
  v25 := Try.zeroValue3
  t32 := Try.underlying141
  a32 := Try.isAgg141
  z32 := Try.sizeOf141
  v32 := Try.zeroValue141
  t35 := Try.underlying147
  a35 := Try.isAgg147
  z35 := Try.sizeOf147
  v35 := Try.zeroValue147
  t36 := Try.underlying148
  a36 := Try.isAgg148
  z36 := Try.sizeOf148
  v36 := Try.zeroValue148
  t41 := Try.underlying132
  a41 := Try.isAgg132
  z41 := Try.sizeOf132
  v41 := Try.zeroValue132
  t44 := Try.underlying154
  a44 := Try.isAgg154
  z44 := Try.sizeOf154
  v44 := Try.zeroValue154
  t46 := Try.underlying144
  a46 := Try.isAgg144
  z46 := Try.sizeOf144
  v46 := Try.zeroValue144
  t53 := Try.underlying158
  a53 := Try.isAgg158
  z53 := Try.sizeOf158
  v53 := Try.zeroValue158
  t57 := Try.underlying162
  a57 := Try.isAgg162
  z57 := Try.sizeOf162
  v57 := Try.zeroValue162
  t63 := Try.underlying165
  a63 := Try.isAgg165
  z63 := Try.sizeOf165
  v63 := Try.zeroValue165
  t64 := Try.underlying166
  a64 := Try.isAgg166
  z64 := Try.sizeOf166
  v64 := Try.zeroValue166 }

theorem sortsA (m : Nat) : AnyZI.SortsIn Try.prog sortedA_ren Fence.wide m :=
  ⟨fun blk off cap ss W hH hblk hsz => callsIn_wide.2 (AnyM.slices_Sort_int sortA blk off cap ss W hH hblk hsz),
   fun p cap W => callsIn_wide.2 (AnyM.slices_Sort_int_none sortA p cap W)⟩

theorem keys_cl {mb : Option Nat} {w : World} {K : Value → World → Prop} (hK : K (.func (.func 75) #[] #[.pointer (some ⟨w.heap.size, 0, none⟩)]) (w.alloc (.cells #[.map mb] 120))) :
    cl Try.prog 54 #[.map mb] w K := by
  have h : CallsIn Fence.wide 5 Try.prog 54 #[.map mb] w fun e w' => e = .returned (.func (.func 75) #[] #[.pointer (some ⟨w.heap.size, 0, none⟩)]) ∧ w' = w.alloc (.cells #[.map mb] 120) :=
    AnyZI.keys_in keysA Fence.wide 5 trivial rfl mb w
  exact (callsIn_wide.1 h).mono fun e w' ⟨he, hw⟩ => ⟨_, he, hw ▸ hK⟩

set_option maxHeartbeats 1000000 in
theorem sorted_cl {H : Type} (b nn : Nat) (D0 : DataW H) (R : Value → Option (DataW H × List MemPlace)) (w : World) (hown : w.ownsMap Try.prog 3 R b nn D0) (hmax : Maps.size D0 ≤ maxLen) (hbytes : Maps.size D0 * 8 ≤ 140737488355328) {K : Value → World → Prop}
    (hK : ∀ v (ss : List Int) w', ss.Perm (intKeys D0) → w'.ownsRow w.heap.size 3 1 v ss.length ((ss.mergeSort (fun x y => decide (x ≤ y))).map encZ) → Ext no w w' → K v w') :
    cl Try.prog 53 #[.func (.func 75) #[] #[.pointer (some ⟨w.heap.size, 0, none⟩)]] (w.alloc (.cells #[.map (some b)] 120)) K := by
  have hbl := hown.lt
  have hseq : SeqGives Fence.wide 2 Try.prog 75 #[.pointer (some ⟨w.heap.size, 0, none⟩)] encZ (fun ss => ss.Perm (intKeys D0)) (Maps.size D0) (w.alloc (.cells #[.map (some b)] 120)) :=
    AnyZI.keys_gives (ρ := keysA_ren) { keysA with } Fence.wide _ trivial rfl (by omega) w.heap.size b nn D0 _ (by simp) (by simp) (by
      obtain ⟨es, clock, hb, Ft, hs, hD⟩ := hown
      exact ⟨es, clock, (Below.heap_alloc _ _ b hbl).trans hb, Ft, hs, hD⟩)
  have cS := AnyZI.sorted_in sortedA Fence.wide 5 trivial trivial trivial trivial rfl (by omega) (sortsA _) (enters_of Try.func74 (by kernel_rfl) rfl) 75 #[.pointer (some ⟨w.heap.size, 0, none⟩)] trivial (enters_of Try.func75 (by kernel_rfl) rfl) _ _ hmax hbytes _ hseq
  change CallsIn _ _ Try.prog 53 _ _ _ at cS
  refine (callsIn_wide.1 cS).mono ?_
  rintro e w' ⟨v, ss, rfl, hS, hrow, hnil, hb⟩
  have hx : Ext no (w.alloc (.cells #[.map (some b)] 120)) w' := ⟨hb.os, hb.tape, hb.output, hb.size, fun k hk _ => hb.block k hk⟩
  exact ⟨v, rfl, hK v ss w' hS (ownsRow_base_a hrow (by simp)) ((Ext.alloc _ _).trans hx)⟩
end Go.Proofs.Ytamobmjfdiecbaa
