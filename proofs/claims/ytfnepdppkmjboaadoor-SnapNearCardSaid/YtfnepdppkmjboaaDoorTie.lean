/-
  DERIVED. GIVEN WITH THE SEED: THE PROGRAM's TIES (one call each: nine closed facts by the kernel) AND EACH ROW's TIE, after the 31st guide's Derived/Test/Toyas{Tie, Card}.lean. No idea stands in it: it is a product of the set-up. Laid BY PROGRAM, IN A SANDBOX (cutbox-door.mjs). By AI agents, Wed Nov 11 2026. No macro, syntax, notation, axiom, sorry.
-/
import Derived.Test.YtfnepdppkmjboaaDoorRows
import Derived.LaidByTextLater
import Derived.SevenTiedAt
import Derived.LaidSub
import Derived.LaidOnce
namespace Go.Proofs.YtfnepdppkmjboaaDoor
open Go
set_option maxRecDepth 100000
theorem seatTie1 : Tryd.prog.laidByTextLater [("tiltyard/snap.parts", Rows.laid_tiltyard_snap_parts)] [.funcsDeep] true :=
  Program.laidByTextLater_by_one 25 8 2 (by kernel_rfl) (by kernel_rfl) (by kernel_rfl) (by kernel_rfl) (by kernel_rfl) (by kernel_rfl) (fun _ _ => by kernel_rfl)
theorem noOwnUnsafe : Tryd.pinned.checked.prog.headLifts.contains "ownunsafe" = false := by kernel_rfl
theorem tie : Tryd.prog.laidByTextLater [("tiltyard/snap.parts", Rows.laid_tiltyard_snap_parts)] [.funcsDeep] true :=
  Program.laidByTextLater.sub seatTie1 ["tiltyard/snap.parts"] (by kernel_rfl) (by kernel_rfl)
theorem snapJust_row_tie : Rows.snapJustRow.laidByTextAt .later Tryd.pinned [.funcsDeep] true :=
  OpenClaim.laidByTextAt_later rfl rfl tie noOwnUnsafe
theorem snapComes_row_tie : Rows.snapComesRow.laidByTextAt .later Tryd.pinned [.funcsDeep] true :=
  OpenClaim.laidByTextAt_later rfl rfl tie noOwnUnsafe
theorem snapWhole_row_tie : Rows.snapWholeRow.laidByTextAt .later Tryd.pinned [.funcsDeep] true :=
  OpenClaim.laidByTextAt_later rfl rfl tie noOwnUnsafe
theorem snapSmall_row_tie : Rows.snapSmallRow.laidByTextAt .later Tryd.pinned [.funcsDeep] true :=
  OpenClaim.laidByTextAt_later rfl rfl tie noOwnUnsafe
theorem snapAcks_row_tie : Rows.snapAcksRow.laidByTextAt .later Tryd.pinned [.funcsDeep] true :=
  OpenClaim.laidByTextAt_later rfl rfl tie noOwnUnsafe
theorem snapNear_row_tie : Rows.snapNearRow.laidByTextAt .later Tryd.pinned [.funcsDeep] true :=
  OpenClaim.laidByTextAt_later rfl rfl tie noOwnUnsafe
theorem snapInside_row_tie : Rows.snapInsideRow.laidByTextAt .later Tryd.pinned [.funcsDeep] true :=
  OpenClaim.laidByTextAt_later rfl rfl tie noOwnUnsafe
theorem snapJustUpto_row_tie : Rows.snapJustUptoRow.laidByTextAt .later Tryd.pinned [.funcsDeep] true :=
  OpenClaim.laidByTextAt_later rfl rfl tie noOwnUnsafe
theorem snapComesUpto_row_tie : Rows.snapComesUptoRow.laidByTextAt .later Tryd.pinned [.funcsDeep] true :=
  OpenClaim.laidByTextAt_later rfl rfl tie noOwnUnsafe
theorem snapWholeUpto_row_tie : Rows.snapWholeUptoRow.laidByTextAt .later Tryd.pinned [.funcsDeep] true :=
  OpenClaim.laidByTextAt_later rfl rfl tie noOwnUnsafe
theorem snapSmallUpto_row_tie : Rows.snapSmallUptoRow.laidByTextAt .later Tryd.pinned [.funcsDeep] true :=
  OpenClaim.laidByTextAt_later rfl rfl tie noOwnUnsafe
theorem snapAcksUpto_row_tie : Rows.snapAcksUptoRow.laidByTextAt .later Tryd.pinned [.funcsDeep] true :=
  OpenClaim.laidByTextAt_later rfl rfl tie noOwnUnsafe
theorem snapNearUpto_row_tie : Rows.snapNearUptoRow.laidByTextAt .later Tryd.pinned [.funcsDeep] true :=
  OpenClaim.laidByTextAt_later rfl rfl tie noOwnUnsafe
theorem snapInsideUpto_row_tie : Rows.snapInsideUptoRow.laidByTextAt .later Tryd.pinned [.funcsDeep] true :=
  OpenClaim.laidByTextAt_later rfl rfl tie noOwnUnsafe
end Go.Proofs.YtfnepdppkmjboaaDoor
