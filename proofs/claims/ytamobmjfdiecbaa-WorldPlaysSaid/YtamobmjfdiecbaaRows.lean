/-
  No cell of these rows narrows 'for every input' (looked for: loops, veiled, ifaces, maps, wideKeys, modest, calm, conditions, laid).
  DERIVED. THE GIVEN ROWS OF THIS SEAT. 10 by the template 'for every input the law returns true; each argument reads behind the call as it read before'; 0 by the template 'total and deterministic' (their statements: YtamobmjfdiecbaaTotals.lean).
  GIVEN WITH THE SEED: the statements are not yours to turn. If you find one false, say at which input.
  Laid BY PROGRAM, IN A SANDBOX (cutbox-rows.mjs): the forced cells as the released guide's own fill.sh prints them over the translation b97c00833250f47b… (all of the seat's roots in one cut). By AI agents, Wed Nov 11 2026. No macro, syntax, notation, axiom, sorry.
-/
import Derived.Test.YtamobmjfdiecbaaChecked
import GoSem.Claim
import GoSem.ClaimJoined
import GoSem.ClaimMapViews
import Derived.JoinedTies
import Derived.KernelRfl
namespace Go.Proofs.Ytamobmjfdiecbaa
/- THE CELL 'sum', in the pinned program and in every row, IS THE sha256 OF THE DUMP (.gsa) THAT YtamobmjfdiecbaaProg.lean LOADS. Nothing in Lean hashes anything: it is a label: what it is worth is what the hold of that sum in a sandbox is worth. -/
noncomputable def Try.pinned : Pinned := { name := "ytamobmjfdiecbaa", sum := "b97c00833250f47bba5f443065d33604139a88fbeece3f3fd7f5ffc93333489e", checked := Try.checked }
namespace Rows
def none {H : Type} : Left H := { results := [], args := [] }

/-- 'tiltyardlaw19.WorldFull': WHATEVER THE INPUT: true; the input reads as it did. -/
def worldFullSpec : ChangeSpec := { name := "worldFull", fn := fun _ => fun
  | [d1, d2] => { results := [.lit (.bool true)], args := [d1, d2] }
  | _ => none }
def worldFullRow : OpenClaim := { program := "ytamobmjfdiecbaa", sum := "b97c00833250f47bba5f443065d33604139a88fbeece3f3fd7f5ffc93333489e", func := "tiltyard/tiltyardlaw19.WorldFull", spec := "worldFull", inPlace := ["math.Float64bits", "math.Float64frombits", "math.archTrunc"], unfollowed := true, recurses := true, apart := false }
def WorldFullSaid : Prop := worldFullRow.holds Try.pinned (OpenSpec.ofChange worldFullSpec)

/-- ITS FALSE NEIGHBOUR: 'it returns false'. Refute it at one input. -/
def worldFullWrong : ChangeSpec := { name := "worldFull", fn := fun _ => fun
  | [d1, d2] => { results := [.lit (.bool false)], args := [d1, d2] }
  | _ => none }
def WorldFullWrongFalsely : Prop := worldFullRow.holds Try.pinned (OpenSpec.ofChange worldFullWrong)

/-- 'tiltyardlaw19.WorldHandles': WHATEVER THE INPUT: true; the input reads as it did. -/
def worldHandlesSpec : ChangeSpec := { name := "worldHandles", fn := fun _ => fun
  | [d] => { results := [.lit (.bool true)], args := [d] }
  | _ => none }
def worldHandlesRow : OpenClaim := { program := "ytamobmjfdiecbaa", sum := "b97c00833250f47bba5f443065d33604139a88fbeece3f3fd7f5ffc93333489e", func := "tiltyard/tiltyardlaw19.WorldHandles", spec := "worldHandles", inPlace := ["math.Float64bits", "math.Float64frombits", "math.archTrunc"], unfollowed := true, recurses := true, apart := false }
def WorldHandlesSaid : Prop := worldHandlesRow.holds Try.pinned (OpenSpec.ofChange worldHandlesSpec)

/-- ITS FALSE NEIGHBOUR: 'it returns false'. Refute it at one input. -/
def worldHandlesWrong : ChangeSpec := { name := "worldHandles", fn := fun _ => fun
  | [d] => { results := [.lit (.bool false)], args := [d] }
  | _ => none }
def WorldHandlesWrongFalsely : Prop := worldHandlesRow.holds Try.pinned (OpenSpec.ofChange worldHandlesWrong)

/-- 'tiltyardlaw19.WorldSame': WHATEVER THE INPUT: true; the input reads as it did. -/
def worldSameSpec : ChangeSpec := { name := "worldSame", fn := fun _ => fun
  | [d] => { results := [.lit (.bool true)], args := [d] }
  | _ => none }
def worldSameRow : OpenClaim := { program := "ytamobmjfdiecbaa", sum := "b97c00833250f47bba5f443065d33604139a88fbeece3f3fd7f5ffc93333489e", func := "tiltyard/tiltyardlaw19.WorldSame", spec := "worldSame", inPlace := ["math.Float64bits", "math.Float64frombits", "math.archTrunc"], unfollowed := true, recurses := true, apart := false }
def WorldSameSaid : Prop := worldSameRow.holds Try.pinned (OpenSpec.ofChange worldSameSpec)

/-- ITS FALSE NEIGHBOUR: 'it returns false'. Refute it at one input. -/
def worldSameWrong : ChangeSpec := { name := "worldSame", fn := fun _ => fun
  | [d] => { results := [.lit (.bool false)], args := [d] }
  | _ => none }
def WorldSameWrongFalsely : Prop := worldSameRow.holds Try.pinned (OpenSpec.ofChange worldSameWrong)

/-- 'tiltyardlaw18.GridCells': WHATEVER THE INPUT: true; the input reads as it did. -/
def gridCellsSpec : ChangeSpec := { name := "gridCells", fn := fun _ => fun
  | [d1, d2, d3] => { results := [.lit (.bool true)], args := [d1, d2, d3] }
  | _ => none }
def gridCellsRow : OpenClaim := { program := "ytamobmjfdiecbaa", sum := "b97c00833250f47bba5f443065d33604139a88fbeece3f3fd7f5ffc93333489e", func := "tiltyard/tiltyardlaw18.GridCells", spec := "gridCells", inPlace := ["math.Float64bits", "math.Float64frombits", "math.archTrunc"], unfollowed := true, recurses := true, apart := false }
def GridCellsSaid : Prop := gridCellsRow.holds Try.pinned (OpenSpec.ofChange gridCellsSpec)

/-- ITS FALSE NEIGHBOUR: 'it returns false'. Refute it at one input. -/
def gridCellsWrong : ChangeSpec := { name := "gridCells", fn := fun _ => fun
  | [d1, d2, d3] => { results := [.lit (.bool false)], args := [d1, d2, d3] }
  | _ => none }
def GridCellsWrongFalsely : Prop := gridCellsRow.holds Try.pinned (OpenSpec.ofChange gridCellsWrong)

/-- 'tiltyardlaw18.GridMeets': WHATEVER THE INPUT: true; the input reads as it did. -/
def gridMeetsSpec : ChangeSpec := { name := "gridMeets", fn := fun _ => fun
  | [d1, d2, d3, d4] => { results := [.lit (.bool true)], args := [d1, d2, d3, d4] }
  | _ => none }
def gridMeetsRow : OpenClaim := { program := "ytamobmjfdiecbaa", sum := "b97c00833250f47bba5f443065d33604139a88fbeece3f3fd7f5ffc93333489e", func := "tiltyard/tiltyardlaw18.GridMeets", spec := "gridMeets", inPlace := ["math.Float64bits", "math.Float64frombits", "math.archTrunc"], unfollowed := true, recurses := true, apart := false }
def GridMeetsSaid : Prop := gridMeetsRow.holds Try.pinned (OpenSpec.ofChange gridMeetsSpec)

/-- ITS FALSE NEIGHBOUR: 'it returns false'. Refute it at one input. -/
def gridMeetsWrong : ChangeSpec := { name := "gridMeets", fn := fun _ => fun
  | [d1, d2, d3, d4] => { results := [.lit (.bool false)], args := [d1, d2, d3, d4] }
  | _ => none }
def GridMeetsWrongFalsely : Prop := gridMeetsRow.holds Try.pinned (OpenSpec.ofChange gridMeetsWrong)

/-- 'tiltyardlaw18.GridShifts': WHATEVER THE INPUT: true; the input reads as it did. -/
def gridShiftsSpec : ChangeSpec := { name := "gridShifts", fn := fun _ => fun
  | [d1, d2, d3] => { results := [.lit (.bool true)], args := [d1, d2, d3] }
  | _ => none }
def gridShiftsRow : OpenClaim := { program := "ytamobmjfdiecbaa", sum := "b97c00833250f47bba5f443065d33604139a88fbeece3f3fd7f5ffc93333489e", func := "tiltyard/tiltyardlaw18.GridShifts", spec := "gridShifts", inPlace := ["math.Float64bits", "math.Float64frombits", "math.archTrunc"], unfollowed := true, recurses := true, apart := false }
def GridShiftsSaid : Prop := gridShiftsRow.holds Try.pinned (OpenSpec.ofChange gridShiftsSpec)

/-- ITS FALSE NEIGHBOUR: 'it returns false'. Refute it at one input. -/
def gridShiftsWrong : ChangeSpec := { name := "gridShifts", fn := fun _ => fun
  | [d1, d2, d3] => { results := [.lit (.bool false)], args := [d1, d2, d3] }
  | _ => none }
def GridShiftsWrongFalsely : Prop := gridShiftsRow.holds Try.pinned (OpenSpec.ofChange gridShiftsWrong)

/-- 'tiltyardlaw18.GridPlays': WHATEVER THE INPUT: true; the input reads as it did. -/
def gridPlaysSpec : ChangeSpec := { name := "gridPlays", fn := fun _ => fun
  | [d1, d2] => { results := [.lit (.bool true)], args := [d1, d2] }
  | _ => none }
def gridPlaysRow : OpenClaim := { program := "ytamobmjfdiecbaa", sum := "b97c00833250f47bba5f443065d33604139a88fbeece3f3fd7f5ffc93333489e", func := "tiltyard/tiltyardlaw18.GridPlays", spec := "gridPlays", inPlace := ["math.Float64bits", "math.Float64frombits", "math.archTrunc"], unfollowed := true, recurses := true, apart := false }
def GridPlaysSaid : Prop := gridPlaysRow.holds Try.pinned (OpenSpec.ofChange gridPlaysSpec)

/-- ITS FALSE NEIGHBOUR: 'it returns false'. Refute it at one input. -/
def gridPlaysWrong : ChangeSpec := { name := "gridPlays", fn := fun _ => fun
  | [d1, d2] => { results := [.lit (.bool false)], args := [d1, d2] }
  | _ => none }
def GridPlaysWrongFalsely : Prop := gridPlaysRow.holds Try.pinned (OpenSpec.ofChange gridPlaysWrong)

/-- 'tiltyardlaw18.GridTurned': WHATEVER THE INPUT: true; the input reads as it did. -/
def gridTurnedSpec : ChangeSpec := { name := "gridTurned", fn := fun _ => fun
  | [d1, d2, d3] => { results := [.lit (.bool true)], args := [d1, d2, d3] }
  | _ => none }
def gridTurnedRow : OpenClaim := { program := "ytamobmjfdiecbaa", sum := "b97c00833250f47bba5f443065d33604139a88fbeece3f3fd7f5ffc93333489e", func := "tiltyard/tiltyardlaw18.GridTurned", spec := "gridTurned", inPlace := ["math.Float64bits", "math.Float64frombits", "math.archTrunc"], unfollowed := true, recurses := true, apart := false }
def GridTurnedSaid : Prop := gridTurnedRow.holds Try.pinned (OpenSpec.ofChange gridTurnedSpec)

/-- ITS FALSE NEIGHBOUR: 'it returns false'. Refute it at one input. -/
def gridTurnedWrong : ChangeSpec := { name := "gridTurned", fn := fun _ => fun
  | [d1, d2, d3] => { results := [.lit (.bool false)], args := [d1, d2, d3] }
  | _ => none }
def GridTurnedWrongFalsely : Prop := gridTurnedRow.holds Try.pinned (OpenSpec.ofChange gridTurnedWrong)

/-- 'tiltyardlaw19.WorldNear': WHATEVER THE INPUT: true; the input reads as it did. -/
def worldNearSpec : ChangeSpec := { name := "worldNear", fn := fun _ => fun
  | [d1, d2] => { results := [.lit (.bool true)], args := [d1, d2] }
  | _ => none }
def worldNearRow : OpenClaim := { program := "ytamobmjfdiecbaa", sum := "b97c00833250f47bba5f443065d33604139a88fbeece3f3fd7f5ffc93333489e", func := "tiltyard/tiltyardlaw19.WorldNear", spec := "worldNear", inPlace := ["math.Float64bits", "math.Float64frombits", "math.archTrunc"], unfollowed := true, recurses := true, apart := false }
def WorldNearSaid : Prop := worldNearRow.holds Try.pinned (OpenSpec.ofChange worldNearSpec)

/-- ITS FALSE NEIGHBOUR: 'it returns false'. Refute it at one input. -/
def worldNearWrong : ChangeSpec := { name := "worldNear", fn := fun _ => fun
  | [d1, d2] => { results := [.lit (.bool false)], args := [d1, d2] }
  | _ => none }
def WorldNearWrongFalsely : Prop := worldNearRow.holds Try.pinned (OpenSpec.ofChange worldNearWrong)

/-- 'tiltyardlaw19.WorldPlays': WHATEVER THE INPUT: true; the input reads as it did. -/
def worldPlaysSpec : ChangeSpec := { name := "worldPlays", fn := fun _ => fun
  | [d] => { results := [.lit (.bool true)], args := [d] }
  | _ => none }
def worldPlaysRow : OpenClaim := { program := "ytamobmjfdiecbaa", sum := "b97c00833250f47bba5f443065d33604139a88fbeece3f3fd7f5ffc93333489e", func := "tiltyard/tiltyardlaw19.WorldPlays", spec := "worldPlays", inPlace := ["math.Float64bits", "math.Float64frombits", "math.archTrunc"], unfollowed := true, recurses := true, apart := false }
def WorldPlaysSaid : Prop := worldPlaysRow.holds Try.pinned (OpenSpec.ofChange worldPlaysSpec)

/-- ITS FALSE NEIGHBOUR: 'it returns false'. Refute it at one input. -/
def worldPlaysWrong : ChangeSpec := { name := "worldPlays", fn := fun _ => fun
  | [d] => { results := [.lit (.bool false)], args := [d] }
  | _ => none }
def WorldPlaysWrongFalsely : Prop := worldPlaysRow.holds Try.pinned (OpenSpec.ofChange worldPlaysWrong)

/- THE SECOND FORM. 'bulk': how many values and letters a reading holds, each counted each time it is reached (what is shared counts as often as it is met; a slice's spare places count too). A statement '..UptoSaid' is the law's where the arguments, and the package variables that the reading takes, are together of bulk at most 1048576: NARROWER than '..Said'. Prove '..Said' where nothing that the law and all that it calls make is longer than what came in: it says more and counts as full. Else prove '..UptoSaid'. A law counts once. -/
mutual
def uptoBulk {H : Type} : DataW H → Nat
  | .lit (.string bytes) => bytes.length + 1
  | .lit _ => 1
  | .nil => 1
  | .ptr d => uptoBulk d + 1
  | .slice elems spare => uptoBulkAll elems + uptoBulkAll spare + 1
  | .agg parts => uptoBulkAll parts + 1
  | .iface _ d => uptoBulk d + 1
  | .map entries => uptoBulkEntries entries + 1
  | .held _ => 1
def uptoBulkAll {H : Type} : List (DataW H) → Nat
  | [] => 0
  | d :: r => uptoBulk d + uptoBulkAll r
def uptoBulkEntries {H : Type} : List (Lit × DataW H) → Nat
  | [] => 0
  | x :: r => uptoBulkEntry x + uptoBulkEntries r
def uptoBulkEntry {H : Type} : Lit × DataW H → Nat
  | (.string bytes, d) => bytes.length + uptoBulk d + 1
  | (_, d) => uptoBulk d + 1
 end
def uptoSmall : (H : Type) → List (DataW H) → Bool := fun _ ds => decide (uptoBulkAll ds ≤ 1048576)
def OpenSpec.upto (s : _root_.Go.ChangeSpec) : _root_.Go.OpenSpec := { _root_.Go.OpenSpec.ofChange s with cond := some uptoSmall }

/-- 'tiltyardlaw19.WorldFull', WHERE WHAT IT READS IS OF BULK AT MOST 1048576: true; the input reads as it did. -/
def worldFullUptoRow : OpenClaim := { program := "ytamobmjfdiecbaa", sum := "b97c00833250f47bba5f443065d33604139a88fbeece3f3fd7f5ffc93333489e", func := "tiltyard/tiltyardlaw19.WorldFull", spec := "worldFull", inPlace := ["math.Float64bits", "math.Float64frombits", "math.archTrunc"], unfollowed := true, recurses := true, apart := false, narrowed := true }
def WorldFullUptoSaid : Prop := worldFullUptoRow.holds Try.pinned (OpenSpec.upto worldFullSpec)

/-- 'tiltyardlaw19.WorldHandles', WHERE WHAT IT READS IS OF BULK AT MOST 1048576: true; the input reads as it did. -/
def worldHandlesUptoRow : OpenClaim := { program := "ytamobmjfdiecbaa", sum := "b97c00833250f47bba5f443065d33604139a88fbeece3f3fd7f5ffc93333489e", func := "tiltyard/tiltyardlaw19.WorldHandles", spec := "worldHandles", inPlace := ["math.Float64bits", "math.Float64frombits", "math.archTrunc"], unfollowed := true, recurses := true, apart := false, narrowed := true }
def WorldHandlesUptoSaid : Prop := worldHandlesUptoRow.holds Try.pinned (OpenSpec.upto worldHandlesSpec)

/-- 'tiltyardlaw19.WorldSame', WHERE WHAT IT READS IS OF BULK AT MOST 1048576: true; the input reads as it did. -/
def worldSameUptoRow : OpenClaim := { program := "ytamobmjfdiecbaa", sum := "b97c00833250f47bba5f443065d33604139a88fbeece3f3fd7f5ffc93333489e", func := "tiltyard/tiltyardlaw19.WorldSame", spec := "worldSame", inPlace := ["math.Float64bits", "math.Float64frombits", "math.archTrunc"], unfollowed := true, recurses := true, apart := false, narrowed := true }
def WorldSameUptoSaid : Prop := worldSameUptoRow.holds Try.pinned (OpenSpec.upto worldSameSpec)

/-- 'tiltyardlaw18.GridCells', WHERE WHAT IT READS IS OF BULK AT MOST 1048576: true; the input reads as it did. -/
def gridCellsUptoRow : OpenClaim := { program := "ytamobmjfdiecbaa", sum := "b97c00833250f47bba5f443065d33604139a88fbeece3f3fd7f5ffc93333489e", func := "tiltyard/tiltyardlaw18.GridCells", spec := "gridCells", inPlace := ["math.Float64bits", "math.Float64frombits", "math.archTrunc"], unfollowed := true, recurses := true, apart := false, narrowed := true }
def GridCellsUptoSaid : Prop := gridCellsUptoRow.holds Try.pinned (OpenSpec.upto gridCellsSpec)

/-- 'tiltyardlaw18.GridMeets', WHERE WHAT IT READS IS OF BULK AT MOST 1048576: true; the input reads as it did. -/
def gridMeetsUptoRow : OpenClaim := { program := "ytamobmjfdiecbaa", sum := "b97c00833250f47bba5f443065d33604139a88fbeece3f3fd7f5ffc93333489e", func := "tiltyard/tiltyardlaw18.GridMeets", spec := "gridMeets", inPlace := ["math.Float64bits", "math.Float64frombits", "math.archTrunc"], unfollowed := true, recurses := true, apart := false, narrowed := true }
def GridMeetsUptoSaid : Prop := gridMeetsUptoRow.holds Try.pinned (OpenSpec.upto gridMeetsSpec)

/-- 'tiltyardlaw18.GridShifts', WHERE WHAT IT READS IS OF BULK AT MOST 1048576: true; the input reads as it did. -/
def gridShiftsUptoRow : OpenClaim := { program := "ytamobmjfdiecbaa", sum := "b97c00833250f47bba5f443065d33604139a88fbeece3f3fd7f5ffc93333489e", func := "tiltyard/tiltyardlaw18.GridShifts", spec := "gridShifts", inPlace := ["math.Float64bits", "math.Float64frombits", "math.archTrunc"], unfollowed := true, recurses := true, apart := false, narrowed := true }
def GridShiftsUptoSaid : Prop := gridShiftsUptoRow.holds Try.pinned (OpenSpec.upto gridShiftsSpec)

/-- 'tiltyardlaw18.GridPlays', WHERE WHAT IT READS IS OF BULK AT MOST 1048576: true; the input reads as it did. -/
def gridPlaysUptoRow : OpenClaim := { program := "ytamobmjfdiecbaa", sum := "b97c00833250f47bba5f443065d33604139a88fbeece3f3fd7f5ffc93333489e", func := "tiltyard/tiltyardlaw18.GridPlays", spec := "gridPlays", inPlace := ["math.Float64bits", "math.Float64frombits", "math.archTrunc"], unfollowed := true, recurses := true, apart := false, narrowed := true }
def GridPlaysUptoSaid : Prop := gridPlaysUptoRow.holds Try.pinned (OpenSpec.upto gridPlaysSpec)

/-- 'tiltyardlaw18.GridTurned', WHERE WHAT IT READS IS OF BULK AT MOST 1048576: true; the input reads as it did. -/
def gridTurnedUptoRow : OpenClaim := { program := "ytamobmjfdiecbaa", sum := "b97c00833250f47bba5f443065d33604139a88fbeece3f3fd7f5ffc93333489e", func := "tiltyard/tiltyardlaw18.GridTurned", spec := "gridTurned", inPlace := ["math.Float64bits", "math.Float64frombits", "math.archTrunc"], unfollowed := true, recurses := true, apart := false, narrowed := true }
def GridTurnedUptoSaid : Prop := gridTurnedUptoRow.holds Try.pinned (OpenSpec.upto gridTurnedSpec)

/-- 'tiltyardlaw19.WorldNear', WHERE WHAT IT READS IS OF BULK AT MOST 1048576: true; the input reads as it did. -/
def worldNearUptoRow : OpenClaim := { program := "ytamobmjfdiecbaa", sum := "b97c00833250f47bba5f443065d33604139a88fbeece3f3fd7f5ffc93333489e", func := "tiltyard/tiltyardlaw19.WorldNear", spec := "worldNear", inPlace := ["math.Float64bits", "math.Float64frombits", "math.archTrunc"], unfollowed := true, recurses := true, apart := false, narrowed := true }
def WorldNearUptoSaid : Prop := worldNearUptoRow.holds Try.pinned (OpenSpec.upto worldNearSpec)

/-- 'tiltyardlaw19.WorldPlays', WHERE WHAT IT READS IS OF BULK AT MOST 1048576: true; the input reads as it did. -/
def worldPlaysUptoRow : OpenClaim := { program := "ytamobmjfdiecbaa", sum := "b97c00833250f47bba5f443065d33604139a88fbeece3f3fd7f5ffc93333489e", func := "tiltyard/tiltyardlaw19.WorldPlays", spec := "worldPlays", inPlace := ["math.Float64bits", "math.Float64frombits", "math.archTrunc"], unfollowed := true, recurses := true, apart := false, narrowed := true }
def WorldPlaysUptoSaid : Prop := worldPlaysUptoRow.holds Try.pinned (OpenSpec.upto worldPlaysSpec)

end Rows
end Go.Proofs.Ytamobmjfdiecbaa
