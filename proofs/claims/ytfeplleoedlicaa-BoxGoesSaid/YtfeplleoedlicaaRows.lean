/-
  No cell of these rows narrows 'for every input' (looked for: loops, veiled, ifaces, maps, wideKeys, modest, calm, conditions, laid).
  DERIVED. THE GIVEN ROWS OF THIS SEAT. 8 by the template 'for every input the law returns true; each argument reads behind the call as it read before'; 0 by the template 'total and deterministic' (their statements: YtfeplleoedlicaaTotals.lean).
  GIVEN WITH THE SEED: the statements are not yours to turn. If you find one false, say at which input.
  Laid BY PROGRAM, IN A SANDBOX (cutbox-rows.mjs): the forced cells as the released guide's own fill.sh prints them over the translation f197dad4ba55c0c4… (all of the seat's roots in one cut). By AI agents, Wed Nov 11 2026. No macro, syntax, notation, axiom, sorry.
-/
import Derived.Test.YtfeplleoedlicaaChecked
import GoSem.Claim
import GoSem.ClaimJoined
import GoSem.ClaimMapViews
import Derived.JoinedTies
import Derived.KernelRfl
namespace Go.Proofs.Ytfeplleoedlicaa
/- THE CELL 'sum', in the pinned program and in every row, IS THE sha256 OF THE DUMP (.gsa) THAT YtfeplleoedlicaaProg.lean LOADS. Nothing in Lean hashes anything: it is a label: what it is worth is what the hold of that sum in a sandbox is worth. -/
noncomputable def Try.pinned : Pinned := { name := "ytfeplleoedlicaa", sum := "f197dad4ba55c0c4b2f79ea74c3a7f48ebd06e9716d4c4e3ac762fb3bf56c122", checked := Try.checked }
namespace Rows
def none {H : Type} : Left H := { results := [], args := [] }

/-- 'tiltyardlaw06.BoxAlike': WHATEVER THE INPUT: true; the input reads as it did. -/
def boxAlikeSpec : ChangeSpec := { name := "boxAlike", fn := fun _ => fun
  | [d1, d2, d3] => { results := [.lit (.bool true)], args := [d1, d2, d3] }
  | _ => none }
def boxAlikeRow : OpenClaim := { program := "ytfeplleoedlicaa", sum := "f197dad4ba55c0c4b2f79ea74c3a7f48ebd06e9716d4c4e3ac762fb3bf56c122", func := "tiltyard/tiltyardlaw06.BoxAlike", spec := "boxAlike", unfollowed := true, recurses := true, apart := false }
def BoxAlikeSaid : Prop := boxAlikeRow.holds Try.pinned (OpenSpec.ofChange boxAlikeSpec)

/-- ITS FALSE NEIGHBOUR: 'it returns false'. Refute it at one input. -/
def boxAlikeWrong : ChangeSpec := { name := "boxAlike", fn := fun _ => fun
  | [d1, d2, d3] => { results := [.lit (.bool false)], args := [d1, d2, d3] }
  | _ => none }
def BoxAlikeWrongFalsely : Prop := boxAlikeRow.holds Try.pinned (OpenSpec.ofChange boxAlikeWrong)

/-- 'tiltyardlaw06.BoxFull': WHATEVER THE INPUT: true; the input reads as it did. -/
def boxFullSpec : ChangeSpec := { name := "boxFull", fn := fun _ => fun
  | [d1, d2, d3, d4] => { results := [.lit (.bool true)], args := [d1, d2, d3, d4] }
  | _ => none }
def boxFullRow : OpenClaim := { program := "ytfeplleoedlicaa", sum := "f197dad4ba55c0c4b2f79ea74c3a7f48ebd06e9716d4c4e3ac762fb3bf56c122", func := "tiltyard/tiltyardlaw06.BoxFull", spec := "boxFull", unfollowed := true, recurses := true, apart := false }
def BoxFullSaid : Prop := boxFullRow.holds Try.pinned (OpenSpec.ofChange boxFullSpec)

/-- ITS FALSE NEIGHBOUR: 'it returns false'. Refute it at one input. -/
def boxFullWrong : ChangeSpec := { name := "boxFull", fn := fun _ => fun
  | [d1, d2, d3, d4] => { results := [.lit (.bool false)], args := [d1, d2, d3, d4] }
  | _ => none }
def BoxFullWrongFalsely : Prop := boxFullRow.holds Try.pinned (OpenSpec.ofChange boxFullWrong)

/-- 'tiltyardlaw06.BoxSteps': WHATEVER THE INPUT: true; the input reads as it did. -/
def boxStepsSpec : ChangeSpec := { name := "boxSteps", fn := fun _ => fun
  | [d1, d2, d3, d4, d5] => { results := [.lit (.bool true)], args := [d1, d2, d3, d4, d5] }
  | _ => none }
def boxStepsRow : OpenClaim := { program := "ytfeplleoedlicaa", sum := "f197dad4ba55c0c4b2f79ea74c3a7f48ebd06e9716d4c4e3ac762fb3bf56c122", func := "tiltyard/tiltyardlaw06.BoxSteps", spec := "boxSteps", unfollowed := true, recurses := true, apart := false }
def BoxStepsSaid : Prop := boxStepsRow.holds Try.pinned (OpenSpec.ofChange boxStepsSpec)

/-- ITS FALSE NEIGHBOUR: 'it returns false'. Refute it at one input. -/
def boxStepsWrong : ChangeSpec := { name := "boxSteps", fn := fun _ => fun
  | [d1, d2, d3, d4, d5] => { results := [.lit (.bool false)], args := [d1, d2, d3, d4, d5] }
  | _ => none }
def BoxStepsWrongFalsely : Prop := boxStepsRow.holds Try.pinned (OpenSpec.ofChange boxStepsWrong)

/-- 'tiltyardlaw06.BoxTurned': WHATEVER THE INPUT: true; the input reads as it did. -/
def boxTurnedSpec : ChangeSpec := { name := "boxTurned", fn := fun _ => fun
  | [d1, d2, d3, d4] => { results := [.lit (.bool true)], args := [d1, d2, d3, d4] }
  | _ => none }
def boxTurnedRow : OpenClaim := { program := "ytfeplleoedlicaa", sum := "f197dad4ba55c0c4b2f79ea74c3a7f48ebd06e9716d4c4e3ac762fb3bf56c122", func := "tiltyard/tiltyardlaw06.BoxTurned", spec := "boxTurned", unfollowed := true, recurses := true, apart := false }
def BoxTurnedSaid : Prop := boxTurnedRow.holds Try.pinned (OpenSpec.ofChange boxTurnedSpec)

/-- ITS FALSE NEIGHBOUR: 'it returns false'. Refute it at one input. -/
def boxTurnedWrong : ChangeSpec := { name := "boxTurned", fn := fun _ => fun
  | [d1, d2, d3, d4] => { results := [.lit (.bool false)], args := [d1, d2, d3, d4] }
  | _ => none }
def BoxTurnedWrongFalsely : Prop := boxTurnedRow.holds Try.pinned (OpenSpec.ofChange boxTurnedWrong)

/-- 'tiltyardlaw06.BoxTells': WHATEVER THE INPUT: true; the input reads as it did. -/
def boxTellsSpec : ChangeSpec := { name := "boxTells", fn := fun _ => fun
  | [d1, d2, d3] => { results := [.lit (.bool true)], args := [d1, d2, d3] }
  | _ => none }
def boxTellsRow : OpenClaim := { program := "ytfeplleoedlicaa", sum := "f197dad4ba55c0c4b2f79ea74c3a7f48ebd06e9716d4c4e3ac762fb3bf56c122", func := "tiltyard/tiltyardlaw06.BoxTells", spec := "boxTells", unfollowed := true, recurses := true, apart := false }
def BoxTellsSaid : Prop := boxTellsRow.holds Try.pinned (OpenSpec.ofChange boxTellsSpec)

/-- ITS FALSE NEIGHBOUR: 'it returns false'. Refute it at one input. -/
def boxTellsWrong : ChangeSpec := { name := "boxTells", fn := fun _ => fun
  | [d1, d2, d3] => { results := [.lit (.bool false)], args := [d1, d2, d3] }
  | _ => none }
def BoxTellsWrongFalsely : Prop := boxTellsRow.holds Try.pinned (OpenSpec.ofChange boxTellsWrong)

/-- 'tiltyardlaw06.BoxHolds': WHATEVER THE INPUT: true; the input reads as it did. -/
def boxHoldsSpec : ChangeSpec := { name := "boxHolds", fn := fun _ => fun
  | [d] => { results := [.lit (.bool true)], args := [d] }
  | _ => none }
def boxHoldsRow : OpenClaim := { program := "ytfeplleoedlicaa", sum := "f197dad4ba55c0c4b2f79ea74c3a7f48ebd06e9716d4c4e3ac762fb3bf56c122", func := "tiltyard/tiltyardlaw06.BoxHolds", spec := "boxHolds", unfollowed := true, recurses := true, apart := false }
def BoxHoldsSaid : Prop := boxHoldsRow.holds Try.pinned (OpenSpec.ofChange boxHoldsSpec)

/-- ITS FALSE NEIGHBOUR: 'it returns false'. Refute it at one input. -/
def boxHoldsWrong : ChangeSpec := { name := "boxHolds", fn := fun _ => fun
  | [d] => { results := [.lit (.bool false)], args := [d] }
  | _ => none }
def BoxHoldsWrongFalsely : Prop := boxHoldsRow.holds Try.pinned (OpenSpec.ofChange boxHoldsWrong)

/-- 'tiltyardlaw06.BoxGoes': WHATEVER THE INPUT: true; the input reads as it did. -/
def boxGoesSpec : ChangeSpec := { name := "boxGoes", fn := fun _ => fun
  | [d1, d2, d3, d4] => { results := [.lit (.bool true)], args := [d1, d2, d3, d4] }
  | _ => none }
def boxGoesRow : OpenClaim := { program := "ytfeplleoedlicaa", sum := "f197dad4ba55c0c4b2f79ea74c3a7f48ebd06e9716d4c4e3ac762fb3bf56c122", func := "tiltyard/tiltyardlaw06.BoxGoes", spec := "boxGoes", unfollowed := true, recurses := true, apart := false }
def BoxGoesSaid : Prop := boxGoesRow.holds Try.pinned (OpenSpec.ofChange boxGoesSpec)

/-- ITS FALSE NEIGHBOUR: 'it returns false'. Refute it at one input. -/
def boxGoesWrong : ChangeSpec := { name := "boxGoes", fn := fun _ => fun
  | [d1, d2, d3, d4] => { results := [.lit (.bool false)], args := [d1, d2, d3, d4] }
  | _ => none }
def BoxGoesWrongFalsely : Prop := boxGoesRow.holds Try.pinned (OpenSpec.ofChange boxGoesWrong)

/-- 'tiltyardlaw06.BoxStops': WHATEVER THE INPUT: true; the input reads as it did. -/
def boxStopsSpec : ChangeSpec := { name := "boxStops", fn := fun _ => fun
  | [d1, d2, d3, d4] => { results := [.lit (.bool true)], args := [d1, d2, d3, d4] }
  | _ => none }
def boxStopsRow : OpenClaim := { program := "ytfeplleoedlicaa", sum := "f197dad4ba55c0c4b2f79ea74c3a7f48ebd06e9716d4c4e3ac762fb3bf56c122", func := "tiltyard/tiltyardlaw06.BoxStops", spec := "boxStops", unfollowed := true, recurses := true, apart := false }
def BoxStopsSaid : Prop := boxStopsRow.holds Try.pinned (OpenSpec.ofChange boxStopsSpec)

/-- ITS FALSE NEIGHBOUR: 'it returns false'. Refute it at one input. -/
def boxStopsWrong : ChangeSpec := { name := "boxStops", fn := fun _ => fun
  | [d1, d2, d3, d4] => { results := [.lit (.bool false)], args := [d1, d2, d3, d4] }
  | _ => none }
def BoxStopsWrongFalsely : Prop := boxStopsRow.holds Try.pinned (OpenSpec.ofChange boxStopsWrong)

/- THE SECOND FORM. 'bulk': how many values and letters a reading holds, each counted each time it is reached (what is shared counts as often as it is met; a slice's spare places count too). A statement '..UptoSaid' is the law's where the arguments, and the package variables that the reading takes, are together of bulk at most 1048576: NARROWER than '..Said'. Prove '..Said' where nothing that the law and all that it calls make is longer than what came in: it says more and counts as full. Else prove '..UptoSaid'. A law counts once. -/
mutual
def uptoBulk {H : Type} : DataW H → Nat
  | .lit (.string bytes) => bytes.length + 1
  | .lit _ => 1
  | .nil => 1
  | .ptr d => uptoBulk d + 1
  | .slice elems spare => uptoBulkAll elems + uptoBulkAll spare + 1
  | .agg parts => uptoBulkAll parts + 1
  | .iface _ d => uptoBulk d + 1
  | .map entries => uptoBulkEntries entries + 1
  | .held _ => 1
def uptoBulkAll {H : Type} : List (DataW H) → Nat
  | [] => 0
  | d :: r => uptoBulk d + uptoBulkAll r
def uptoBulkEntries {H : Type} : List (Lit × DataW H) → Nat
  | [] => 0
  | x :: r => uptoBulkEntry x + uptoBulkEntries r
def uptoBulkEntry {H : Type} : Lit × DataW H → Nat
  | (.string bytes, d) => bytes.length + uptoBulk d + 1
  | (_, d) => uptoBulk d + 1
 end
def uptoSmall : (H : Type) → List (DataW H) → Bool := fun _ ds => decide (uptoBulkAll ds ≤ 1048576)
def OpenSpec.upto (s : _root_.Go.ChangeSpec) : _root_.Go.OpenSpec := { _root_.Go.OpenSpec.ofChange s with cond := some uptoSmall }

/-- 'tiltyardlaw06.BoxAlike', WHERE WHAT IT READS IS OF BULK AT MOST 1048576: true; the input reads as it did. -/
def boxAlikeUptoRow : OpenClaim := { program := "ytfeplleoedlicaa", sum := "f197dad4ba55c0c4b2f79ea74c3a7f48ebd06e9716d4c4e3ac762fb3bf56c122", func := "tiltyard/tiltyardlaw06.BoxAlike", spec := "boxAlike", unfollowed := true, recurses := true, apart := false, narrowed := true }
def BoxAlikeUptoSaid : Prop := boxAlikeUptoRow.holds Try.pinned (OpenSpec.upto boxAlikeSpec)

/-- 'tiltyardlaw06.BoxFull', WHERE WHAT IT READS IS OF BULK AT MOST 1048576: true; the input reads as it did. -/
def boxFullUptoRow : OpenClaim := { program := "ytfeplleoedlicaa", sum := "f197dad4ba55c0c4b2f79ea74c3a7f48ebd06e9716d4c4e3ac762fb3bf56c122", func := "tiltyard/tiltyardlaw06.BoxFull", spec := "boxFull", unfollowed := true, recurses := true, apart := false, narrowed := true }
def BoxFullUptoSaid : Prop := boxFullUptoRow.holds Try.pinned (OpenSpec.upto boxFullSpec)

/-- 'tiltyardlaw06.BoxSteps', WHERE WHAT IT READS IS OF BULK AT MOST 1048576: true; the input reads as it did. -/
def boxStepsUptoRow : OpenClaim := { program := "ytfeplleoedlicaa", sum := "f197dad4ba55c0c4b2f79ea74c3a7f48ebd06e9716d4c4e3ac762fb3bf56c122", func := "tiltyard/tiltyardlaw06.BoxSteps", spec := "boxSteps", unfollowed := true, recurses := true, apart := false, narrowed := true }
def BoxStepsUptoSaid : Prop := boxStepsUptoRow.holds Try.pinned (OpenSpec.upto boxStepsSpec)

/-- 'tiltyardlaw06.BoxTurned', WHERE WHAT IT READS IS OF BULK AT MOST 1048576: true; the input reads as it did. -/
def boxTurnedUptoRow : OpenClaim := { program := "ytfeplleoedlicaa", sum := "f197dad4ba55c0c4b2f79ea74c3a7f48ebd06e9716d4c4e3ac762fb3bf56c122", func := "tiltyard/tiltyardlaw06.BoxTurned", spec := "boxTurned", unfollowed := true, recurses := true, apart := false, narrowed := true }
def BoxTurnedUptoSaid : Prop := boxTurnedUptoRow.holds Try.pinned (OpenSpec.upto boxTurnedSpec)

/-- 'tiltyardlaw06.BoxTells', WHERE WHAT IT READS IS OF BULK AT MOST 1048576: true; the input reads as it did. -/
def boxTellsUptoRow : OpenClaim := { program := "ytfeplleoedlicaa", sum := "f197dad4ba55c0c4b2f79ea74c3a7f48ebd06e9716d4c4e3ac762fb3bf56c122", func := "tiltyard/tiltyardlaw06.BoxTells", spec := "boxTells", unfollowed := true, recurses := true, apart := false, narrowed := true }
def BoxTellsUptoSaid : Prop := boxTellsUptoRow.holds Try.pinned (OpenSpec.upto boxTellsSpec)

/-- 'tiltyardlaw06.BoxHolds', WHERE WHAT IT READS IS OF BULK AT MOST 1048576: true; the input reads as it did. -/
def boxHoldsUptoRow : OpenClaim := { program := "ytfeplleoedlicaa", sum := "f197dad4ba55c0c4b2f79ea74c3a7f48ebd06e9716d4c4e3ac762fb3bf56c122", func := "tiltyard/tiltyardlaw06.BoxHolds", spec := "boxHolds", unfollowed := true, recurses := true, apart := false, narrowed := true }
def BoxHoldsUptoSaid : Prop := boxHoldsUptoRow.holds Try.pinned (OpenSpec.upto boxHoldsSpec)

/-- 'tiltyardlaw06.BoxGoes', WHERE WHAT IT READS IS OF BULK AT MOST 1048576: true; the input reads as it did. -/
def boxGoesUptoRow : OpenClaim := { program := "ytfeplleoedlicaa", sum := "f197dad4ba55c0c4b2f79ea74c3a7f48ebd06e9716d4c4e3ac762fb3bf56c122", func := "tiltyard/tiltyardlaw06.BoxGoes", spec := "boxGoes", unfollowed := true, recurses := true, apart := false, narrowed := true }
def BoxGoesUptoSaid : Prop := boxGoesUptoRow.holds Try.pinned (OpenSpec.upto boxGoesSpec)

/-- 'tiltyardlaw06.BoxStops', WHERE WHAT IT READS IS OF BULK AT MOST 1048576: true; the input reads as it did. -/
def boxStopsUptoRow : OpenClaim := { program := "ytfeplleoedlicaa", sum := "f197dad4ba55c0c4b2f79ea74c3a7f48ebd06e9716d4c4e3ac762fb3bf56c122", func := "tiltyard/tiltyardlaw06.BoxStops", spec := "boxStops", unfollowed := true, recurses := true, apart := false, narrowed := true }
def BoxStopsUptoSaid : Prop := boxStopsUptoRow.holds Try.pinned (OpenSpec.upto boxStopsSpec)

end Rows
end Go.Proofs.Ytfeplleoedlicaa
