/-
  NARROWER THAN 'FOR EVERY INPUT', by the rows' own cells (each row's printed sentence says how): SnapJust: laid · SnapComes: laid · SnapWhole: laid · SnapSmall: laid · SnapAcks: laid · SnapNear: laid · SnapInside: laid.
  DERIVED. THE GIVEN ROWS OF THIS SEAT. 7 by the template 'for every input the law returns true; each argument reads behind the call as it read before'; 0 by the template 'total and deterministic' (their statements: YtfnepdppkmjboaaDoorTotals.lean).
  GIVEN WITH THE SEED: the statements are not yours to turn. If you find one false, say at which input.
  Laid BY PROGRAM, IN A SANDBOX (cutbox-rows.mjs): the forced cells as the released guide's own fill.sh prints them over the translation bf172fef82ca7924… (all of the seat's roots in one cut). By AI agents, Wed Nov 11 2026. No macro, syntax, notation, axiom, sorry.
-/
import Derived.Test.YtfnepdppkmjboaaDoorChecked
import GoSem.Claim
import GoSem.ClaimJoined
import GoSem.ClaimMapViews
import Derived.JoinedTies
import Derived.KernelRfl
namespace Go.Proofs.YtfnepdppkmjboaaDoor
/- THE CELL 'sum', in the pinned program and in every row, IS THE sha256 OF THE DUMP (.gsa) THAT YtfnepdppkmjboaaDoorProg.lean LOADS. Nothing in Lean hashes anything: it is a label: what it is worth is what the hold of that sum in a sandbox is worth. -/
noncomputable def Tryd.pinned : Pinned := { name := "ytfnepdppkmjboaadoor", sum := "bf172fef82ca7924353c22513a0a94a70357b0f21b3eca18c14c92de890195ae", checked := Tryd.checked }
namespace Rows
def none {H : Type} : Left H := { results := [], args := [] }

/- WHAT THE LISTED PACKAGE-LEVEL VARIABLES READ AS WHEN THE CALL BEGINS. Each datum BY PROGRAM (the guide's laid-datum.mjs) off the statement by which the dump's own 'gosem.cut.vars' lays the variable. In a bare row this is a premise. The card (YtfnepdppkmjboaaDoorCards.lean) ties it to the program's text. -/
def laid_tiltyard_snap_parts {H : Type} : DataW H := .iface "func table" (.agg [.slice [.agg [.iface "func" (.lit (.string [116, 105, 108, 116, 121, 97, 114, 100, 47, 115, 110, 97, 112, 46, 112, 97, 114, 116, 115, 36, 49])), .lit (.int .i64 44), .lit (.int .i64 4398046511104)]] [], .slice [.agg [.iface "func" (.lit (.string [116, 105, 108, 116, 121, 97, 114, 100, 47, 115, 110, 97, 112, 46, 112, 97, 114, 116, 115, 36, 50])), .lit (.int .i64 44), .lit (.int .i64 4398046511104)]] [], .slice [.agg [.iface "func" (.lit (.string [116, 105, 108, 116, 121, 97, 114, 100, 47, 115, 110, 97, 112, 46, 112, 97, 114, 116, 115, 36, 51])), .lit (.int .i64 35), .lit (.int .i64 0)]] [], .slice [.agg [.iface "func" (.lit (.string [116, 105, 108, 116, 121, 97, 114, 100, 47, 115, 110, 97, 112, 46, 112, 97, 114, 116, 115, 36, 52])), .lit (.int .i64 36), .lit (.int .i64 17179869184)], .agg [.iface "func" (.lit (.string [116, 105, 108, 116, 121, 97, 114, 100, 47, 115, 110, 97, 112, 46, 112, 97, 114, 116, 115, 36, 53])), .lit (.int .i64 36), .lit (.int .i64 17179869184)]] [], .slice [.agg [.iface "func" (.lit (.string [116, 105, 108, 116, 121, 97, 114, 100, 47, 115, 110, 97, 112, 46, 112, 97, 114, 116, 115, 36, 54])), .lit (.int .i64 4), .lit (.int .i64 0)]] []])

/-- 'tiltyardlaw22.SnapJust': WHATEVER THE INPUT: true; the input reads as it did. -/
def snapJustSpec : ChangeSpec := { name := "snapJust", fn := fun _ => fun
  | [d1, d2] => { results := [.lit (.bool true)], args := [d1, d2] }
  | _ => none }
def snapJustRow : OpenClaim := { program := "ytfnepdppkmjboaadoor", sum := "bf172fef82ca7924353c22513a0a94a70357b0f21b3eca18c14c92de890195ae", func := "tiltyard/tiltyardlaw22.SnapJust", spec := "snapJust", unfollowed := true, recurses := true, named := ["tiltyard/snap.parts"], apart := false, laid := [("tiltyard/snap.parts", laid_tiltyard_snap_parts)] }
def SnapJustSaid : Prop := snapJustRow.holds Tryd.pinned (OpenSpec.ofChange snapJustSpec)

/-- ITS FALSE NEIGHBOUR: 'it returns false'. Refute it at one input. -/
def snapJustWrong : ChangeSpec := { name := "snapJust", fn := fun _ => fun
  | [d1, d2] => { results := [.lit (.bool false)], args := [d1, d2] }
  | _ => none }
def SnapJustWrongFalsely : Prop := snapJustRow.holds Tryd.pinned (OpenSpec.ofChange snapJustWrong)

/-- 'tiltyardlaw22.SnapComes': WHATEVER THE INPUT: true; the input reads as it did. -/
def snapComesSpec : ChangeSpec := { name := "snapComes", fn := fun _ => fun
  | [d1, d2, d3] => { results := [.lit (.bool true)], args := [d1, d2, d3] }
  | _ => none }
def snapComesRow : OpenClaim := { program := "ytfnepdppkmjboaadoor", sum := "bf172fef82ca7924353c22513a0a94a70357b0f21b3eca18c14c92de890195ae", func := "tiltyard/tiltyardlaw22.SnapComes", spec := "snapComes", unfollowed := true, recurses := true, named := ["tiltyard/snap.parts"], apart := false, laid := [("tiltyard/snap.parts", laid_tiltyard_snap_parts)] }
def SnapComesSaid : Prop := snapComesRow.holds Tryd.pinned (OpenSpec.ofChange snapComesSpec)

/-- ITS FALSE NEIGHBOUR: 'it returns false'. Refute it at one input. -/
def snapComesWrong : ChangeSpec := { name := "snapComes", fn := fun _ => fun
  | [d1, d2, d3] => { results := [.lit (.bool false)], args := [d1, d2, d3] }
  | _ => none }
def SnapComesWrongFalsely : Prop := snapComesRow.holds Tryd.pinned (OpenSpec.ofChange snapComesWrong)

/-- 'tiltyardlaw22.SnapWhole': WHATEVER THE INPUT: true; the input reads as it did. -/
def snapWholeSpec : ChangeSpec := { name := "snapWhole", fn := fun _ => fun
  | [d] => { results := [.lit (.bool true)], args := [d] }
  | _ => none }
def snapWholeRow : OpenClaim := { program := "ytfnepdppkmjboaadoor", sum := "bf172fef82ca7924353c22513a0a94a70357b0f21b3eca18c14c92de890195ae", func := "tiltyard/tiltyardlaw22.SnapWhole", spec := "snapWhole", unfollowed := true, recurses := true, named := ["tiltyard/snap.parts"], apart := false, laid := [("tiltyard/snap.parts", laid_tiltyard_snap_parts)] }
def SnapWholeSaid : Prop := snapWholeRow.holds Tryd.pinned (OpenSpec.ofChange snapWholeSpec)

/-- ITS FALSE NEIGHBOUR: 'it returns false'. Refute it at one input. -/
def snapWholeWrong : ChangeSpec := { name := "snapWhole", fn := fun _ => fun
  | [d] => { results := [.lit (.bool false)], args := [d] }
  | _ => none }
def SnapWholeWrongFalsely : Prop := snapWholeRow.holds Tryd.pinned (OpenSpec.ofChange snapWholeWrong)

/-- 'tiltyardlaw22.SnapSmall': WHATEVER THE INPUT: true; the input reads as it did. -/
def snapSmallSpec : ChangeSpec := { name := "snapSmall", fn := fun _ => fun
  | [d1, d2] => { results := [.lit (.bool true)], args := [d1, d2] }
  | _ => none }
def snapSmallRow : OpenClaim := { program := "ytfnepdppkmjboaadoor", sum := "bf172fef82ca7924353c22513a0a94a70357b0f21b3eca18c14c92de890195ae", func := "tiltyard/tiltyardlaw22.SnapSmall", spec := "snapSmall", unfollowed := true, recurses := true, named := ["tiltyard/snap.parts"], apart := false, laid := [("tiltyard/snap.parts", laid_tiltyard_snap_parts)] }
def SnapSmallSaid : Prop := snapSmallRow.holds Tryd.pinned (OpenSpec.ofChange snapSmallSpec)

/-- ITS FALSE NEIGHBOUR: 'it returns false'. Refute it at one input. -/
def snapSmallWrong : ChangeSpec := { name := "snapSmall", fn := fun _ => fun
  | [d1, d2] => { results := [.lit (.bool false)], args := [d1, d2] }
  | _ => none }
def SnapSmallWrongFalsely : Prop := snapSmallRow.holds Tryd.pinned (OpenSpec.ofChange snapSmallWrong)

/-- 'tiltyardlaw22.SnapAcks': WHATEVER THE INPUT: true; the input reads as it did. -/
def snapAcksSpec : ChangeSpec := { name := "snapAcks", fn := fun _ => fun
  | [d] => { results := [.lit (.bool true)], args := [d] }
  | _ => none }
def snapAcksRow : OpenClaim := { program := "ytfnepdppkmjboaadoor", sum := "bf172fef82ca7924353c22513a0a94a70357b0f21b3eca18c14c92de890195ae", func := "tiltyard/tiltyardlaw22.SnapAcks", spec := "snapAcks", unfollowed := true, recurses := true, named := ["tiltyard/snap.parts"], apart := false, laid := [("tiltyard/snap.parts", laid_tiltyard_snap_parts)] }
def SnapAcksSaid : Prop := snapAcksRow.holds Tryd.pinned (OpenSpec.ofChange snapAcksSpec)

/-- ITS FALSE NEIGHBOUR: 'it returns false'. Refute it at one input. -/
def snapAcksWrong : ChangeSpec := { name := "snapAcks", fn := fun _ => fun
  | [d] => { results := [.lit (.bool false)], args := [d] }
  | _ => none }
def SnapAcksWrongFalsely : Prop := snapAcksRow.holds Tryd.pinned (OpenSpec.ofChange snapAcksWrong)

/-- 'tiltyardlaw22.SnapNear': WHATEVER THE INPUT: true; the input reads as it did. -/
def snapNearSpec : ChangeSpec := { name := "snapNear", fn := fun _ => fun
  | [d1, d2, d3, d4] => { results := [.lit (.bool true)], args := [d1, d2, d3, d4] }
  | _ => none }
def snapNearRow : OpenClaim := { program := "ytfnepdppkmjboaadoor", sum := "bf172fef82ca7924353c22513a0a94a70357b0f21b3eca18c14c92de890195ae", func := "tiltyard/tiltyardlaw22.SnapNear", spec := "snapNear", unfollowed := true, recurses := true, named := ["tiltyard/snap.parts"], apart := false, laid := [("tiltyard/snap.parts", laid_tiltyard_snap_parts)] }
def SnapNearSaid : Prop := snapNearRow.holds Tryd.pinned (OpenSpec.ofChange snapNearSpec)

/-- ITS FALSE NEIGHBOUR: 'it returns false'. Refute it at one input. -/
def snapNearWrong : ChangeSpec := { name := "snapNear", fn := fun _ => fun
  | [d1, d2, d3, d4] => { results := [.lit (.bool false)], args := [d1, d2, d3, d4] }
  | _ => none }
def SnapNearWrongFalsely : Prop := snapNearRow.holds Tryd.pinned (OpenSpec.ofChange snapNearWrong)

/-- 'tiltyardlaw22.SnapInside': WHATEVER THE INPUT: true; the input reads as it did. -/
def snapInsideSpec : ChangeSpec := { name := "snapInside", fn := fun _ => fun
  | [d1, d2, d3, d4] => { results := [.lit (.bool true)], args := [d1, d2, d3, d4] }
  | _ => none }
def snapInsideRow : OpenClaim := { program := "ytfnepdppkmjboaadoor", sum := "bf172fef82ca7924353c22513a0a94a70357b0f21b3eca18c14c92de890195ae", func := "tiltyard/tiltyardlaw22.SnapInside", spec := "snapInside", unfollowed := true, recurses := true, named := ["tiltyard/snap.parts"], apart := false, laid := [("tiltyard/snap.parts", laid_tiltyard_snap_parts)] }
def SnapInsideSaid : Prop := snapInsideRow.holds Tryd.pinned (OpenSpec.ofChange snapInsideSpec)

/-- ITS FALSE NEIGHBOUR: 'it returns false'. Refute it at one input. -/
def snapInsideWrong : ChangeSpec := { name := "snapInside", fn := fun _ => fun
  | [d1, d2, d3, d4] => { results := [.lit (.bool false)], args := [d1, d2, d3, d4] }
  | _ => none }
def SnapInsideWrongFalsely : Prop := snapInsideRow.holds Tryd.pinned (OpenSpec.ofChange snapInsideWrong)

/- THE SECOND FORM. 'bulk': how many values and letters a reading holds, each counted each time it is reached (what is shared counts as often as it is met; a slice's spare places count too). A statement '..UptoSaid' is the law's where the arguments, and the package variables that the reading takes, are together of bulk at most 1048576: NARROWER than '..Said'. Prove '..Said' where nothing that the law and all that it calls make is longer than what came in: it says more and counts as full. Else prove '..UptoSaid'. A law counts once. -/
mutual
def uptoBulk {H : Type} : DataW H → Nat
  | .lit (.string bytes) => bytes.length + 1
  | .lit _ => 1
  | .nil => 1
  | .ptr d => uptoBulk d + 1
  | .slice elems spare => uptoBulkAll elems + uptoBulkAll spare + 1
  | .agg parts => uptoBulkAll parts + 1
  | .iface _ d => uptoBulk d + 1
  | .map entries => uptoBulkEntries entries + 1
  | .held _ => 1
def uptoBulkAll {H : Type} : List (DataW H) → Nat
  | [] => 0
  | d :: r => uptoBulk d + uptoBulkAll r
def uptoBulkEntries {H : Type} : List (Lit × DataW H) → Nat
  | [] => 0
  | x :: r => uptoBulkEntry x + uptoBulkEntries r
def uptoBulkEntry {H : Type} : Lit × DataW H → Nat
  | (.string bytes, d) => bytes.length + uptoBulk d + 1
  | (_, d) => uptoBulk d + 1
 end
def uptoSmall : (H : Type) → List (DataW H) → Bool := fun _ ds => decide (uptoBulkAll ds ≤ 1048576)
def OpenSpec.upto (s : _root_.Go.ChangeSpec) : _root_.Go.OpenSpec := { _root_.Go.OpenSpec.ofChange s with cond := some uptoSmall }

/-- 'tiltyardlaw22.SnapJust', WHERE WHAT IT READS IS OF BULK AT MOST 1048576: true; the input reads as it did. -/
def snapJustUptoRow : OpenClaim := { program := "ytfnepdppkmjboaadoor", sum := "bf172fef82ca7924353c22513a0a94a70357b0f21b3eca18c14c92de890195ae", func := "tiltyard/tiltyardlaw22.SnapJust", spec := "snapJust", unfollowed := true, recurses := true, named := ["tiltyard/snap.parts"], apart := false, laid := [("tiltyard/snap.parts", laid_tiltyard_snap_parts)], narrowed := true }
def SnapJustUptoSaid : Prop := snapJustUptoRow.holds Tryd.pinned (OpenSpec.upto snapJustSpec)

/-- 'tiltyardlaw22.SnapComes', WHERE WHAT IT READS IS OF BULK AT MOST 1048576: true; the input reads as it did. -/
def snapComesUptoRow : OpenClaim := { program := "ytfnepdppkmjboaadoor", sum := "bf172fef82ca7924353c22513a0a94a70357b0f21b3eca18c14c92de890195ae", func := "tiltyard/tiltyardlaw22.SnapComes", spec := "snapComes", unfollowed := true, recurses := true, named := ["tiltyard/snap.parts"], apart := false, laid := [("tiltyard/snap.parts", laid_tiltyard_snap_parts)], narrowed := true }
def SnapComesUptoSaid : Prop := snapComesUptoRow.holds Tryd.pinned (OpenSpec.upto snapComesSpec)

/-- 'tiltyardlaw22.SnapWhole', WHERE WHAT IT READS IS OF BULK AT MOST 1048576: true; the input reads as it did. -/
def snapWholeUptoRow : OpenClaim := { program := "ytfnepdppkmjboaadoor", sum := "bf172fef82ca7924353c22513a0a94a70357b0f21b3eca18c14c92de890195ae", func := "tiltyard/tiltyardlaw22.SnapWhole", spec := "snapWhole", unfollowed := true, recurses := true, named := ["tiltyard/snap.parts"], apart := false, laid := [("tiltyard/snap.parts", laid_tiltyard_snap_parts)], narrowed := true }
def SnapWholeUptoSaid : Prop := snapWholeUptoRow.holds Tryd.pinned (OpenSpec.upto snapWholeSpec)

/-- 'tiltyardlaw22.SnapSmall', WHERE WHAT IT READS IS OF BULK AT MOST 1048576: true; the input reads as it did. -/
def snapSmallUptoRow : OpenClaim := { program := "ytfnepdppkmjboaadoor", sum := "bf172fef82ca7924353c22513a0a94a70357b0f21b3eca18c14c92de890195ae", func := "tiltyard/tiltyardlaw22.SnapSmall", spec := "snapSmall", unfollowed := true, recurses := true, named := ["tiltyard/snap.parts"], apart := false, laid := [("tiltyard/snap.parts", laid_tiltyard_snap_parts)], narrowed := true }
def SnapSmallUptoSaid : Prop := snapSmallUptoRow.holds Tryd.pinned (OpenSpec.upto snapSmallSpec)

/-- 'tiltyardlaw22.SnapAcks', WHERE WHAT IT READS IS OF BULK AT MOST 1048576: true; the input reads as it did. -/
def snapAcksUptoRow : OpenClaim := { program := "ytfnepdppkmjboaadoor", sum := "bf172fef82ca7924353c22513a0a94a70357b0f21b3eca18c14c92de890195ae", func := "tiltyard/tiltyardlaw22.SnapAcks", spec := "snapAcks", unfollowed := true, recurses := true, named := ["tiltyard/snap.parts"], apart := false, laid := [("tiltyard/snap.parts", laid_tiltyard_snap_parts)], narrowed := true }
def SnapAcksUptoSaid : Prop := snapAcksUptoRow.holds Tryd.pinned (OpenSpec.upto snapAcksSpec)

/-- 'tiltyardlaw22.SnapNear', WHERE WHAT IT READS IS OF BULK AT MOST 1048576: true; the input reads as it did. -/
def snapNearUptoRow : OpenClaim := { program := "ytfnepdppkmjboaadoor", sum := "bf172fef82ca7924353c22513a0a94a70357b0f21b3eca18c14c92de890195ae", func := "tiltyard/tiltyardlaw22.SnapNear", spec := "snapNear", unfollowed := true, recurses := true, named := ["tiltyard/snap.parts"], apart := false, laid := [("tiltyard/snap.parts", laid_tiltyard_snap_parts)], narrowed := true }
def SnapNearUptoSaid : Prop := snapNearUptoRow.holds Tryd.pinned (OpenSpec.upto snapNearSpec)

/-- 'tiltyardlaw22.SnapInside', WHERE WHAT IT READS IS OF BULK AT MOST 1048576: true; the input reads as it did. -/
def snapInsideUptoRow : OpenClaim := { program := "ytfnepdppkmjboaadoor", sum := "bf172fef82ca7924353c22513a0a94a70357b0f21b3eca18c14c92de890195ae", func := "tiltyard/tiltyardlaw22.SnapInside", spec := "snapInside", unfollowed := true, recurses := true, named := ["tiltyard/snap.parts"], apart := false, laid := [("tiltyard/snap.parts", laid_tiltyard_snap_parts)], narrowed := true }
def SnapInsideUptoSaid : Prop := snapInsideUptoRow.holds Tryd.pinned (OpenSpec.upto snapInsideSpec)

end Rows
end Go.Proofs.YtfnepdppkmjboaaDoor
