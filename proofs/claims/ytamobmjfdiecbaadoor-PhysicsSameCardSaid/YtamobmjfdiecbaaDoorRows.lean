/-
  NARROWER THAN 'FOR EVERY INPUT', by the rows' own cells (each row's printed sentence says how): PhysicsApart: laid · PhysicsWays: laid · PhysicsStill: laid · PhysicsLocal: laid · PhysicsSame: laid.
  DERIVED. THE GIVEN ROWS OF THIS SEAT. 5 by the template 'for every input the law returns true; each argument reads behind the call as it read before'; 0 by the template 'total and deterministic' (their statements: YtamobmjfdiecbaaDoorTotals.lean).
  GIVEN WITH THE SEED: the statements are not yours to turn. If you find one false, say at which input.
  Laid BY PROGRAM, IN A SANDBOX (cutbox-rows.mjs): the forced cells as the released guide's own fill.sh prints them over the translation 6966ae330adc8a62… (all of the seat's roots in one cut). By AI agents, Wed Nov 11 2026. No macro, syntax, notation, axiom, sorry.
-/
import Derived.Test.YtamobmjfdiecbaaDoorChecked
import GoSem.Claim
import GoSem.ClaimJoined
import GoSem.ClaimMapViews
import Derived.JoinedTies
import Derived.KernelRfl
namespace Go.Proofs.YtamobmjfdiecbaaDoor
/- THE CELL 'sum', in the pinned program and in every row, IS THE sha256 OF THE DUMP (.gsa) THAT YtamobmjfdiecbaaDoorProg.lean LOADS. Nothing in Lean hashes anything: it is a label: what it is worth is what the hold of that sum in a sandbox is worth. -/
noncomputable def Tryd.pinned : Pinned := { name := "ytamobmjfdiecbaadoor", sum := "6966ae330adc8a6234920be7afb865ba91e3b3944995a51e2aff1ed7f6990232", checked := Tryd.checked }
namespace Rows
def none {H : Type} : Left H := { results := [], args := [] }

/- WHAT THE LISTED PACKAGE-LEVEL VARIABLES READ AS WHEN THE CALL BEGINS. Each datum BY PROGRAM (the guide's laid-datum.mjs) off the statement by which the dump's own 'gosem.cut.vars' lays the variable. In a bare row this is a premise. The card (YtamobmjfdiecbaaDoorCards.lean) ties it to the program's text. -/
def laid_tiltyard_physics_axes {H : Type} : DataW H := .iface "func table" (.agg [.iface "func" (.lit (.string [116, 105, 108, 116, 121, 97, 114, 100, 47, 112, 104, 121, 115, 105, 99, 115, 46, 97, 120, 101, 115, 36, 49])), .iface "func" (.lit (.string [116, 105, 108, 116, 121, 97, 114, 100, 47, 112, 104, 121, 115, 105, 99, 115, 46, 97, 120, 101, 115, 36, 50]))])

/-- 'tiltyardlaw20.PhysicsApart': WHATEVER THE INPUT: true; the input reads as it did. -/
def physicsApartSpec : ChangeSpec := { name := "physicsApart", fn := fun _ => fun
  | [d1, d2, d3] => { results := [.lit (.bool true)], args := [d1, d2, d3] }
  | _ => none }
def physicsApartRow : OpenClaim := { program := "ytamobmjfdiecbaadoor", sum := "6966ae330adc8a6234920be7afb865ba91e3b3944995a51e2aff1ed7f6990232", func := "tiltyard/tiltyardlaw20.PhysicsApart", spec := "physicsApart", inPlace := ["math.Float64bits", "math.Float64frombits", "math.archTrunc"], unfollowed := true, recurses := true, named := ["tiltyard/physics.axes"], apart := false, laid := [("tiltyard/physics.axes", laid_tiltyard_physics_axes)] }
def PhysicsApartSaid : Prop := physicsApartRow.holds Tryd.pinned (OpenSpec.ofChange physicsApartSpec)

/-- ITS FALSE NEIGHBOUR: 'it returns false'. Refute it at one input. -/
def physicsApartWrong : ChangeSpec := { name := "physicsApart", fn := fun _ => fun
  | [d1, d2, d3] => { results := [.lit (.bool false)], args := [d1, d2, d3] }
  | _ => none }
def PhysicsApartWrongFalsely : Prop := physicsApartRow.holds Tryd.pinned (OpenSpec.ofChange physicsApartWrong)

/-- 'tiltyardlaw20.PhysicsWays': WHATEVER THE INPUT: true; the input reads as it did. -/
def physicsWaysSpec : ChangeSpec := { name := "physicsWays", fn := fun _ => fun
  | [d1, d2] => { results := [.lit (.bool true)], args := [d1, d2] }
  | _ => none }
def physicsWaysRow : OpenClaim := { program := "ytamobmjfdiecbaadoor", sum := "6966ae330adc8a6234920be7afb865ba91e3b3944995a51e2aff1ed7f6990232", func := "tiltyard/tiltyardlaw20.PhysicsWays", spec := "physicsWays", inPlace := ["math.Float64bits", "math.Float64frombits", "math.archTrunc"], unfollowed := true, recurses := true, named := ["tiltyard/physics.axes"], apart := false, laid := [("tiltyard/physics.axes", laid_tiltyard_physics_axes)] }
def PhysicsWaysSaid : Prop := physicsWaysRow.holds Tryd.pinned (OpenSpec.ofChange physicsWaysSpec)

/-- ITS FALSE NEIGHBOUR: 'it returns false'. Refute it at one input. -/
def physicsWaysWrong : ChangeSpec := { name := "physicsWays", fn := fun _ => fun
  | [d1, d2] => { results := [.lit (.bool false)], args := [d1, d2] }
  | _ => none }
def PhysicsWaysWrongFalsely : Prop := physicsWaysRow.holds Tryd.pinned (OpenSpec.ofChange physicsWaysWrong)

/-- 'tiltyardlaw20.PhysicsStill': WHATEVER THE INPUT: true; the input reads as it did. -/
def physicsStillSpec : ChangeSpec := { name := "physicsStill", fn := fun _ => fun
  | [d1, d2] => { results := [.lit (.bool true)], args := [d1, d2] }
  | _ => none }
def physicsStillRow : OpenClaim := { program := "ytamobmjfdiecbaadoor", sum := "6966ae330adc8a6234920be7afb865ba91e3b3944995a51e2aff1ed7f6990232", func := "tiltyard/tiltyardlaw20.PhysicsStill", spec := "physicsStill", inPlace := ["math.Float64bits", "math.Float64frombits", "math.archTrunc"], unfollowed := true, recurses := true, named := ["tiltyard/physics.axes"], apart := false, laid := [("tiltyard/physics.axes", laid_tiltyard_physics_axes)] }
def PhysicsStillSaid : Prop := physicsStillRow.holds Tryd.pinned (OpenSpec.ofChange physicsStillSpec)

/-- ITS FALSE NEIGHBOUR: 'it returns false'. Refute it at one input. -/
def physicsStillWrong : ChangeSpec := { name := "physicsStill", fn := fun _ => fun
  | [d1, d2] => { results := [.lit (.bool false)], args := [d1, d2] }
  | _ => none }
def PhysicsStillWrongFalsely : Prop := physicsStillRow.holds Tryd.pinned (OpenSpec.ofChange physicsStillWrong)

/-- 'tiltyardlaw20.PhysicsLocal': WHATEVER THE INPUT: true; the input reads as it did. -/
def physicsLocalSpec : ChangeSpec := { name := "physicsLocal", fn := fun _ => fun
  | [d1, d2] => { results := [.lit (.bool true)], args := [d1, d2] }
  | _ => none }
def physicsLocalRow : OpenClaim := { program := "ytamobmjfdiecbaadoor", sum := "6966ae330adc8a6234920be7afb865ba91e3b3944995a51e2aff1ed7f6990232", func := "tiltyard/tiltyardlaw20.PhysicsLocal", spec := "physicsLocal", inPlace := ["math.Float64bits", "math.Float64frombits", "math.archTrunc"], unfollowed := true, recurses := true, named := ["tiltyard/physics.axes"], apart := false, laid := [("tiltyard/physics.axes", laid_tiltyard_physics_axes)] }
def PhysicsLocalSaid : Prop := physicsLocalRow.holds Tryd.pinned (OpenSpec.ofChange physicsLocalSpec)

/-- ITS FALSE NEIGHBOUR: 'it returns false'. Refute it at one input. -/
def physicsLocalWrong : ChangeSpec := { name := "physicsLocal", fn := fun _ => fun
  | [d1, d2] => { results := [.lit (.bool false)], args := [d1, d2] }
  | _ => none }
def PhysicsLocalWrongFalsely : Prop := physicsLocalRow.holds Tryd.pinned (OpenSpec.ofChange physicsLocalWrong)

/-- 'tiltyardlaw20.PhysicsSame': WHATEVER THE INPUT: true; the input reads as it did. -/
def physicsSameSpec : ChangeSpec := { name := "physicsSame", fn := fun _ => fun
  | [d1, d2, d3] => { results := [.lit (.bool true)], args := [d1, d2, d3] }
  | _ => none }
def physicsSameRow : OpenClaim := { program := "ytamobmjfdiecbaadoor", sum := "6966ae330adc8a6234920be7afb865ba91e3b3944995a51e2aff1ed7f6990232", func := "tiltyard/tiltyardlaw20.PhysicsSame", spec := "physicsSame", inPlace := ["math.Float64bits", "math.Float64frombits", "math.archTrunc"], unfollowed := true, recurses := true, named := ["tiltyard/physics.axes"], apart := false, laid := [("tiltyard/physics.axes", laid_tiltyard_physics_axes)] }
def PhysicsSameSaid : Prop := physicsSameRow.holds Tryd.pinned (OpenSpec.ofChange physicsSameSpec)

/-- ITS FALSE NEIGHBOUR: 'it returns false'. Refute it at one input. -/
def physicsSameWrong : ChangeSpec := { name := "physicsSame", fn := fun _ => fun
  | [d1, d2, d3] => { results := [.lit (.bool false)], args := [d1, d2, d3] }
  | _ => none }
def PhysicsSameWrongFalsely : Prop := physicsSameRow.holds Tryd.pinned (OpenSpec.ofChange physicsSameWrong)

/- THE SECOND FORM. 'bulk': how many values and letters a reading holds, each counted each time it is reached (what is shared counts as often as it is met; a slice's spare places count too). A statement '..UptoSaid' is the law's where the arguments, and the package variables that the reading takes, are together of bulk at most 1048576: NARROWER than '..Said'. Prove '..Said' where nothing that the law and all that it calls make is longer than what came in: it says more and counts as full. Else prove '..UptoSaid'. A law counts once. -/
mutual
def uptoBulk {H : Type} : DataW H → Nat
  | .lit (.string bytes) => bytes.length + 1
  | .lit _ => 1
  | .nil => 1
  | .ptr d => uptoBulk d + 1
  | .slice elems spare => uptoBulkAll elems + uptoBulkAll spare + 1
  | .agg parts => uptoBulkAll parts + 1
  | .iface _ d => uptoBulk d + 1
  | .map entries => uptoBulkEntries entries + 1
  | .held _ => 1
def uptoBulkAll {H : Type} : List (DataW H) → Nat
  | [] => 0
  | d :: r => uptoBulk d + uptoBulkAll r
def uptoBulkEntries {H : Type} : List (Lit × DataW H) → Nat
  | [] => 0
  | x :: r => uptoBulkEntry x + uptoBulkEntries r
def uptoBulkEntry {H : Type} : Lit × DataW H → Nat
  | (.string bytes, d) => bytes.length + uptoBulk d + 1
  | (_, d) => uptoBulk d + 1
 end
def uptoSmall : (H : Type) → List (DataW H) → Bool := fun _ ds => decide (uptoBulkAll ds ≤ 1048576)
def OpenSpec.upto (s : _root_.Go.ChangeSpec) : _root_.Go.OpenSpec := { _root_.Go.OpenSpec.ofChange s with cond := some uptoSmall }

/-- 'tiltyardlaw20.PhysicsApart', WHERE WHAT IT READS IS OF BULK AT MOST 1048576: true; the input reads as it did. -/
def physicsApartUptoRow : OpenClaim := { program := "ytamobmjfdiecbaadoor", sum := "6966ae330adc8a6234920be7afb865ba91e3b3944995a51e2aff1ed7f6990232", func := "tiltyard/tiltyardlaw20.PhysicsApart", spec := "physicsApart", inPlace := ["math.Float64bits", "math.Float64frombits", "math.archTrunc"], unfollowed := true, recurses := true, named := ["tiltyard/physics.axes"], apart := false, laid := [("tiltyard/physics.axes", laid_tiltyard_physics_axes)], narrowed := true }
def PhysicsApartUptoSaid : Prop := physicsApartUptoRow.holds Tryd.pinned (OpenSpec.upto physicsApartSpec)

/-- 'tiltyardlaw20.PhysicsWays', WHERE WHAT IT READS IS OF BULK AT MOST 1048576: true; the input reads as it did. -/
def physicsWaysUptoRow : OpenClaim := { program := "ytamobmjfdiecbaadoor", sum := "6966ae330adc8a6234920be7afb865ba91e3b3944995a51e2aff1ed7f6990232", func := "tiltyard/tiltyardlaw20.PhysicsWays", spec := "physicsWays", inPlace := ["math.Float64bits", "math.Float64frombits", "math.archTrunc"], unfollowed := true, recurses := true, named := ["tiltyard/physics.axes"], apart := false, laid := [("tiltyard/physics.axes", laid_tiltyard_physics_axes)], narrowed := true }
def PhysicsWaysUptoSaid : Prop := physicsWaysUptoRow.holds Tryd.pinned (OpenSpec.upto physicsWaysSpec)

/-- 'tiltyardlaw20.PhysicsStill', WHERE WHAT IT READS IS OF BULK AT MOST 1048576: true; the input reads as it did. -/
def physicsStillUptoRow : OpenClaim := { program := "ytamobmjfdiecbaadoor", sum := "6966ae330adc8a6234920be7afb865ba91e3b3944995a51e2aff1ed7f6990232", func := "tiltyard/tiltyardlaw20.PhysicsStill", spec := "physicsStill", inPlace := ["math.Float64bits", "math.Float64frombits", "math.archTrunc"], unfollowed := true, recurses := true, named := ["tiltyard/physics.axes"], apart := false, laid := [("tiltyard/physics.axes", laid_tiltyard_physics_axes)], narrowed := true }
def PhysicsStillUptoSaid : Prop := physicsStillUptoRow.holds Tryd.pinned (OpenSpec.upto physicsStillSpec)

/-- 'tiltyardlaw20.PhysicsLocal', WHERE WHAT IT READS IS OF BULK AT MOST 1048576: true; the input reads as it did. -/
def physicsLocalUptoRow : OpenClaim := { program := "ytamobmjfdiecbaadoor", sum := "6966ae330adc8a6234920be7afb865ba91e3b3944995a51e2aff1ed7f6990232", func := "tiltyard/tiltyardlaw20.PhysicsLocal", spec := "physicsLocal", inPlace := ["math.Float64bits", "math.Float64frombits", "math.archTrunc"], unfollowed := true, recurses := true, named := ["tiltyard/physics.axes"], apart := false, laid := [("tiltyard/physics.axes", laid_tiltyard_physics_axes)], narrowed := true }
def PhysicsLocalUptoSaid : Prop := physicsLocalUptoRow.holds Tryd.pinned (OpenSpec.upto physicsLocalSpec)

/-- 'tiltyardlaw20.PhysicsSame', WHERE WHAT IT READS IS OF BULK AT MOST 1048576: true; the input reads as it did. -/
def physicsSameUptoRow : OpenClaim := { program := "ytamobmjfdiecbaadoor", sum := "6966ae330adc8a6234920be7afb865ba91e3b3944995a51e2aff1ed7f6990232", func := "tiltyard/tiltyardlaw20.PhysicsSame", spec := "physicsSame", inPlace := ["math.Float64bits", "math.Float64frombits", "math.archTrunc"], unfollowed := true, recurses := true, named := ["tiltyard/physics.axes"], apart := false, laid := [("tiltyard/physics.axes", laid_tiltyard_physics_axes)], narrowed := true }
def PhysicsSameUptoSaid : Prop := physicsSameUptoRow.holds Tryd.pinned (OpenSpec.upto physicsSameSpec)

end Rows
end Go.Proofs.YtamobmjfdiecbaaDoor
