/-
  DERIVED. GIVEN WITH THE SEED: THE CARDS: each row of YtamobmjfdiecbaaGreatDoorRows.lean that lists a variable, with what it lists TIED to the program's text (the seventh form; the later family's looks); each row that meets fmt, with fmt's text TOLD by the authors' own Lean function (tested against real Go, not proved from fmt's source: count such statements apart). THE CARD IS WHAT COUNTS. Prove the row's statement (the work); the ties are given (YtamobmjfdiecbaaGreatDoorTie.lean); close each card by the builder's one call (the guide's Derived/Test/ToyasCard.lean, 'card_holds'). Laid BY PROGRAM, IN A SANDBOX (cutbox-door.mjs). By AI agents, Wed Nov 11 2026. No macro, syntax, notation, axiom, sorry.
-/
import Derived.Test.YtamobmjfdiecbaaGreatDoorRows
import GoSem.ClaimSeven
namespace Go.Proofs.YtamobmjfdiecbaaGreatDoor
namespace Rows

/-- THE TIED CARD OF 'tiltyardlaw20.PhysicsSteps'. -/
def physicsStepsCard : Claim7 := { stood := { row := physicsStepsRow, standIns := [], harness := (true, "12ad3d860ea1defc80a3ded17f89f53d1d4c215328b99a276161cda252986984"), looks := false }, kinds := [], alts := [], laidByText := true, laidKinds := [.funcs], laidTests := true, laidLooks := .later }
def PhysicsStepsCardSaid : Prop := Claim7.holds Tryz.pinned (.plain (OpenSpec.ofChange physicsStepsSpec)) physicsStepsCard

/-- THE SECOND FORM's CARD OF 'tiltyardlaw20.PhysicsSteps'. -/
def physicsStepsUptoCard : Claim7 := { stood := { row := physicsStepsUptoRow, standIns := [], harness := (true, "12ad3d860ea1defc80a3ded17f89f53d1d4c215328b99a276161cda252986984"), looks := false }, kinds := [], alts := [], laidByText := true, laidKinds := [.funcs], laidTests := true, laidLooks := .later }
def PhysicsStepsUptoCardSaid : Prop := Claim7.holds Tryz.pinned (.plain (OpenSpec.upto physicsStepsSpec)) physicsStepsUptoCard
end Rows
end Go.Proofs.YtamobmjfdiecbaaGreatDoor
