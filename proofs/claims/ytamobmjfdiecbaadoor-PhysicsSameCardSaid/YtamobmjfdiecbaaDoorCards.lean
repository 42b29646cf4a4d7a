/-
  DERIVED. GIVEN WITH THE SEED: THE CARDS: each row of YtamobmjfdiecbaaDoorRows.lean that lists a variable, with what it lists TIED to the program's text (the seventh form; the later family's looks); each row that meets fmt, with fmt's text TOLD by the authors' own Lean function (tested against real Go, not proved from fmt's source: count such statements apart). THE CARD IS WHAT COUNTS. Prove the row's statement (the work); the ties are given (YtamobmjfdiecbaaDoorTie.lean); close each card by the builder's one call (the guide's Derived/Test/ToyasCard.lean, 'card_holds'). Laid BY PROGRAM, IN A SANDBOX (cutbox-door.mjs). By AI agents, Wed Nov 11 2026. No macro, syntax, notation, axiom, sorry.
-/
import Derived.Test.YtamobmjfdiecbaaDoorRows
import GoSem.ClaimSeven
namespace Go.Proofs.YtamobmjfdiecbaaDoor
namespace Rows

/-- THE TIED CARD OF 'tiltyardlaw20.PhysicsApart'. -/
def physicsApartCard : Claim7 := { stood := { row := physicsApartRow, standIns := [], harness := (true, "2dc604eeaab0ef8c6a5ae621bc64373b3fb410c8f4c479d492dbdd8602fe4396"), looks := false }, kinds := [], alts := [], laidByText := true, laidKinds := [.funcs], laidTests := true, laidLooks := .later }
def PhysicsApartCardSaid : Prop := Claim7.holds Tryd.pinned (.plain (OpenSpec.ofChange physicsApartSpec)) physicsApartCard

/-- THE TIED CARD OF 'tiltyardlaw20.PhysicsWays'. -/
def physicsWaysCard : Claim7 := { stood := { row := physicsWaysRow, standIns := [], harness := (true, "2dc604eeaab0ef8c6a5ae621bc64373b3fb410c8f4c479d492dbdd8602fe4396"), looks := false }, kinds := [], alts := [], laidByText := true, laidKinds := [.funcs], laidTests := true, laidLooks := .later }
def PhysicsWaysCardSaid : Prop := Claim7.holds Tryd.pinned (.plain (OpenSpec.ofChange physicsWaysSpec)) physicsWaysCard

/-- THE TIED CARD OF 'tiltyardlaw20.PhysicsStill'. -/
def physicsStillCard : Claim7 := { stood := { row := physicsStillRow, standIns := [], harness := (true, "2dc604eeaab0ef8c6a5ae621bc64373b3fb410c8f4c479d492dbdd8602fe4396"), looks := false }, kinds := [], alts := [], laidByText := true, laidKinds := [.funcs], laidTests := true, laidLooks := .later }
def PhysicsStillCardSaid : Prop := Claim7.holds Tryd.pinned (.plain (OpenSpec.ofChange physicsStillSpec)) physicsStillCard

/-- THE TIED CARD OF 'tiltyardlaw20.PhysicsLocal'. -/
def physicsLocalCard : Claim7 := { stood := { row := physicsLocalRow, standIns := [], harness := (true, "2dc604eeaab0ef8c6a5ae621bc64373b3fb410c8f4c479d492dbdd8602fe4396"), looks := false }, kinds := [], alts := [], laidByText := true, laidKinds := [.funcs], laidTests := true, laidLooks := .later }
def PhysicsLocalCardSaid : Prop := Claim7.holds Tryd.pinned (.plain (OpenSpec.ofChange physicsLocalSpec)) physicsLocalCard

/-- THE TIED CARD OF 'tiltyardlaw20.PhysicsSame'. -/
def physicsSameCard : Claim7 := { stood := { row := physicsSameRow, standIns := [], harness := (true, "2dc604eeaab0ef8c6a5ae621bc64373b3fb410c8f4c479d492dbdd8602fe4396"), looks := false }, kinds := [], alts := [], laidByText := true, laidKinds := [.funcs], laidTests := true, laidLooks := .later }
def PhysicsSameCardSaid : Prop := Claim7.holds Tryd.pinned (.plain (OpenSpec.ofChange physicsSameSpec)) physicsSameCard

/-- THE SECOND FORM's CARD OF 'tiltyardlaw20.PhysicsApart'. -/
def physicsApartUptoCard : Claim7 := { stood := { row := physicsApartUptoRow, standIns := [], harness := (true, "2dc604eeaab0ef8c6a5ae621bc64373b3fb410c8f4c479d492dbdd8602fe4396"), looks := false }, kinds := [], alts := [], laidByText := true, laidKinds := [.funcs], laidTests := true, laidLooks := .later }
def PhysicsApartUptoCardSaid : Prop := Claim7.holds Tryd.pinned (.plain (OpenSpec.upto physicsApartSpec)) physicsApartUptoCard

/-- THE SECOND FORM's CARD OF 'tiltyardlaw20.PhysicsWays'. -/
def physicsWaysUptoCard : Claim7 := { stood := { row := physicsWaysUptoRow, standIns := [], harness := (true, "2dc604eeaab0ef8c6a5ae621bc64373b3fb410c8f4c479d492dbdd8602fe4396"), looks := false }, kinds := [], alts := [], laidByText := true, laidKinds := [.funcs], laidTests := true, laidLooks := .later }
def PhysicsWaysUptoCardSaid : Prop := Claim7.holds Tryd.pinned (.plain (OpenSpec.upto physicsWaysSpec)) physicsWaysUptoCard

/-- THE SECOND FORM's CARD OF 'tiltyardlaw20.PhysicsStill'. -/
def physicsStillUptoCard : Claim7 := { stood := { row := physicsStillUptoRow, standIns := [], harness := (true, "2dc604eeaab0ef8c6a5ae621bc64373b3fb410c8f4c479d492dbdd8602fe4396"), looks := false }, kinds := [], alts := [], laidByText := true, laidKinds := [.funcs], laidTests := true, laidLooks := .later }
def PhysicsStillUptoCardSaid : Prop := Claim7.holds Tryd.pinned (.plain (OpenSpec.upto physicsStillSpec)) physicsStillUptoCard

/-- THE SECOND FORM's CARD OF 'tiltyardlaw20.PhysicsLocal'. -/
def physicsLocalUptoCard : Claim7 := { stood := { row := physicsLocalUptoRow, standIns := [], harness := (true, "2dc604eeaab0ef8c6a5ae621bc64373b3fb410c8f4c479d492dbdd8602fe4396"), looks := false }, kinds := [], alts := [], laidByText := true, laidKinds := [.funcs], laidTests := true, laidLooks := .later }
def PhysicsLocalUptoCardSaid : Prop := Claim7.holds Tryd.pinned (.plain (OpenSpec.upto physicsLocalSpec)) physicsLocalUptoCard

/-- THE SECOND FORM's CARD OF 'tiltyardlaw20.PhysicsSame'. -/
def physicsSameUptoCard : Claim7 := { stood := { row := physicsSameUptoRow, standIns := [], harness := (true, "2dc604eeaab0ef8c6a5ae621bc64373b3fb410c8f4c479d492dbdd8602fe4396"), looks := false }, kinds := [], alts := [], laidByText := true, laidKinds := [.funcs], laidTests := true, laidLooks := .later }
def PhysicsSameUptoCardSaid : Prop := Claim7.holds Tryd.pinned (.plain (OpenSpec.upto physicsSameSpec)) physicsSameUptoCard
end Rows
end Go.Proofs.YtamobmjfdiecbaaDoor
