/-
  DERIVED. GIVEN WITH THE SEED: THE CARDS: each row of YtndbhmmejjhcfaaGreatDoorRows.lean that lists a variable, with what it lists TIED to the program's text (the seventh form; the later family's looks); each row that meets fmt, with fmt's text TOLD by the authors' own Lean function (tested against real Go, not proved from fmt's source: count such statements apart). THE CARD IS WHAT COUNTS. Prove the row's statement (the work); the ties are given (YtndbhmmejjhcfaaGreatDoorTie.lean); close each card by the builder's one call (the guide's Derived/Test/ToyasCard.lean, 'card_holds'). Laid BY PROGRAM, IN A SANDBOX (cutbox-door.mjs). By AI agents, Wed Nov 11 2026. No macro, syntax, notation, axiom, sorry.
-/
import Derived.Test.YtndbhmmejjhcfaaGreatDoorRows
import GoSem.ClaimSeven
namespace Go.Proofs.YtndbhmmejjhcfaaGreatDoor
namespace Rows

/-- THE TIED CARD OF 'tiltyardtop.TopHostile'. -/
def topHostileCard : Claim7 := { stood := { row := topHostileRow, standIns := [], harness := (true, "8c7c215eda01a346ad36db2ce020970c58cbbb865f145a9f246435db0e97881e"), looks := true }, kinds := [], alts := [], laidByText := true, laidKinds := [.data, .data, .data, .data, .sentinel, .sentinel, .data, .data, .data, .data, .pinned], laidTests := true, laidLooks := .later }
def TopHostileCardSaid : Prop := Claim7.holds Tryz.pinned (.plain (OpenSpec.ofChange topHostileSpec)) topHostileCard

/-- THE SECOND FORM's CARD OF 'tiltyardtop.TopHostile'. -/
def topHostileUptoCard : Claim7 := { stood := { row := topHostileUptoRow, standIns := [], harness := (true, "8c7c215eda01a346ad36db2ce020970c58cbbb865f145a9f246435db0e97881e"), looks := true }, kinds := [], alts := [], laidByText := true, laidKinds := [.data, .data, .data, .data, .sentinel, .sentinel, .data, .data, .data, .data, .pinned], laidTests := true, laidLooks := .later }
def TopHostileUptoCardSaid : Prop := Claim7.holds Tryz.pinned (.plain (OpenSpec.upto topHostileSpec)) topHostileUptoCard
end Rows
end Go.Proofs.YtndbhmmejjhcfaaGreatDoor
