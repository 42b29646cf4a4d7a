/-
  DERIVED. GIVEN WITH THE SEED: THE CARDS: each row of YtfnepdppkmjboaaDoorRows.lean that lists a variable, with what it lists TIED to the program's text (the seventh form; the later family's looks); each row that meets fmt, with fmt's text TOLD by the authors' own Lean function (tested against real Go, not proved from fmt's source: count such statements apart). THE CARD IS WHAT COUNTS. Prove the row's statement (the work); the ties are given (YtfnepdppkmjboaaDoorTie.lean); close each card by the builder's one call (the guide's Derived/Test/ToyasCard.lean, 'card_holds'). Laid BY PROGRAM, IN A SANDBOX (cutbox-door.mjs). By AI agents, Wed Nov 11 2026. No macro, syntax, notation, axiom, sorry.
-/
import Derived.Test.YtfnepdppkmjboaaDoorRows
import GoSem.ClaimSeven
namespace Go.Proofs.YtfnepdppkmjboaaDoor
namespace Rows

/-- THE TIED CARD OF 'tiltyardlaw22.SnapJust'. -/
def snapJustCard : Claim7 := { stood := { row := snapJustRow, standIns := [], harness := (true, "c7fc86477042e4bb92511df7c8e20f07a572fdadd06ab3729bf6f08c4708b989"), looks := false }, kinds := [], alts := [], laidByText := true, laidKinds := [.funcsDeep], laidTests := true, laidLooks := .later }
def SnapJustCardSaid : Prop := Claim7.holds Tryd.pinned (.plain (OpenSpec.ofChange snapJustSpec)) snapJustCard

/-- THE TIED CARD OF 'tiltyardlaw22.SnapComes'. -/
def snapComesCard : Claim7 := { stood := { row := snapComesRow, standIns := [], harness := (true, "c7fc86477042e4bb92511df7c8e20f07a572fdadd06ab3729bf6f08c4708b989"), looks := false }, kinds := [], alts := [], laidByText := true, laidKinds := [.funcsDeep], laidTests := true, laidLooks := .later }
def SnapComesCardSaid : Prop := Claim7.holds Tryd.pinned (.plain (OpenSpec.ofChange snapComesSpec)) snapComesCard

/-- THE TIED CARD OF 'tiltyardlaw22.SnapWhole'. -/
def snapWholeCard : Claim7 := { stood := { row := snapWholeRow, standIns := [], harness := (true, "c7fc86477042e4bb92511df7c8e20f07a572fdadd06ab3729bf6f08c4708b989"), looks := false }, kinds := [], alts := [], laidByText := true, laidKinds := [.funcsDeep], laidTests := true, laidLooks := .later }
def SnapWholeCardSaid : Prop := Claim7.holds Tryd.pinned (.plain (OpenSpec.ofChange snapWholeSpec)) snapWholeCard

/-- THE TIED CARD OF 'tiltyardlaw22.SnapSmall'. -/
def snapSmallCard : Claim7 := { stood := { row := snapSmallRow, standIns := [], harness := (true, "c7fc86477042e4bb92511df7c8e20f07a572fdadd06ab3729bf6f08c4708b989"), looks := false }, kinds := [], alts := [], laidByText := true, laidKinds := [.funcsDeep], laidTests := true, laidLooks := .later }
def SnapSmallCardSaid : Prop := Claim7.holds Tryd.pinned (.plain (OpenSpec.ofChange snapSmallSpec)) snapSmallCard

/-- THE TIED CARD OF 'tiltyardlaw22.SnapAcks'. -/
def snapAcksCard : Claim7 := { stood := { row := snapAcksRow, standIns := [], harness := (true, "c7fc86477042e4bb92511df7c8e20f07a572fdadd06ab3729bf6f08c4708b989"), looks := false }, kinds := [], alts := [], laidByText := true, laidKinds := [.funcsDeep], laidTests := true, laidLooks := .later }
def SnapAcksCardSaid : Prop := Claim7.holds Tryd.pinned (.plain (OpenSpec.ofChange snapAcksSpec)) snapAcksCard

/-- THE TIED CARD OF 'tiltyardlaw22.SnapNear'. -/
def snapNearCard : Claim7 := { stood := { row := snapNearRow, standIns := [], harness := (true, "c7fc86477042e4bb92511df7c8e20f07a572fdadd06ab3729bf6f08c4708b989"), looks := false }, kinds := [], alts := [], laidByText := true, laidKinds := [.funcsDeep], laidTests := true, laidLooks := .later }
def SnapNearCardSaid : Prop := Claim7.holds Tryd.pinned (.plain (OpenSpec.ofChange snapNearSpec)) snapNearCard

/-- THE TIED CARD OF 'tiltyardlaw22.SnapInside'. -/
def snapInsideCard : Claim7 := { stood := { row := snapInsideRow, standIns := [], harness := (true, "c7fc86477042e4bb92511df7c8e20f07a572fdadd06ab3729bf6f08c4708b989"), looks := false }, kinds := [], alts := [], laidByText := true, laidKinds := [.funcsDeep], laidTests := true, laidLooks := .later }
def SnapInsideCardSaid : Prop := Claim7.holds Tryd.pinned (.plain (OpenSpec.ofChange snapInsideSpec)) snapInsideCard

/-- THE SECOND FORM's CARD OF 'tiltyardlaw22.SnapJust'. -/
def snapJustUptoCard : Claim7 := { stood := { row := snapJustUptoRow, standIns := [], harness := (true, "c7fc86477042e4bb92511df7c8e20f07a572fdadd06ab3729bf6f08c4708b989"), looks := false }, kinds := [], alts := [], laidByText := true, laidKinds := [.funcsDeep], laidTests := true, laidLooks := .later }
def SnapJustUptoCardSaid : Prop := Claim7.holds Tryd.pinned (.plain (OpenSpec.upto snapJustSpec)) snapJustUptoCard

/-- THE SECOND FORM's CARD OF 'tiltyardlaw22.SnapComes'. -/
def snapComesUptoCard : Claim7 := { stood := { row := snapComesUptoRow, standIns := [], harness := (true, "c7fc86477042e4bb92511df7c8e20f07a572fdadd06ab3729bf6f08c4708b989"), looks := false }, kinds := [], alts := [], laidByText := true, laidKinds := [.funcsDeep], laidTests := true, laidLooks := .later }
def SnapComesUptoCardSaid : Prop := Claim7.holds Tryd.pinned (.plain (OpenSpec.upto snapComesSpec)) snapComesUptoCard

/-- THE SECOND FORM's CARD OF 'tiltyardlaw22.SnapWhole'. -/
def snapWholeUptoCard : Claim7 := { stood := { row := snapWholeUptoRow, standIns := [], harness := (true, "c7fc86477042e4bb92511df7c8e20f07a572fdadd06ab3729bf6f08c4708b989"), looks := false }, kinds := [], alts := [], laidByText := true, laidKinds := [.funcsDeep], laidTests := true, laidLooks := .later }
def SnapWholeUptoCardSaid : Prop := Claim7.holds Tryd.pinned (.plain (OpenSpec.upto snapWholeSpec)) snapWholeUptoCard

/-- THE SECOND FORM's CARD OF 'tiltyardlaw22.SnapSmall'. -/
def snapSmallUptoCard : Claim7 := { stood := { row := snapSmallUptoRow, standIns := [], harness := (true, "c7fc86477042e4bb92511df7c8e20f07a572fdadd06ab3729bf6f08c4708b989"), looks := false }, kinds := [], alts := [], laidByText := true, laidKinds := [.funcsDeep], laidTests := true, laidLooks := .later }
def SnapSmallUptoCardSaid : Prop := Claim7.holds Tryd.pinned (.plain (OpenSpec.upto snapSmallSpec)) snapSmallUptoCard

/-- THE SECOND FORM's CARD OF 'tiltyardlaw22.SnapAcks'. -/
def snapAcksUptoCard : Claim7 := { stood := { row := snapAcksUptoRow, standIns := [], harness := (true, "c7fc86477042e4bb92511df7c8e20f07a572fdadd06ab3729bf6f08c4708b989"), looks := false }, kinds := [], alts := [], laidByText := true, laidKinds := [.funcsDeep], laidTests := true, laidLooks := .later }
def SnapAcksUptoCardSaid : Prop := Claim7.holds Tryd.pinned (.plain (OpenSpec.upto snapAcksSpec)) snapAcksUptoCard

/-- THE SECOND FORM's CARD OF 'tiltyardlaw22.SnapNear'. -/
def snapNearUptoCard : Claim7 := { stood := { row := snapNearUptoRow, standIns := [], harness := (true, "c7fc86477042e4bb92511df7c8e20f07a572fdadd06ab3729bf6f08c4708b989"), looks := false }, kinds := [], alts := [], laidByText := true, laidKinds := [.funcsDeep], laidTests := true, laidLooks := .later }
def SnapNearUptoCardSaid : Prop := Claim7.holds Tryd.pinned (.plain (OpenSpec.upto snapNearSpec)) snapNearUptoCard

/-- THE SECOND FORM's CARD OF 'tiltyardlaw22.SnapInside'. -/
def snapInsideUptoCard : Claim7 := { stood := { row := snapInsideUptoRow, standIns := [], harness := (true, "c7fc86477042e4bb92511df7c8e20f07a572fdadd06ab3729bf6f08c4708b989"), looks := false }, kinds := [], alts := [], laidByText := true, laidKinds := [.funcsDeep], laidTests := true, laidLooks := .later }
def SnapInsideUptoCardSaid : Prop := Claim7.holds Tryd.pinned (.plain (OpenSpec.upto snapInsideSpec)) snapInsideUptoCard
end Rows
end Go.Proofs.YtfnepdppkmjboaaDoor
