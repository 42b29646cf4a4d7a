/- The law TopHostile of the given program holds, as its tied card says: the row out of topHostile_law (the walk and the plain law together), the card by the given tie. Condition: the listed variables read as the program's text lays them (the card ties it). -/
import Derived.Test.YtndbhmmejjhcfaaGreatDoorCards
import Derived.Test.YtndbhmmejjhcfaaGreatDoorTie
import Derived.Test.YtndbhmmejjhcfaaGreatDoorThLb
import Derived.SevenTiedAt
namespace Go.Proofs.YtndbhmmejjhcfaaGreatDoor.topHostile
open Go.Sx Go.ChangeShapes Go.WideShapes Go.ChangeAt Go.RowKit
open Go.ChangeMaps (open_string shut_string)
theorem cf1 : Rows.topHostileRow.wfByText (OpenSpec.ofChange Rows.topHostileSpec) = true := by kernel_rfl
theorem cf2 : Tryz.pinned.checked.prog.mainIs = some (true, "8c7c215eda01a346ad36db2ce020970c58cbbb865f145a9f246435db0e97881e".toList) := by kernel_rfl
theorem cf3 : true = Tryz.prog.looks [] := by kernel_rfl
theorem cf4 : false = Rows.topHostileRow.goesBy Tryz.prog := by kernel_rfl
theorem cf5 : Tryz.prog.funcNamed "tiltyard/tiltyardtop.TopHostile" = some 3 := by kernel_rfl
theorem cf6 : ([22, 26].all fun u => !Tryz.prog.wantsStandIn u) = true := by kernel_rfl
theorem proved : Rows.TopHostileCardSaid :=
  Claim7.holds_tied_plain_at .later [] [.data, .data, .data, .data, .sentinel, .sentinel, .data, .data, .data, .data, .pinned] true (true, "8c7c215eda01a346ad36db2ce020970c58cbbb865f145a9f246435db0e97881e") true
    over (fun _ h => by cases h) cf1 (fun _ h => by cases h) topHostile_row_tie rfl ⟨rfl, rfl⟩ cf2 rfl
    (fun f fn hf hfn => by
      obtain rfl : f = 3 := Option.some.inj (cf5.symm.trans hf) |>.symm
      obtain rfl : fn = Tryz.f3 := (Option.some.inj (Tryz.func3.symm.trans hfn)).symm
      exact ⟨cf3, fun j t ht => by
        rw [Tryz.params3] at ht
        have hm : t ∈ [22, 26] := by simpa using Array.mem_of_getElem? ht
        have hall := cf6
        exact (show Tryz.prog.wantsStandIn t = false by simpa using List.all_eq_true.1 hall t hm)⟩)
    cf4
end Go.Proofs.YtndbhmmejjhcfaaGreatDoor.topHostile
namespace Go.Proofs.YtndbhmmejjhcfaaGreatDoor
theorem topHostile_holds : Rows.TopHostileCardSaid := topHostile.proved
#print axioms topHostile_holds
end Go.Proofs.YtndbhmmejjhcfaaGreatDoor
