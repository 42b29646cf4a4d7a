/- The row's statement of TopHostile. Condition: as its row says. -/
import Derived.Test.YtndbhmmejjhcfaaGreatDoorThLa
import Derived.Test.YtndbhmmejjhcfaaGreatDoorThJg
namespace Go.Proofs.YtndbhmmejjhcfaaGreatDoor.topHostile
open Go.Sx Go.ChangeShapes Go.WideShapes Go.ChangeAt Go.RowKit
open Go.ChangeMaps (open_string shut_string)
theorem over : Rows.TopHostileSaid :=
  OpenClaim.holds_of_wide 3 Tryz.f3 rfl rfl rfl rfl rfl rfl rfl ⟨rfl, rfl, rfl, rfl, rfl⟩ rfl rfl rfl rfl rfl (by kernel_rfl) Tryz.func3 closed
    (of_decide_eq_true (by kernel_rfl)) (by unfold Func.isWrapper; first | (rw [if_pos (by decide +kernel)]; kernel_rfl) | (rw [if_neg (by decide +kernel)]; exact ⟨rfl, rfl⟩))
    (fun os started H enc _ => lifted os started H enc)
end Go.Proofs.YtndbhmmejjhcfaaGreatDoor.topHostile
