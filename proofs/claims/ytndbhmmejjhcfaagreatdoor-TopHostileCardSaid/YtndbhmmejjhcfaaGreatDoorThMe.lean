/- Me: means() with its three long calls told by the table. Whole own work; no condition. -/
import Derived.Test.YtndbhmmejjhcfaaGreatDoorTh3
namespace Go.Proofs.YtndbhmmejjhcfaaGreatDoor
open Go Go.Sx Go.Cx Go.Proofs
set_option maxRecDepth 1000000
def isT : Option (AV × AS) → Bool | some (.lit (.bool true), _) => true | _ => false
theorem meB : isT (runTop Tryz.prog tab 14 300 (callE [e9, e10, e8]) 4 [] S0) = true := by kernel_rfl
end Go.Proofs.YtndbhmmejjhcfaaGreatDoor
