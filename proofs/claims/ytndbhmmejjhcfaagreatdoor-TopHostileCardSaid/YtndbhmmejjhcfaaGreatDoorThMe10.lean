/- Me10: one call of means(), by its run over abstract values. Whole own work; no condition. -/
import Derived.Test.YtndbhmmejjhcfaaGreatDoorTh3
namespace Go.Proofs.YtndbhmmejjhcfaaGreatDoor
open Go Go.Sx Go.Cx Go.Proofs
set_option maxRecDepth 1000000
theorem e10B : entB (runFn Tryz.prog tab 14 3000 59) e10 = true := by kernel_rfl
end Go.Proofs.YtndbhmmejjhcfaaGreatDoor
