/- Closed facts of the row, one by one: the program's texts that the call comes to. -/
import Derived.Test.YtdoegkegjaadeaaGreatDoorCards
import Derived.JoinedCond
import Derived.SevenTiedAt
namespace Go.Proofs.YtdoegkegjaadeaaGreatDoor.exhaustCovered
open Go
theorem jf9 : ((Rows.exhaustCoveredUptoRow.inPlace == Tryz.prog.inPlace 6)) = true := by kernel_rfl
theorem jf10 : ((Rows.exhaustCoveredUptoRow.unfollowed == Tryz.prog.unfollowed 6)) = true := by kernel_rfl
theorem jf11 : ((Rows.exhaustCoveredUptoRow.recurses == Tryz.prog.recurses 6)) = true := by kernel_rfl
theorem jf12 : ((Rows.exhaustCoveredUptoRow.named == Tryz.prog.varsNamed 6)) = true := by kernel_rfl
end Go.Proofs.YtdoegkegjaadeaaGreatDoor.exhaustCovered
