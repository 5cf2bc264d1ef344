/- Closed facts of the row, one by one: the program's texts that the call comes to. -/
import Derived.Test.YtdoegkegjaadeaaGreatDoorCards
import Derived.JoinedCond
import Derived.SevenTiedAt
namespace Go.Proofs.YtdoegkegjaadeaaGreatDoor.exhaustCovered
open Go
theorem jf9 : ((Rows.exhaustCoveredRow.inPlace == Tryz.prog.inPlace 6)) = true := by kernel_rfl
theorem jf10 : ((Rows.exhaustCoveredRow.unfollowed == Tryz.prog.unfollowed 6)) = true := by kernel_rfl
theorem jf11 : ((Rows.exhaustCoveredRow.recurses == Tryz.prog.recurses 6)) = true := by kernel_rfl
theorem jf12 : ((Rows.exhaustCoveredRow.named == Tryz.prog.varsNamed 6)) = true := by kernel_rfl
end Go.Proofs.YtdoegkegjaadeaaGreatDoor.exhaustCovered
