/- Closed facts of the row, one by one: the program's texts that the call comes to. -/
import Derived.Test.YtdoegkegjaadeaaGreatDoorCards
import Derived.JoinedCond
import Derived.SevenTiedAt
namespace Go.Proofs.YtdoegkegjaadeaaGreatDoor.querySecret
open Go
theorem jf9:((Rows.querySecretRow.inPlace==Tryz.prog.inPlace 3))=true:=by kernel_rfl
theorem jf10:((Rows.querySecretRow.unfollowed==Tryz.prog.unfollowed 3))=true:=by kernel_rfl
theorem jf11:((Rows.querySecretRow.recurses==Tryz.prog.recurses 3))=true:=by kernel_rfl
theorem jf12:((Rows.querySecretRow.named==Tryz.prog.varsNamed 3))=true:=by kernel_rfl
end Go.Proofs.YtdoegkegjaadeaaGreatDoor.querySecret
