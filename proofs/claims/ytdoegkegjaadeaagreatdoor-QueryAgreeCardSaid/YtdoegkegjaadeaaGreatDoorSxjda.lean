/- Closed facts of the row, one by one: the program's texts that the call comes to. -/
import Derived.Test.YtdoegkegjaadeaaGreatDoorCards
import Derived.JoinedCond
import Derived.SevenTiedAt
namespace Go.Proofs.YtdoegkegjaadeaaGreatDoor.queryAgree
open Go
theorem jf9:((Rows.queryAgreeRow.inPlace==Tryz.prog.inPlace 4))=true:=by kernel_rfl
theorem jf10:((Rows.queryAgreeRow.unfollowed==Tryz.prog.unfollowed 4))=true:=by kernel_rfl
theorem jf11:((Rows.queryAgreeRow.recurses==Tryz.prog.recurses 4))=true:=by kernel_rfl
theorem jf12:((Rows.queryAgreeRow.named==Tryz.prog.varsNamed 4))=true:=by kernel_rfl
end Go.Proofs.YtdoegkegjaadeaaGreatDoor.queryAgree
