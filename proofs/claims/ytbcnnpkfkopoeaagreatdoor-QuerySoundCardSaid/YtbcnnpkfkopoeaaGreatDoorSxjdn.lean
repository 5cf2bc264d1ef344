/- A part of the proof. -/
import Derived.Test.YtbcnnpkfkopoeaaGreatDoorCards
import Derived.JoinedCond
import Derived.SevenTiedAt
namespace Go.Proofs.YtbcnnpkfkopoeaaGreatDoor.querySound
open Go
theorem jf9:((Rows.querySoundRow.inPlace==Tryz.prog.inPlace 3))=true:=by kernel_rfl
theorem jf10:((Rows.querySoundRow.unfollowed==Tryz.prog.unfollowed 3))=true:=by kernel_rfl
theorem jf11:((Rows.querySoundRow.recurses==Tryz.prog.recurses 3))=true:=by kernel_rfl
theorem jf12:((Rows.querySoundRow.named==Tryz.prog.varsNamed 3))=true:=by kernel_rfl
end Go.Proofs.YtbcnnpkfkopoeaaGreatDoor.querySound
