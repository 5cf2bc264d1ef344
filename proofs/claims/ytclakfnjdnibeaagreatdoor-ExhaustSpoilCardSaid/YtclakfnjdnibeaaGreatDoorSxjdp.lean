/- A part of the proof. -/
import Derived.Test.YtclakfnjdnibeaaGreatDoorCards
import Derived.JoinedCond
import Derived.SevenTiedAt
namespace Go.Proofs.YtclakfnjdnibeaaGreatDoor.exhaustSpoil
open Go
theorem jf9:((Rows.exhaustSpoilRow.inPlace==Tryz.prog.inPlace 5))=true:=by kernel_rfl
theorem jf10:((Rows.exhaustSpoilRow.unfollowed==Tryz.prog.unfollowed 5))=true:=by kernel_rfl
theorem jf11:((Rows.exhaustSpoilRow.recurses==Tryz.prog.recurses 5))=true:=by kernel_rfl
theorem jf12:((Rows.exhaustSpoilRow.named==Tryz.prog.varsNamed 5))=true:=by kernel_rfl
end Go.Proofs.YtclakfnjdnibeaaGreatDoor.exhaustSpoil
