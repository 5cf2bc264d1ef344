/- A part of the proof. -/
import Derived.Test.YtclakfnjdnibeaaGreatDoorCards
import Derived.JoinedCond
import Derived.SevenTiedAt
namespace Go.Proofs.YtclakfnjdnibeaaGreatDoor.exhaustForms
open Go
theorem jf9:((Rows.exhaustFormsRow.inPlace==Tryz.prog.inPlace 4))=true:=by kernel_rfl
theorem jf10:((Rows.exhaustFormsRow.unfollowed==Tryz.prog.unfollowed 4))=true:=by kernel_rfl
theorem jf11:((Rows.exhaustFormsRow.recurses==Tryz.prog.recurses 4))=true:=by kernel_rfl
theorem jf12:((Rows.exhaustFormsRow.named==Tryz.prog.varsNamed 4))=true:=by kernel_rfl
end Go.Proofs.YtclakfnjdnibeaaGreatDoor.exhaustForms
