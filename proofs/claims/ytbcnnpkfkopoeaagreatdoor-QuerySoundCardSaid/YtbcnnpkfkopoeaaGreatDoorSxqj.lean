/- A part of the proof. -/
import Derived.Test.YtbcnnpkfkopoeaaGreatDoorSxqg
namespace Go.VZ
open Go Go.V Go.Proofs Tryz Go.RowKit
theorem RL:iK CK 4000 12 [lY,fC] (.tuple [.int .i64 0,.int .i64 0])=true:=k_
end Go.VZ
