/- A part of the proof. -/
import Derived.Test.YtbcnnpkfkopoeaaGreatDoorSxqg
namespace Go.VZ
open Go Go.V Go.Proofs Tryz Go.RowKit
theorem RM:iK CK 4000 12 [lX,fC] (.tuple [.int .i64 0,.int .i64 15])=true:=k_
end Go.VZ
