/- A part of the proof. -/
import Derived.Test.YtbcnnpkfkopoeaaGreatDoorSxqg
namespace Go.VZ
open Go Go.V Go.Proofs Tryz Go.RowKit
theorem Lo:iK CK 4000 8 [lK,tK] (.tuple [.int .i64 0,.int .i64 0])=true:=k_
theorem Ln:iK CK 4000 8 [lK,tS] (.tuple [.int .i64 0,.int .i64 15])=true:=k_
end Go.VZ
