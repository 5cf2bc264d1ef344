/- Closed runs of chapter 48: claims. -/
import Derived.Test.YtdoegkegjaadeaaGreatDoorQSxqg
namespace Go.VZ
open Go Go.V Go.Proofs Go.RowKit
theorem agree_X : runIs CK 4000 14 [lX, fC] (.tuple [.int .i64 0, .int .i64 15]) = true := by kernel_rfl
end Go.VZ
