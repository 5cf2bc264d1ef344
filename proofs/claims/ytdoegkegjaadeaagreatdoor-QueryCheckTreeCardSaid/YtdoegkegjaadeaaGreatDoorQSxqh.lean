/- Closed runs of chapter 48: secrets. -/
import Derived.Test.YtdoegkegjaadeaaGreatDoorQSxqg
namespace Go.VZ
open Go Go.V Go.Proofs Go.RowKit
theorem secret_k : runIs CK 4000 10 [lK, tK] (.tuple [.int .i64 0, .int .i64 0]) = true := by kernel_rfl
theorem secret_s : runIs CK 4000 10 [lK, tS] (.tuple [.int .i64 0, .int .i64 15]) = true := by kernel_rfl
end Go.VZ
