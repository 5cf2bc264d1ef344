/- A part of the proof. -/
import Derived.Test.YtbcnnpkfkopoeaaGreatDoorSc
namespace Go.VZ
open Go Go.V Go.Proofs Tryz Go.RowKit
theorem PI:(match tab23[0]? with|some e=>iK CL 4000 23 [.str e.1] (.tuple [pCl e.2,.int .i64 0])|none=>false)=true:=k_
theorem PH:(match tab23[1]? with|some e=>iK CL 4000 23 [.str e.1] (.tuple [pCl e.2,.int .i64 0])|none=>false)=true:=k_
theorem PG:(match tab23[2]? with|some e=>iK CL 4000 23 [.str e.1] (.tuple [pCl e.2,.int .i64 0])|none=>false)=true:=k_
theorem PF:(match tab23[3]? with|some e=>iK CL 4000 23 [.str e.1] (.tuple [pCl e.2,.int .i64 0])|none=>false)=true:=k_
end Go.VZ
