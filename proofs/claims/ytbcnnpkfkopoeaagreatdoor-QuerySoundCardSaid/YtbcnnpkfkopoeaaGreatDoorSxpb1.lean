/- A part of the proof. -/
import Derived.Test.YtbcnnpkfkopoeaaGreatDoorSc
namespace Go.VZ
open Go Go.V Go.Proofs Tryz Go.RowKit
theorem PE:(match tab23[4]? with|some e=>iK CL 4000 23 [.str e.1] (.tuple [pCl e.2,.int .i64 0])|none=>false)=true:=k_
theorem PD:(match tab23[5]? with|some e=>iK CL 4000 23 [.str e.1] (.tuple [pCl e.2,.int .i64 0])|none=>false)=true:=k_
theorem PC:(match tab23[6]? with|some e=>iK CL 4000 23 [.str e.1] (.tuple [pCl e.2,.int .i64 0])|none=>false)=true:=k_
theorem PB:(match tab23[7]? with|some e=>iK CL 4000 23 [.str e.1] (.tuple [pCl e.2,.int .i64 0])|none=>false)=true:=k_
end Go.VZ
