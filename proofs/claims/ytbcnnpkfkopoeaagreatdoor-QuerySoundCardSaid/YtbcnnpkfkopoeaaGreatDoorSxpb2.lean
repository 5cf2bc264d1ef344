/- A part of the proof. -/
import Derived.Test.YtbcnnpkfkopoeaaGreatDoorSc
namespace Go.VZ
open Go Go.V Go.Proofs Tryz Go.RowKit
theorem PA:(match tab23[8]? with|some e=>iK CL 4000 23 [.str e.1] (.tuple [pCl e.2,.int .i64 0])|none=>false)=true:=k_
theorem O9:(match tab23[9]? with|some e=>iK CL 4000 23 [.str e.1] (.tuple [pCl e.2,.int .i64 0])|none=>false)=true:=k_
theorem Ly:(match tab23[10]? with|some e=>iK CL 4000 23 [.str e.1] (.tuple [pCl e.2,.int .i64 0])|none=>false)=true:=k_
theorem Lx:(match tab23[11]? with|some e=>iK CL 4000 23 [.str e.1] (.tuple [pCl e.2,.int .i64 0])|none=>false)=true:=k_
end Go.VZ
