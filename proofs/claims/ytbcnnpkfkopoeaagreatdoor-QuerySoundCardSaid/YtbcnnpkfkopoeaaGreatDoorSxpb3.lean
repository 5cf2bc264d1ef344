/- A part of the proof. -/
import Derived.Test.YtbcnnpkfkopoeaaGreatDoorSc
namespace Go.VZ
open Go Go.V Go.Proofs Tryz Go.RowKit
theorem Lw:(match tab23[12]? with|some e=>iK CL 4000 23 [.str e.1] (.tuple [pCl e.2,.int .i64 0])|none=>false)=true:=k_
theorem Lv:(match tab23[13]? with|some e=>iK CL 4000 23 [.str e.1] (.tuple [pCl e.2,.int .i64 0])|none=>false)=true:=k_
theorem Lu:(match tab23[14]? with|some e=>iK CL 4000 23 [.str e.1] (.tuple [pCl e.2,.int .i64 0])|none=>false)=true:=k_
theorem Lt:(match tab23[15]? with|some e=>iK CL 4000 23 [.str e.1] (.tuple [pCl e.2,.int .i64 0])|none=>false)=true:=k_
end Go.VZ
