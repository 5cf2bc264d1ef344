/- A part of the proof. -/
import Derived.Test.YtbcnnpkfkopoeaaGreatDoorSxqg
namespace Go.VZ
open Go Go.V Go.Proofs Tryz Go.RowKit
def GP(C:Cfg) (m:Nat) (f:FuncId) (args:LA):Bool:=match fM C m f args []with
 |some (r,h)=>match eW (bo h) cM r with
  |some (.tuple [.isl [_] _,.int .i64 0])=>true
  |_=>false
 |none=>false
theorem Ce{C:Cfg}{m:Nat}{f:FuncId}{args:LA}(h:GP C m f args=true):∃x e,az C f args=some (.tuple [.isl [x] e,.int .i64 0]):=by
 unfold GP at h;split at h<;>try(cases h;done)
 rename_i r c a;split at h<;>try(cases h;done)
 rename_i x e b;refine⟨x,e,?_⟩;unfold az;rw[zU m a];exact b
theorem SG:GP CK 4000 13 [lK,Km tK,.int .i64 1]=true:=k_
end Go.VZ
