/- A part of the proof. -/
import Derived.Test.YtbcnnpkfkopoeaaGreatDoorSd
import Derived.Test.YtbcnnpkfkopoeaaGreatDoorSe
namespace Go.VZ
open Go Go.V Go.Proofs Tryz Go.RowKit
theorem PQ(f:FuncId):sd C.P f (C.prim f):=by
 intro b h r g n B k σ w i d j l;have a:prim f b h=some (r,g):=n;unfold prim at a;split at a
 ·rename_i c;subst c;split at a<;>try(cases a;done)
  simp only[aA,aE]at a;obtain⟨rfl,rfl⟩:=a;have:i = #[]:=jg (by simpa using j);subst this;exact(BQ (Pw d)).mono λe p ⟨o,m⟩=>⟨_,o,σ,d.grows m,.grows d m,.data (.bool true)⟩
 split at a
 ·rename_i c;subst c;exact J4 b h r g a B k σ w i d j l
 split at a
 ·rename_i c;subst c;exact EU b h r g a B k σ w i d j l
 split at a
 ·rename_i c;subst c;exact Cm b h r g a B k σ w i d j l
 split at a
 ·rename_i c;subst c;exact EV b h r g a B k σ w i d j l
 exact mz f b h r g a B k σ w i d j l
theorem ok:Go.V.Ok C.P (Go.V.Call C):=zS Ey PQ
end Go.VZ
