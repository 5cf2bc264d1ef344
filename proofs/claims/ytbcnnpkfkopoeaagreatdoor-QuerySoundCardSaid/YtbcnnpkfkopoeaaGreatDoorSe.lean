/- A part of the proof. -/
import Derived.Test.YtbcnnpkfkopoeaaGreatDoorSxpb0
import Derived.Test.YtbcnnpkfkopoeaaGreatDoorSxpb1
import Derived.Test.YtbcnnpkfkopoeaaGreatDoorSxpb2
import Derived.Test.YtbcnnpkfkopoeaaGreatDoorSxpb3
namespace Go.VZ
open Go Go.V Go.Proofs Tryz Go.RowKit
theorem Je{e:ByteArray × Cl}(he:e∈tab23):iK CL 4000 23 [.str e.1] (.tuple [pCl e.2,.int .i64 0])=true:=by
 have⟨i,a⟩:=iB he;have b:i<16:=(aB.1 a).1;rcases(show i=0\/i=1\/i=2\/i=3\/i=4\/i=5\/i=6\/i=7\/i=8\/i=9\/i=10\/i=11\/i=12\/i=13\/i=14\/i=15 by omega)with rfl|rfl|rfl|rfl|rfl|rfl|rfl|rfl|rfl|rfl|rfl|rfl|rfl|rfl|rfl|rfl
 ·have:=PI;rw[a]at this;exact this
 ·have:=PH;rw[a]at this;exact this
 ·have:=PG;rw[a]at this;exact this
 ·have:=PF;rw[a]at this;exact this
 ·have:=PE;rw[a]at this;exact this
 ·have:=PD;rw[a]at this;exact this
 ·have:=PC;rw[a]at this;exact this
 ·have:=PB;rw[a]at this;exact this
 ·have:=PA;rw[a]at this;exact this
 ·have:=O9;rw[a]at this;exact this
 ·have:=Ly;rw[a]at this;exact this
 ·have:=Lx;rw[a]at this;exact this
 ·have:=Lw;rw[a]at this;exact this
 ·have:=Lv;rw[a]at this;exact this
 ·have:=Lu;rw[a]at this;exact this
 have:=Lt;rw[a]at this;exact this
theorem J4:sd prog 23 Gc:=by
 intro b h r m a B n σ w o d f g;unfold Gc at a;split at a<;>try(cases a;done)
 rename_i s;split at a<;>try(cases a;done)
 rename_i e c;simp only[aA,aE]at a;obtain⟨rfl,rfl⟩:=a;have i:=jA c;have j:e.1=s:=by simpa using pB c
 subst j;have k:=gc (Je i);have l:dJ CL (Go.V.Call CL) 23 [.str e.1] h=some (.tuple [pCl e.2,.int .i64 0],h):=by rw[kE (l':=[.str e.1]) k_ rfl rfl s_,k]
 exact sm (C:=CL) rfl (zS (C:=CL) Ey mz) d k_ l f g
end Go.VZ
