/- A part of the proof. -/
import Derived.Test.YtclakfnjdnibeaaGreatDoorV34
namespace Go.V
open Go
def HoldC(h:H) (st:OSt) (id:Nat) (cs:LA):Prop:=h[id]?=some (.cells cs st)/\mz cs=some cs/\cs.all short=true/\cs.length<90000
theorem HoldC.freeze{h:H}{id:Nat}{cs:LA}{l:List Nat}(k:HoldC h .live id cs) (hm:id∈l):HoldC (freeze h l) .frozen id cs:=by refine⟨?_,k.2⟩;rw[mw,k.1];simp[hm]
section
variable {C:Cfg}{cf:FuncId}{ops:Array Oper}{ty:TypeId}{p:String}{af:Array Edge}{l:List Oper}{s:PT}{h:H}{K:PT->H->Prop}
@[go_sem] theorem QP (t:TypeId) (m k v:Operand):OW C cf ops (⟨none,.mapUpdate t m k v,ty,p,af,none⟩::l) s h K↔bO (bi2 (ev s m) (ev s k) λa b=>bi1 (ev s v) λc=>ed C.P h t a b c) λh'=>OW C cf ops l s h' K:=by
 rw[rJ rfl,bO_iff];simp only[opA];constructor
 ·rintro⟨z,h',e,n⟩;split at e<;>try(cases e;done)
  rename_i a b c f g i;split at e<;>try(cases e;done)
  rename_i j d;simp only[aA,aD]at e;obtain⟨rfl,rfl⟩:=e;exact⟨j,by rw[f,g,i];exact d,n⟩
 rintro⟨j,d,n⟩;cases f:ev s m with
 |none=>rw[f]at d;cases d
 |some a=>cases g:ev s k with
  |none=>rw[f,g]at d;cases d
  |some b=>cases i:ev s v with
   |none=>rw[f,g,i]at d;cases d
   |some c=>rw[f,g,i]at d;exact⟨AV.undef,j,by simp only[show ed C.P h t a b c=some j from d],n⟩
end
end Go.V
namespace Go.V
open Go
section
variable {C:Cfg}{cf:FuncId}{ops:Array Oper}{d:Tmp}{ty:TypeId}{p:String}{af:Array Edge}{l:List Oper}{s:PT}{h:H}{K:PT->H->Prop}
end
end Go.V
