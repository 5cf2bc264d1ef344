/- A part of the proof. -/
import Derived.Test.YtclakfnjdnibeaaGreatDoorV34
namespace Go.V
open Go
def HoldC(h:H) (st:OSt) (id:Nat) (cs:LA):Prop:=h[id]?=some (.cells cs st)/\jd cs=some cs/\cs.all short=true/\cs.length<90000
theorem zq{h:H}:∀(l:List (Nat × LA)),(∀p∈l,HoldC h .frozen p.1 p.2)->∀n,991000+l.length<=n->gE h n (l.map λp=>AV.ptr p.1 0)=some (l.map λp=>AV.iptr (.agg p.2) 0)
 |[],_,n,hn=>by obtain⟨m,rfl⟩:∃m,n=m+1:=⟨n-1,o_⟩;rfl
 |p::l,hp,n,hn=>by
  simp only[aG]at hn;obtain⟨m,rfl⟩:∃m,n=m+2:=⟨n-2,o_⟩
  have⟨a,b,c,g⟩:=hp p s_;have d:=zq l (λq e=>hp q (by simp[e])) (m+1) o_;have f:=(eo (h:=h) b c m o_).1;simp only[aS,gE,fc,a,f,d]
theorem yG{h:H}:∀(l:List (Nat × LA)) (n:Nat),l.length+1<=n->∀p∈l,p.1∈cY h n (l.map λp=>AV.ptr p.1 0)
 |[],n,hn,p,hp=>by simp at hp
 |q::l,n,hn,p,hp=>by
  simp only[aG]at hn;obtain⟨m,rfl⟩:∃m,n=m+2:=⟨n-2,o_⟩
  simp only[aS,cY,iW];rcases ao.1 hp with rfl|hp
  ·simp
  exact de _ (yG l (m+1) o_ p hp)
theorem HoldC.freeze{h:H}{id:Nat}{cs:LA}{l:List Nat}(k:HoldC h .live id cs) (hm:id∈l):HoldC (freeze h l) .frozen id cs:=by refine⟨?_,k.2⟩;rw[mI,k.1];simp[hm]
theorem CU{C:Cfg}{f gf:FuncId}{h:H}{a a' v:AV}{l:List (Nat × LA)}(hb:eE C.P f=true) (hm:C.mode f=.strip) (hd:jd [a]=some [a']) (hs:short a=true) (hl:∀p∈l,HoldC h .live p.1 p.2) (hn:l.length<1000)
  (hc:az C f [a',.func gf (l.map λp=>AV.iptr (.agg p.2) 0)]=some v) (hsv:Gg v=true):ak C h (.func f []) (some [a,.func gf (l.map λp=>AV.ptr p.1 0)])=some (v,h):=by
 obtain⟨m,d⟩:∃m,dD=m+3:=⟨999997,rfl⟩
 have n:m=999997:=by unfold dD at d;omega
 have i:∀p∈l,p.1∈cY h dD [a,.func gf (l.map λp=>AV.ptr p.1 0)]:=λp c=>by rw[d];simp only[cY,iW];exact de _ (dN _ (yG l _ o_ p c))
 generalize e:cY h dD [a,.func gf (l.map λp=>AV.ptr p.1 0)]=R at i;have j:gE (freeze h R) dD [a,.func gf (l.map λp=>AV.ptr p.1 0)]=some [a',.func gf (l.map λp=>AV.iptr (.agg p.2) 0)]:=by
  have k:=zq (h:=freeze h R) l (λp c=>(hl p c).freeze (i p c)) m o_;have b:=(eo (h:=freeze h R) hd (by simp[hs]) (m+3) (by simp;omega)).1;rw[d];simp only[gE]at b ⊢;have s3:fc (freeze h R) (m+2) a=some a':=by
   split at b<;>try(cases b;done)
   rename_i x y g o;simp only[aA,bw]at b;rw[g,b.1]
  have s4:fc (freeze h R) (m+1) (AV.func gf (l.map λp=>AV.ptr p.1 0))=some (AV.func gf (l.map λp=>AV.iptr (.agg p.2) 0)):=by simp only[fc,k]
  rw[s3,s4]
 simp only[ak,hb,if_true,bm];unfold dM;rw[hm];dsimp only;rw[e,j];unfold az at hc;dsimp only;split at hc<;>try(cases hc;done)
 rename_i r q g;rw[g];dsimp only;unfold ky lg;dsimp only;rw[hc];dsimp only;rw[if_pos hsv]
theorem sG{C:Cfg}{f:FuncId}{l caps l':LA}{v:AV}(hb:eE C.P f=true) (hm:C.mode f=.strip) (hd:jd (l++caps)=some l') (hs:(l++caps).all short=true) (hl:(l++caps).length<90000) (hc:az C f l'=some v) (h:H) :
  ak C h (.func f caps) (some l)=some (v,h):=by
 simp only[ak,hb,if_true];rw[oI hm hd hs hl,hc]
section
variable {C:Cfg}{cf:FuncId}{ops:Array Oper}{ty:TypeId}{p:String}{af:Array Edge}{l:List Oper}{s:PT}{h:H}{K:PT->H->Prop}
@[go_sem] theorem Ta (t:TypeId) (m k v:Operand):OW C cf ops (⟨none,.mapUpdate t m k v,ty,p,af,none⟩::l) s h K↔bO (bi2 (ev s m) (ev s k) λa b=>bi1 (ev s v) λc=>fS C.P h t a b c) λh'=>OW C cf ops l s h' K:=by
 rw[qX rfl,bO_iff];simp only[opA];constructor
 ·rintro⟨z,h',e,n⟩;split at e<;>try(cases e;done)
  rename_i a b c f g i;split at e<;>try(cases e;done)
  rename_i j d;simp only[aA,aD]at e;obtain⟨rfl,rfl⟩:=e;exact⟨j,by rw[f,g,i];exact d,n⟩
 rintro⟨j,d,n⟩;cases f:ev s m with
 |none=>rw[f]at d;cases d
 |some a=>cases g:ev s k with
  |none=>rw[f,g]at d;cases d
  |some b=>cases i:ev s v with
   |none=>rw[f,g,i]at d;cases d
   |some c=>rw[f,g,i]at d;exact⟨AV.undef,j,by simp only[show fS C.P h t a b c=some j from d],n⟩
end
end Go.V
namespace Go.V
open Go
section
variable {C:Cfg}{cf:FuncId}{ops:Array Oper}{d:Tmp}{ty:TypeId}{p:String}{af:Array Edge}{l:List Oper}{s:PT}{h:H}{K:PT->H->Prop}
@[go_sem] theorem aAB (t:TypeId) (x:Operand) (f:Nat):OW C cf ops (⟨some d,.field t x f,ty,p,af,none⟩::l) s h K↔bO (bi1 (ev s x) λa=>Ab C.P t a f) λv=>OW C cf ops l (s.set d v) h K:=OWn (by simp only[opN,bi1];cases ev s x<;>rfl) rfl rfl
end
end Go.V
