/- A part of the proof. -/
import Derived.Test.YtclakfnjdnibeaaGreatDoorSa
import Derived.Sort.Grow
import Derived.Deep.Draws
import Derived.Test.YtclakfnjdnibeaaGreatDoorV34
import Derived.Shelf.SlSortCmp.NoneTotal
set_option maxHeartbeats 4000000
set_option maxRecDepth 8000
namespace Go.VP
open Go Go.V Go.Proofs Tryz TL
open Go.VZ (enc yz kT aQ bJ bB aa ext pi)
noncomputable def C:Cfg:={P:=prog,mode:=λ_=>.strip,wr:=λ_ _=>false,prim:=λ_ _ _=>none,ext:=ext,extOk:=pi,mix:=λ_ _=>false}
@[go_sem] theorem wrC (f:FuncId) (t:Tmp):C.wr f t=false:=(rfl)
@[go_sem] theorem fu (f:FuncId) (i:Nat):C.mix f i=false:=(rfl)
theorem u23:C.P.underlying 37=some (.slice 39):=underlying37
theorem s3:cS C.P 3=some 1:=k_
theorem s9:cS C.P 9=some 1:=k_
theorem s23:cS C.P 37=some 1:=k_
theorem s25:cS C.P 39=some 4:=k_
theorem a3:eW C.P 3=some false:=k_
theorem a9:eW C.P 9=some false:=k_
theorem a23:eW C.P 37=some false:=k_
theorem a25:eW C.P 39=some true:=k_
attribute [go_sem] u23 s3 s9 s23 s25 a3 a9 a23 a25
theorem dq(es:LA) (x:Ext):fW C.P 37 (.isl es x)=some (.int .i64 es.length):=by simp[fW,u23]
theorem lE(l:Lq) (k:Nat) (hk:k<l.length) (x:Ext):bP C.P 37 (.isl (l.map enc) x) (.int .i64 k)=some (.iptr (enc l[k]) 0):=by simp[bP,u23,s25,bB,hk]
theorem iT(t:T) (h:H):aX C.P h 39 (.iptr (enc t) 0)=some (enc t):=by simp[aX,ae,a25,s25,bB];rw[bJ]
theorem FY(i:Nat):bH C.P 39 (.ptr i 0) 0=some (.ptr i 0):=k_
theorem FX(i:Nat):bH C.P 39 (.ptr i 0) 1=some (.ptr i 1):=k_
theorem FW(i:Nat):bH C.P 39 (.ptr i 0) 2=some (.ptr i 2):=k_
theorem FV(i:Nat):bH C.P 39 (.ptr i 0) 3=some (.ptr i 3):=k_
attribute [go_sem] FY FX FW FV
theorem sQ{f:FuncId}{args args':LA}{v:AV}{h:H}(hb:fA C.P f=true) (hm:C.mode f=.strip) (hd:mz args=some args') (hs:args.all short=true) (hl:args.length<90000)
  (hc:ay C f args'=some v):az C h (.func f []) (some args)=some (v,h):=by
 simp only[az,hb,if_true,cC];rw[rT hm hd hs hl,hc]
theorem ah{f:FuncId}{args args':LA}{v:AV}{h:H}(hd:mz args=some args') (hs:args.all short=true) (hl:args.length<90000)
  (hc:ay C f args'=some v) (hb:fA C.P f=true:=by(kernel_rfl)) (hm:C.mode f=.strip:=by rfl):az C h (.func f []) (some args)=some (v,h):=sQ hb hm hd hs hl hc
theorem dC(t:T):mz [enc t]=some [enc t]:=by rw[bJ];rfl
theorem aw(t:T):short (enc t)=true:=by rw[bJ];rfl
theorem nA(t:T) (h:H):mX C.P h 39 (enc t)=some (.ptr h.length 0,h++[.cells [.int .i64 t.kind,.str t.name,.int .i64 t.sort,aQ t.kids] .live]):=by simp[mX,s25,bB];rw[bJ];rfl
attribute [go_sem] nA
def Mq(t:T) (n:Nat) (s:PT) (h:H):Prop:=∃k:Nat,n=t.kids.length-k/\k<=t.kids.length/\h=[.cells [.int .i64 t.kind,.str t.name,.int .i64 t.sort,aQ t.kids] .live]/\s.get 1=.ptr 0 0/\s.get 3=.int .i64 (sizes (t.kids.take k)+1:Nat)/\s.get 4=.int .i64 k
theorem Ny(t:T):aX C.P [.cells [.int .i64 t.kind,.str t.name,.int .i64 t.sort,aQ t.kids] .live] 37 (.ptr 0 3)=some (aQ t.kids):=by simp[aX,ae,a23,s23]
theorem BT(t:T) (hc:∀k∈t.kids,ay C 115 [enc k]=some (.int .i64 k.size)) (hs:t.size<4000000):ay C 115 [enc t]=some (.int .i64 t.size):=by
 refine bD func115 rfl λR l=>?_
 have c:t.size=sizes t.kids+1:=by cases t;rfl
 simp[go_sem];refine bR (Mq t) t.kids.length ⟨0,by simp[go_sem,sizes]⟩ ?_;rintro n s h ⟨k,rfl,p,rfl,e,f,j⟩;have a:=Ny t;by_cases b:k<t.kids.length
 ·have d:(k:Int)<t.kids.length:=o_;have g:=lE t.kids k b .unk;have i:∀h,az C h (.func 115 []) (some [enc t.kids[k]])=some (.int .i64 t.kids[k].size,h):=λh=>ah (dC _) (by simp[aw]) s_ (hc _ (aG b))
  have q:=take_sizes b;have r:=take_sizes_le t.kids (k+1);have u:=len_sizes t.kids;have m:IntKind.i64.wrap ((sizes (t.kids.take k)+1:Nat)+(t.kids[k].size:Int))=(sizes (t.kids.take (k+1))+1:Nat):=by rw[av o_];omega
  have o:=wS k o_;generalize v:sizes (t.kids.take k)+1=z at *;simp only[aQ]at a;simp[go_sem,e,f,j,a,aQ,dq,d,g,iT,i,-Int.natCast_add,m,o];refine⟨t.kids.length-(k+1),o_,k+1,rfl,b,?_⟩;simp[go_sem,e,aQ]
 have:k=t.kids.length:=o_;subst this;rw[ao,<-c]at f;generalize t.size=z at *;simp only[aQ]at a;simp[go_sem,e,f,j,a,aQ,dq];refine l ⟨_,rfl,?_⟩;simp[go_sem,c];exact aL rfl rfl
theorem ri(t:T):t.size<4000000->ay C 115 [enc t]=some (.int .i64 t.size):=by
 induction t using T.ind with
 |_ t b=>exact λc=>BT t (λk a=>b k a (by have:=kid_size a;omega)) c
def V4(t:T) (n:Nat) (s:PT) (_h:H):Prop:=∃k:Nat,n=t.kids.length-k/\k<=t.kids.length/\s.get 7=aQ t.kids/\s.get 8=.int .i64 t.kids.length/\s.get 3=.int .i64 (sizes (t.kids.take k)+1:Nat)/\s.get 9=.int .i64 k
theorem Jr:gy C.P 39=some (.agg [.int .i64 0,.str ⟨#[]⟩,.int .i64 0,.isl [] .full]):=k_
attribute [go_sem] Jr
theorem NM(t:T) (a b c d:AV) (h:H):cr C.P (h++[.cells [a,b,c,d] .live]) 39 (.ptr h.length 0) (enc t)=some (h++[.cells [.int .i64 t.kind,.str t.name,.int .i64 t.sort,aQ t.kids] .live]):=by simp[cr,s25];rw[bJ];rfl
theorem DH(t:T) (h:H):aX C.P (h++[.cells [.int .i64 t.kind,.str t.name,.int .i64 t.sort,aQ t.kids] .live]) 39 (.ptr h.length 0)=some (enc t):=by simp[aX,ae,a25,s25];rw[bJ]
theorem NQ(t:T) (hc:∀k∈t.kids,ay C 141 [enc k]=some (.int .i64 k.size)) (hs:t.size<4000000):ay C 141 [enc t]=some (.int .i64 t.size):=by
 refine bD func141 rfl λR m=>?_
 have d:t.size=sizes t.kids+1:=size_kids t;have b:=Ny t;simp only[aQ]at b;simp[go_sem,b,aQ,dq];refine bR (V4 t) t.kids.length ⟨0,by simp[go_sem,sizes,aQ]⟩ ?_;rintro n s h ⟨k,rfl,q,e,f,g,l⟩;by_cases a:k<t.kids.length
 ·have c:(k:Int)<t.kids.length:=o_;have i:=lE t.kids k a .unk;have j:∀h,az C h (.func 141 []) (some [enc t.kids[k]])=some (.int .i64 t.kids[k].size,h):=λh=>ah (dC _) (by simp[aw]) s_ (hc _ (aG a))
  have r:=take_sizes a;have u:=take_sizes_le t.kids (k+1);have v:=len_sizes t.kids;have o:IntKind.i64.wrap ((sizes (t.kids.take k)+1:Nat)+(t.kids[k].size:Int))=(sizes (t.kids.take (k+1))+1:Nat):=by rw[av o_];omega
  have p:=wS k o_;generalize w:sizes (t.kids.take k)+1=z at *;simp only[aQ]at e;simp[go_sem,e,f,g,l,c,i,iT,NM,DH,j,-Int.natCast_add,o,p];refine⟨t.kids.length-(k+1),o_,k+1,rfl,a,?_⟩;simp[go_sem,e,f,aQ]
 have:k=t.kids.length:=o_;subst this;rw[ao,<-d]at g;generalize t.size=z at *;simp[go_sem,f,g,l];refine m ⟨_,rfl,?_⟩;simp[go_sem];exact aL rfl rfl
theorem Cn(t:T):t.size<4000000->ay C 141 [enc t]=some (.int .i64 t.size):=by
 induction t using T.ind with
 |_ t b=>exact λc=>NQ t (λk a=>b k a (by have:=kid_size a;omega)) c
theorem Ht(a b:Int):ay C 197 [.int .i64 a,.int .i64 b]=some (.int .i64 (sgn a b)):=by
 refine bD func197 rfl λR e=>?_
 by_cases c:a<b
 ·simp[go_sem,c];refine e ⟨_,rfl,?_⟩;simp[go_sem,sgn,c];exact aL rfl rfl
 by_cases d:b<a
 ·simp[go_sem,c,d];refine e ⟨_,rfl,?_⟩;simp[go_sem,sgn,c,d];exact aL rfl rfl
 simp[go_sem,c,d];refine e ⟨_,rfl,?_⟩;simp[go_sem,sgn,c,d];exact aL rfl rfl
theorem PF(a b:Int) (h:H):az C h (.func 197 []) (some [.int .i64 a,.int .i64 b])=some (.int .i64 (sgn a b),h):=ah rfl rfl s_ (Ht a b)
theorem O0(a b:ByteArray) (h:H):az C h (.func 300 []) (some [.str a,.str b])=some (.int .i64 (Lib.compareBytes a.data.toList b.data.toList),h):=by have c:fA C.P 300=false:=k_;simp only[az,c];rfl
theorem zG(a b:ByteArray):ay C 249 [.str a,.str b]=some (.int .i64 (Lib.compareBytes a.data.toList b.data.toList)):=by
 refine bD func249 rfl λR c=>?_
 simp[go_sem,O0];refine c ⟨_,rfl,?_⟩;simp[go_sem];exact aL rfl rfl
theorem O4(a b:ByteArray) (h:H):az C h (.func 249 []) (some [.str a,.str b])=some (.int .i64 (Lib.compareBytes a.data.toList b.data.toList),h):=ah rfl rfl s_ (zG a b)
theorem CC(a b:ByteArray):ay C 198 [.str a,.str b]=some (.int .i64 (Lib.compareBytes a.data.toList b.data.toList)):=by
 refine bD func198 rfl λR c=>?_
 simp[go_sem,O4];refine c ⟨_,rfl,?_⟩;simp[go_sem];exact aL rfl rfl
theorem PE(a b:ByteArray) (h:H):az C h (.func 198 []) (some [.str a,.str b])=some (.int .i64 (Lib.compareBytes a.data.toList b.data.toList),h):=ah rfl rfl s_ (CC a b)
theorem HF(t:T) (hs:t.size<4000000) (h:H):az C h (.func 141 []) (some [enc t])=some (.int .i64 t.size,h):=ah (dC _) (by simp[aw]) s_ (Cn t hs)
def uq(a b:ByteArray):Int:=Lib.compareBytes a.data.toList b.data.toList
def two(a b:T):H:=[.cells [.int .i64 a.kind,.str a.name,.int .i64 a.sort,aQ a.kids] .live,.cells [.int .i64 b.kind,.str b.name,.int .i64 b.sort,aQ b.kids] .live]
theorem rZ(a b:T):aX C.P (two a b) 39 (.ptr 0 0)=some (enc a):=by simp[two,aX,ae,a25,s25];rw[bJ]
theorem rY(a b:T):aX C.P (two a b) 39 (.ptr 1 0)=some (enc b):=by simp[two,aX,ae,a25,s25];rw[bJ]
theorem pY(a b:T):aX C.P (two a b) 3 (.ptr 0 0)=some (.int .i64 a.kind):=by simp[two,aX,ae,a3,s3]
theorem pX(a b:T):aX C.P (two a b) 3 (.ptr 1 0)=some (.int .i64 b.kind):=by simp[two,aX,ae,a3,s3]
theorem qY(a b:T):aX C.P (two a b) 9 (.ptr 0 1)=some (.str a.name):=by simp[two,aX,ae,a9,s9]
theorem qX(a b:T):aX C.P (two a b) 9 (.ptr 1 1)=some (.str b.name):=by simp[two,aX,ae,a9,s9]
theorem xy(a b:T):aX C.P (two a b) 3 (.ptr 0 2)=some (.int .i64 a.sort):=by simp[two,aX,ae,a3,s3]
theorem xw(a b:T):aX C.P (two a b) 3 (.ptr 1 2)=some (.int .i64 b.sort):=by simp[two,aX,ae,a3,s3]
theorem oM(a b:T):aX C.P (two a b) 37 (.ptr 0 3)=some (.isl (a.kids.map enc) .unk):=by simp[two,aX,ae,a23,s23,aQ]
theorem qW(a b:T):aX C.P (two a b) 37 (.ptr 1 3)=some (.isl (b.kids.map enc) .unk):=by simp[two,aX,ae,a23,s23,aQ]
theorem AI(a b:T):mX C.P [.cells [.int .i64 a.kind,.str a.name,.int .i64 a.sort,aQ a.kids] .live] 39 (enc b)=some (.ptr 1 0,two a b):=by rw[nA];rfl
theorem Fj(a b:T):a.cmp b=thn (sgn a.size b.size) (thn (sgn a.kind b.kind) (thn (Lib.compareBytes a.name.data.toList b.name.data.toList) (thn (sgn a.sort b.sort) (thn (sgn a.kids.length b.kids.length) (cmps a.kids b.kids))))):=by cases a;cases b;rw[T.cmp];rfl
theorem kU(a b:T):mz [enc a,enc b]=some [enc a,enc b]:=by rw[bJ a,bJ b];rfl
def FI(a b:T):Int:=thn (sgn a.size b.size) (thn (sgn a.kind b.kind) (thn (uq a.name b.name) (thn (sgn a.sort b.sort) (sgn a.kids.length b.kids.length))))
theorem Hk(a b c:Int):thn (thn a b) c=thn a (thn b c):=by unfold thn;split<;>simp_all
theorem L0(a b:T):a.cmp b=thn (FI a b) (cmps a.kids b.kids):=by rw[Fj,FI];simp only[Hk,uq]
def WD(a b:T) (n:Nat) (s:PT) (h:H):Prop:=∃k:Nat,∃c:Int,n=a.kids.length-k/\k<=a.kids.length/\h=two a b/\s.get 2=.ptr 0 0/\s.get 3=.ptr 1 0/\s.get 6=.int .i64 k/\s.get 5=.int .i64 c /\
 (c=0->a.kids.length=b.kids.length)/\thn c (cmps (a.kids.drop k) (b.kids.drop k))=a.cmp b
theorem SO(a b:T) (hs:a.size<4000000) (hs2:b.size<4000000) (hc:∀k∈a.kids,∀m∈b.kids,ay C 144 [enc k,enc m]=some (.int .i64 (k.cmp m))):ay C 144 [enc a,enc b]=some (.int .i64 (a.cmp b)):=by
 refine bD func144 rfl λR t=>?_
 have A:=HF a hs;have B:=HF b hs2;have D:uq a.name b.name=Lib.compareBytes a.name.data.toList b.name.data.toList:=rfl;have E:FI a b=0->a.kids.length=b.kids.length:=λh=>by rw[FI,thn_zero,thn_zero,thn_zero,thn_zero]at h;have:=sgn_zero.mp h.2.2.2.2;omega
 by_cases u:sgn a.size b.size=0<;>by_cases v:sgn a.kind b.kind=0<;>by_cases w:uq a.name b.name=0<;>by_cases x:sgn a.sort b.sort=0
 all_goals
  simp[go_sem,AI,rZ,rY,pY,pX,qY,qX,xy,xw,oM,qW,dq,A,B,PF,PE,<-D,u,v,w,x];refine bR (WD a b) a.kids.length ⟨0,FI a b,rfl,aO _,rfl,g_,g_,g_,by simp[go_sem,FI,thn,u,v,w,x],E,by simp[L0]⟩ ?_;rintro n s h ⟨k,c,rfl,G,rfl,j,y,z,l,o,g⟩;by_cases e:c=0
  ·subst e;by_cases f:k<a.kids.length
   ·have i:(k:Int)<a.kids.length:=o_;have d:k<b.kids.length:=by have:=o rfl;omega
    have p:=lE a.kids k f .unk;have q:=lE b.kids k d .unk;have r:∀h,az C h (.func 144 []) (some [enc a.kids[k],enc b.kids[k]])=some (.int .i64 (a.kids[k].cmp b.kids[k]),h):=λh=>ah (kU _ _) (by simp[aw]) s_ (hc _ (aG f) _ (aG d))
    have I:=len_sizes a.kids;have J:=size_kids a;have F:=wS k o_;rw[aH f,aH d,cmps,thn,if_pos rfl]at g;simp[go_sem,j,y,l,z,oM,qW,dq,i,p,q,iT,r,-Int.natCast_add,F];exact⟨a.kids.length-(k+1),o_,k+1,a.kids[k].cmp b.kids[k],by simp[go_sem,j,y,g];exact⟨o_,λ_=>o rfl⟩⟩
   have:k=a.kids.length:=o_;subst this;rw[aj,o rfl,aj]at g;simp[go_sem,j,l,z,oM,dq];refine t ⟨_,rfl,?_⟩;simp[go_sem,<-g,cmps,thn];exact aL rfl rfl
  rw[thn,if_neg e]at g;simp[go_sem,l,e];refine t ⟨_,rfl,?_⟩;simp[go_sem,<-g];exact aL rfl rfl
theorem zH(a:T):∀b:T,a.size<4000000->b.size<4000000->ay C 144 [enc a,enc b]=some (.int .i64 (a.cmp b)):=by
 induction a using T.ind with
 |_ a e=>exact λb f c=>SO a b f c λk d m g=>e k d m (by have:=kid_size d;omega) (by have:=kid_size g;omega)
theorem PO(a b:T) (hs:a.size<4000000) (hs2:b.size<4000000) (h:H):az C h (.func 144 []) (some [enc a,enc b])=some (.int .i64 (a.cmp b),h):=ah (kU _ _) (by simp[aw]) s_ (zH a b hs hs2)
end Go.VP
namespace Go.VP
open Go Go.V Go.Proofs Tryz Go.RowKit TL
open Go.VZ (enc yz kT aQ bJ bB aa)
theorem okD [DFlag]:Go.V.Ok prog (Go.V.Call C):=HV (C:=C) Go.VZ.good (λf a h r c b=>by cases b)
theorem Bz [DFlag] (hD:DFlag.D){w w':World}(g:Grows w w'):∃q os,w'=Go.Sort.grow (w.drewN q) os:=by
 have f:=g.drawn hD;refine⟨w'.drawn-w.drawn,w'.heap.extract w.heap.size w'.heap.size,?_⟩;have⟨k,l,m,os,n⟩:=w';have a:=g.os;have b:=g.tape;have c:=g.output;have h:=g.size;have d:=g.block;simp only at a b c h d f;subst a;subst b;subst c;simp only[Go.Sort.grow,World.drewN,World.mk.injEq,and_true,true_and];refine⟨?_,o_⟩;apply oh;intro i;rw[Array.getElem?_append];split
 ·rename_i e;exact d i e
 rename_i e;rw[Array.getElem?_extract];split
 ·rename_i j;congr 1;omega
 rename_i j;exact fO o_
theorem Fk [DFlag] (hD:DFlag.D) (a b:T) (ha:a.size<4000000) (hb:b.size<4000000){w:World}{u v:Value}(hg:kW (λ_ _=>True) w) (hu:IRel (λ_ _=>True) w (enc a) u) (hv:IRel (λ_ _=>True) w (enc b) v) :
  Calls prog 144 #[u,v] w λe w'=>e=.returned (.int .i64 (a.cmp b))/\∃q os,w'=Go.Sort.grow (w.drewN q) os:=by
 have f:=zH a b ha hb;unfold ay at f;split at f<;>try(cases f;done)
 rename_i r g c;refine(okD.fn 144 [enc a,enc b] [] r g k_ c w.heap.size (λ_ _=>True) [] w #[u,v] (.start hg) rfl (λi x y c d=>?_)).mono ?_
 ·match i,c,d with
  |0,c,d=>simp at c d;subst c;subst d;exact .data (kj hu)
  |1,c,d=>simp at c d;subst c;subst d;exact .data (kj hv)
  |i+2,c,d=>simp at c
 rintro e w' ⟨v,rfl,σ',h,j,k⟩;have l:=jH (h.stiller (dN g)) dH r _ v f (k.step (.stiller h (dN g)));cases l;exact⟨rfl,Bz hD (rq j.below j.drawn)⟩
theorem JI(a b:T) (ha:a.size<4000000) (hb:b.size<4000000){w:World}{u v:Value}(hg:kW (λ_ _=>True) w) (hu:IRel (λ_ _=>True) w (enc a) u) (hv:IRel (λ_ _=>True) w (enc b) v) :
  Calls prog 144 #[u,v] w λe w'=>e=.returned (.int .i64 (a.cmp b))/\∃q os,w'=Go.Sort.grow (w.drewN q) os:=@Fk ⟨True⟩ trivial a b ha hb w u v hg hu hv
end Go.VP
namespace Go.VZ
open Go Go.V Go.Proofs Tryz TL
theorem FY(i:Nat):bH C.P 39 (.ptr i 0) 0=some (.ptr i 0):=k_
theorem FX(i:Nat):bH C.P 39 (.ptr i 0) 1=some (.ptr i 1):=k_
theorem FW(i:Nat):bH C.P 39 (.ptr i 0) 2=some (.ptr i 2):=k_
theorem FV(i:Nat):bH C.P 39 (.ptr i 0) 3=some (.ptr i 3):=k_
attribute [go_sem] FY FX FW FV
theorem sQ{f:FuncId}{args args':LA}{v:AV}{h:H}(hb:fA C.P f=true) (hm:C.mode f=.strip) (hd:mz args=some args') (hs:args.all short=true) (hl:args.length<90000)
  (hc:ay C f args'=some v):az C h (.func f []) (some args)=some (v,h):=by
 simp only[az,hb,if_true,cC];rw[rT hm hd hs hl,hc]
theorem ah{f:FuncId}{args args':LA}{v:AV}{h:H}(hd:mz args=some args') (hs:args.all short=true) (hl:args.length<90000)
  (hc:ay C f args'=some v) (hb:fA C.P f=true:=by(kernel_rfl)) (hm:C.mode f=.strip:=by rfl):az C h (.func f []) (some args)=some (v,h):=sQ hb hm hd hs hl hc
theorem dC(t:T):mz [enc t]=some [enc t]:=by rw[bJ];rfl
theorem aw(t:T):short (enc t)=true:=by rw[bJ];rfl
theorem nA(t:T) (h:H):mX C.P h 39 (enc t)=some (.ptr h.length 0,h++[.cells [.int .i64 t.kind,.str t.name,.int .i64 t.sort,aQ t.kids] .live]):=by simp[mX,s25,bB];rw[bJ];rfl
attribute [go_sem] nA
def Mq(t:T) (n:Nat) (s:PT) (h:H):Prop:=∃k:Nat,n=t.kids.length-k/\k<=t.kids.length/\h=[.cells [.int .i64 t.kind,.str t.name,.int .i64 t.sort,aQ t.kids] .live]/\s.get 1=.ptr 0 0/\s.get 3=.int .i64 (sizes (t.kids.take k)+1:Nat)/\s.get 4=.int .i64 k
theorem Ny(t:T):aX C.P [.cells [.int .i64 t.kind,.str t.name,.int .i64 t.sort,aQ t.kids] .live] 37 (.ptr 0 3)=some (aQ t.kids):=by simp[aX,ae,a23,s23]
theorem BT(t:T) (hc:∀k∈t.kids,ay C 115 [enc k]=some (.int .i64 k.size)) (hs:t.size<4000000):ay C 115 [enc t]=some (.int .i64 t.size):=by
 refine bD func115 rfl λR l=>?_
 have c:t.size=sizes t.kids+1:=by cases t;rfl
 simp[go_sem];refine bR (Mq t) t.kids.length ⟨0,by simp[go_sem,sizes]⟩ ?_;rintro n s h ⟨k,rfl,p,rfl,e,f,j⟩;have a:=Ny t;by_cases b:k<t.kids.length
 ·have d:(k:Int)<t.kids.length:=o_;have g:=lE t.kids k b .unk;have i:∀h,az C h (.func 115 []) (some [enc t.kids[k]])=some (.int .i64 t.kids[k].size,h):=λh=>ah (dC _) (by simp[aw]) s_ (hc _ (aG b))
  have q:=take_sizes b;have r:=take_sizes_le t.kids (k+1);have u:=len_sizes t.kids;have m:IntKind.i64.wrap ((sizes (t.kids.take k)+1:Nat)+(t.kids[k].size:Int))=(sizes (t.kids.take (k+1))+1:Nat):=by rw[av o_];omega
  have o:=wS k o_;generalize v:sizes (t.kids.take k)+1=z at *;simp only[aQ]at a;simp[go_sem,e,f,j,a,aQ,dq,d,g,iT,i,-Int.natCast_add,m,o];refine⟨t.kids.length-(k+1),o_,k+1,rfl,b,?_⟩;simp[go_sem,e,aQ]
 have:k=t.kids.length:=o_;subst this;rw[ao,<-c]at f;generalize t.size=z at *;simp only[aQ]at a;simp[go_sem,e,f,j,a,aQ,dq];refine l ⟨_,rfl,?_⟩;simp[go_sem,c];exact aL rfl rfl
theorem ri(t:T):t.size<4000000->ay C 115 [enc t]=some (.int .i64 t.size):=by
 induction t using T.ind with
 |_ t b=>exact λc=>BT t (λk a=>b k a (by have:=kid_size a;omega)) c
theorem Jr:gy C.P 39=some (.agg [.int .i64 0,.str ⟨#[]⟩,.int .i64 0,.isl [] .full]):=k_
attribute [go_sem] Jr
theorem NM(t:T) (a b c d:AV) (h:H):cr C.P (h++[.cells [a,b,c,d] .live]) 39 (.ptr h.length 0) (enc t)=some (h++[.cells [.int .i64 t.kind,.str t.name,.int .i64 t.sort,aQ t.kids] .live]):=by simp[cr,s25];rw[bJ];rfl
theorem DH(t:T) (h:H):aX C.P (h++[.cells [.int .i64 t.kind,.str t.name,.int .i64 t.sort,aQ t.kids] .live]) 39 (.ptr h.length 0)=some (enc t):=by simp[aX,ae,a25,s25];rw[bJ]
theorem C5(a b:Int):ay C 164 [.int .i64 a,.int .i64 b]=some (.int .i64 (sgn a b)):=by
 refine bD func164 rfl λR e=>?_
 by_cases c:a<b
 ·simp[go_sem,c];refine e ⟨_,rfl,?_⟩;simp[go_sem,sgn,c];exact aL rfl rfl
 by_cases d:b<a
 ·simp[go_sem,c,d];refine e ⟨_,rfl,?_⟩;simp[go_sem,sgn,c,d];exact aL rfl rfl
 simp[go_sem,c,d];refine e ⟨_,rfl,?_⟩;simp[go_sem,sgn,c,d];exact aL rfl rfl
theorem rF(a b:Int) (h:H):az C h (.func 164 []) (some [.int .i64 a,.int .i64 b])=some (.int .i64 (sgn a b),h):=ah rfl rfl s_ (C5 a b)
theorem CO(t:T) (hs:t.size<4000000) (h:H):az C h (.func 115 []) (some [enc t])=some (.int .i64 t.size,h):=ah (dC _) (by simp[aw]) s_ (ri t hs)
theorem Gp(a b:ByteArray):Op.bytesLess a.toList b.toList=decide (Lib.compareBytes a.data.toList b.data.toList = -1):=by
 rw[Lib.toList_data,Lib.toList_data];generalize a.data.toList=x;generalize b.data.toList=y;induction x generalizing y with
 |nil=>cases y<;>simp[Op.bytesLess,Lib.compareBytes]
 |cons c x h=>
  cases y with
  |nil=>simp[Op.bytesLess,Lib.compareBytes]
  |cons d y=>
   rw[Op.bytesLess,Lib.compareBytes,h];by_cases f:c<d
   ·simp[f]
   by_cases g:d<c
   ·have:c≠d:=λe=>by subst e;exact f g
    simp[f,g,this]
   have:c=d:=by simp only[UInt8.lt_iff_toNat_lt]at f g;exact UInt8.toNat_inj.mp o_
   subst this;simp[f]
theorem U0(a b:ByteArray):(a.toList==b.toList)=decide (Lib.compareBytes a.data.toList b.data.toList=0):=by
 rw[Lib.toList_data,Lib.toList_data];simp only[cb_zero];by_cases h:a.data.toList=b.data.toList
 ·rw[decide_eq_true h,h];simp
 rw[decide_eq_false h];exact beq_eq_false_iff_ne.mpr h
def uq(a b:ByteArray):Int:=Lib.compareBytes a.data.toList b.data.toList
theorem uu(x y:Operand) (a b:ByteArray):jC C.P .lss 9 x y (.str a) (.str b)=some (.bool (decide (uq a b = -1))):=by
 have e:dA C.P (do eqGuard BinOp.lss 9 x y (.string a) (.string b);binOp .lss 9 (.string a) (.string b))=some (.bool (Op.bytesLess a.toList b.toList)):=by simp[eqGuard,binOp,Op.stringOp];try rfl
 simp only[jC,fE,ce,e,dl,dT,Gp,uq];congr
theorem xd(x y:Operand) (a b:ByteArray):jC C.P .gtr 9 x y (.str a) (.str b)=some (.bool (decide (uq a b=1))):=by
 have e:dA C.P (do eqGuard BinOp.gtr 9 x y (.string a) (.string b);binOp .gtr 9 (.string a) (.string b))=some (.bool (!(Op.bytesLess a.toList b.toList||a.toList==b.toList))):=by simp[eqGuard,binOp,Op.stringOp];try rfl
 simp only[jC,fE,ce,e,dl,dT,Gp,U0,uq];rcases cb_range a.data.toList b.data.toList with h|h|h<;>simp[h]
def two(a b:T):H:=[.cells [.int .i64 a.kind,.str a.name,.int .i64 a.sort,aQ a.kids] .live,.cells [.int .i64 b.kind,.str b.name,.int .i64 b.sort,aQ b.kids] .live]
theorem rZ(a b:T):aX C.P (two a b) 39 (.ptr 0 0)=some (enc a):=by simp[two,aX,ae,a25,s25];rw[bJ]
theorem rY(a b:T):aX C.P (two a b) 39 (.ptr 1 0)=some (enc b):=by simp[two,aX,ae,a25,s25];rw[bJ]
theorem pY(a b:T):aX C.P (two a b) 3 (.ptr 0 0)=some (.int .i64 a.kind):=by simp[two,aX,ae,a3,s3]
theorem pX(a b:T):aX C.P (two a b) 3 (.ptr 1 0)=some (.int .i64 b.kind):=by simp[two,aX,ae,a3,s3]
theorem qY(a b:T):aX C.P (two a b) 9 (.ptr 0 1)=some (.str a.name):=by simp[two,aX,ae,a9,s9]
theorem qX(a b:T):aX C.P (two a b) 9 (.ptr 1 1)=some (.str b.name):=by simp[two,aX,ae,a9,s9]
theorem xy(a b:T):aX C.P (two a b) 3 (.ptr 0 2)=some (.int .i64 a.sort):=by simp[two,aX,ae,a3,s3]
theorem xw(a b:T):aX C.P (two a b) 3 (.ptr 1 2)=some (.int .i64 b.sort):=by simp[two,aX,ae,a3,s3]
theorem oM(a b:T):aX C.P (two a b) 37 (.ptr 0 3)=some (.isl (a.kids.map enc) .unk):=by simp[two,aX,ae,a23,s23,aQ]
theorem qW(a b:T):aX C.P (two a b) 37 (.ptr 1 3)=some (.isl (b.kids.map enc) .unk):=by simp[two,aX,ae,a23,s23,aQ]
theorem AI(a b:T):mX C.P [.cells [.int .i64 a.kind,.str a.name,.int .i64 a.sort,aQ a.kids] .live] 39 (enc b)=some (.ptr 1 0,two a b):=by rw[nA];rfl
theorem Fj(a b:T):a.cmp b=thn (sgn a.size b.size) (thn (sgn a.kind b.kind) (thn (Lib.compareBytes a.name.data.toList b.name.data.toList) (thn (sgn a.sort b.sort) (thn (sgn a.kids.length b.kids.length) (cmps a.kids b.kids))))):=by cases a;cases b;rw[T.cmp];rfl
theorem kU(a b:T):mz [enc a,enc b]=some [enc a,enc b]:=by rw[bJ a,bJ b];rfl
def WC(a b:T) (n:Nat) (s:PT) (h:H):Prop:=∃k:Nat,n=a.kids.length-k/\k<=a.kids.length/\h=two a b/\s.get 2=.ptr 0 0/\s.get 3=.ptr 1 0/\s.get 9=.int .i64 k/\cmps (a.kids.drop k) (b.kids.drop k)=cmps a.kids b.kids
theorem SN(a b:T) (hs:a.size<4000000) (hs2:b.size<4000000) (hc:∀k∈a.kids,∀m∈b.kids,ay C 107 [enc k,enc m]=some (.int .i64 (k.cmp m))):ay C 107 [enc a,enc b]=some (.int .i64 (a.cmp b)):=by
 refine bD func107 rfl λR i=>?_
 have o:=Fj a b;have p:=CO a hs;have q:=CO b hs2;by_cases c:sgn a.size b.size≠0
 ·simp[go_sem,AI,rZ,rY,p,q,rF,c];refine i ⟨_,rfl,?_⟩;simp[go_sem,o,thn,c];exact aL rfl rfl
 replace c:=Decidable.not_not.mp c
 by_cases d:sgn a.kind b.kind≠0
 ·simp[go_sem,AI,rZ,rY,pY,pX,p,q,rF,c,d];refine i ⟨_,rfl,?_⟩;simp[go_sem,o,thn,c,d];exact aL rfl rfl
 replace d:=Decidable.not_not.mp d
 by_cases r:uq a.name b.name = -1
 ·simp[go_sem,AI,rZ,rY,pY,pX,qY,qX,p,q,rF,c,d,uu,r];refine i ⟨_,rfl,?_⟩;simp only[uq]at r;simp[go_sem,o,thn,c,d,r];exact aL rfl rfl
 by_cases t:uq a.name b.name=1
 ·simp[go_sem,AI,rZ,rY,pY,pX,qY,qX,p,q,rF,c,d,uu,xd,t];refine i ⟨_,rfl,?_⟩;simp only[uq]at t;simp[go_sem,o,thn,c,d,t];exact aL rfl rfl
 have D:Lib.compareBytes a.name.data.toList b.name.data.toList=0:=by
  rcases cb_range a.name.data.toList b.name.data.toList with e|e|e
  ·exact absurd e r
  ·exact e
  exact absurd e t
 by_cases j:sgn a.sort b.sort≠0
 ·simp[go_sem,AI,rZ,rY,pY,pX,qY,qX,xy,xw,p,q,rF,c,d,uu,xd,r,t,j];refine i ⟨_,rfl,?_⟩;simp[go_sem,o,thn,c,d,D,j];exact aL rfl rfl
 replace j:=Decidable.not_not.mp j
 by_cases u:sgn a.kids.length b.kids.length≠0
 ·simp[go_sem,AI,rZ,rY,pY,pX,qY,qX,xy,xw,oM,qW,dq,p,q,rF,c,d,uu,xd,r,t,j,u];refine i ⟨_,rfl,?_⟩;simp[go_sem,o,thn,c,d,D,j,u];exact aL rfl rfl
 replace u:=Decidable.not_not.mp u
 have G:a.kids.length=b.kids.length:=by have:=sgn_zero.mp u;omega
 have x:a.cmp b=cmps a.kids b.kids:=by rw[o,c,d,D,j,u];rfl
 simp[go_sem,AI,rZ,rY,pY,pX,qY,qX,xy,xw,oM,qW,dq,p,q,rF,c,d,uu,xd,r,t,j,u];refine bR (WC a b) a.kids.length ⟨0,g_⟩ ?_;rintro n s h ⟨k,rfl,J,rfl,B,E,F,v⟩;by_cases g:k<a.kids.length
 ·have l:(k:Int)<a.kids.length:=o_;have f:k<b.kids.length:=o_;have y:=lE a.kids k g .unk;have z:=lE b.kids k f .unk;have A:∀h,az C h (.func 107 []) (some [enc a.kids[k],enc b.kids[k]])=some (.int .i64 (a.kids[k].cmp b.kids[k]),h):=λh=>ah (kU _ _) (by simp[aw]) s_ (hc _ (aG g) _ (aG f))
  have K:=len_sizes a.kids;have L:=size_kids a;have I:=wS k o_;rw[aH g,aH f,cmps]at v;by_cases w:a.kids[k].cmp b.kids[k]≠0
  ·simp[go_sem,B,E,F,oM,qW,dq,l,y,z,iT,A,w];refine i ⟨_,rfl,?_⟩;rw[thn,if_neg w]at v;simp[go_sem,x,<-v];exact aL rfl rfl
  replace w:=Decidable.not_not.mp w
  rw[w,thn,if_pos rfl]at v;simp[go_sem,B,E,F,oM,qW,dq,l,y,z,iT,A,w,-Int.natCast_add,I];refine⟨a.kids.length-(k+1),o_,k+1,rfl,g,rfl,?_,?_,?_,v⟩<;>simp[go_sem,B,E]
 have:k=a.kids.length:=o_;subst this;rw[aj,G,aj]at v;simp[go_sem,B,F,oM,dq];refine i ⟨_,rfl,?_⟩;simp[go_sem,x,<-v,cmps];exact aL rfl rfl
theorem Fp(a:T):∀b:T,a.size<4000000->b.size<4000000->ay C 107 [enc a,enc b]=some (.int .i64 (a.cmp b)):=by
 induction a using T.ind with
 |_ a e=>exact λb f c=>SN a b f c λk d m g=>e k d m (by have:=kid_size d;omega) (by have:=kid_size g;omega)
theorem rG(a b:T) (hs:a.size<4000000) (hs2:b.size<4000000) (h:H):az C h (.func 107 []) (some [enc a,enc b])=some (.int .i64 (a.cmp b),h):=ah (kU _ _) (by simp[aw]) s_ (Fp a b hs hs2)
def FI(a b:T):Int:=thn (sgn a.size b.size) (thn (sgn a.kind b.kind) (thn (uq a.name b.name) (thn (sgn a.sort b.sort) (sgn a.kids.length b.kids.length))))
theorem Qx(a b:T) (hs:a.size<4000000) (hs2:b.size<4000000):ay C 68 [enc a,enc b]=some (.bool (decide (a.cmp b=0))):=by
 refine bD func68 rfl λR c=>?_
 have q:=rG a b hs hs2;simp[go_sem,AI,rZ,rY,q];refine c ⟨_,rfl,?_⟩;simp[go_sem];exact aL rfl rfl
theorem lg(a b:T) (hs:a.size<4000000) (hs2:b.size<4000000) (h:H):az C h (.func 68 []) (some [enc a,enc b])=some (.bool (decide (a.cmp b=0)),h):=ah (kU _ _) (by simp[aw]) s_ (Qx a b hs hs2)
def uD(c:Nat):Bool:=(decide (97<=c)&&decide (c<=122))||(decide (65<=c)&&decide (c<=90))
def Lp(c:Nat):Bool:=decide (48<=c)&&decide (c<=57)
def tZ(c:Nat):Bool:=uD c||Lp c||c==95||c==35
def isB(b:Bool):Option (AV × H)->Bool
 |some (.bool x,_)=>x==b
 |_=>false
theorem wE{n:Nat}{f:FuncId}{args:LA}{b:Bool}(h:isB b (eL C n f args [])=true):ay C f args=some (.bool b):=by
 cases a:eL C n f args []with
 |none=>rw[a]at h;cases h
 |some x=>
  have⟨r,c⟩:=x;rw[a]at h;unfold isB at h;split at h<;>try(cases h;done)
  rename_i e;simp only[aA,aD]at e;obtain⟨rfl,rfl⟩:=e;have:=eq_of_beq h;subst this;unfold ay;rw[HW n a];exact aL rfl rfl
theorem Kc:(List.range 256).all (λc=>isB (tZ c) (eL C 100 324 [.int .u8 c] []))=true:=k_
theorem E4:(List.range 256).all (λc=>isB (uD c) (eL C 100 293 [.int .u8 c] []))=true:=k_
theorem I8:(List.range 256).all (λc=>isB (Lp c) (eL C 100 294 [.int .u8 c] []))=true:=k_
theorem IH(c:Nat) (hc:c<256):ay C 324 [.int .u8 c]=some (.bool (tZ c)):=wE (n:=100) (bM.mp Kc c (dO.mpr hc))
theorem DF(c:Nat) (hc:c<256):ay C 293 [.int .u8 c]=some (.bool (uD c)):=wE (n:=100) (bM.mp E4 c (dO.mpr hc))
theorem Ff(c:Nat) (hc:c<256):ay C 294 [.int .u8 c]=some (.bool (Lp c)):=wE (n:=100) (bM.mp I8 c (dO.mpr hc))
theorem HB(c:Nat) (hc:c<256) (h:H):az C h (.func 324 []) (some [.int .u8 c])=some (.bool (tZ c),h):=ah rfl rfl s_ (IH c hc)
theorem HA(c:Nat) (hc:c<256) (h:H):az C h (.func 293 []) (some [.int .u8 c])=some (.bool (uD c),h):=ah rfl rfl s_ (DF c hc)
theorem Oz(c:Nat) (hc:c<256) (h:H):az C h (.func 294 []) (some [.int .u8 c])=some (.bool (Lp c),h):=ah rfl rfl s_ (Ff c hc)
theorem u9:C.P.underlying 9=some .string:=underlying9
theorem Rr(s:ByteArray) (k:Nat) (hk:k<s.size):sG C.P 9 (.str s) (.int .i64 k)=some (.int .u8 (s[k]).toNat):=by
 have e:dA C.P (Instr.index 9 (.string s) (.int .i64 k))=some (.int .u8 (s[k]).toNat):=by
  have a:dA C.P (underlying 9)=some .string:=k_;have b:s[k]?=some s[k]:=by simp[hk]
  simp only[Instr.index,iC,asIntOf,iB,cN,a];simp[b,iB]
 simp only[sG,e,dl,dT]
@[go_sem] theorem Wn {C:Cfg}{cf:FuncId}{ops:Array Oper}{d:Tmp}{ty:TypeId}{p:String}{af:Array Edge}{l:List Oper}{s:PT}{h:H}{K:PT->H->Prop}(t:TypeId) (x i:Operand) :
  OW C cf ops (⟨some d,.index t x i,ty,p,af,none⟩::l) s h K↔bO (bi2 (ev s x) (ev s i) (sG C.P t)) λv=>OW C cf ops l (s.set d v) h K:=OWn (by simp only[opN,bi2];cases ev s x<;>cases ev s i<;>rfl) rfl rfl
def dI(s:ByteArray) (k:Nat):Nat:=if h:k<s.size then(s[k]).toNat else 0
theorem oI(s:ByteArray) (k:Nat):dI s k<256:=by
 unfold dI;split
 ·exact UInt8.toNat_lt _
 omega
theorem Bw(s:ByteArray) (k:Nat) (hk:k<s.size):sG C.P 9 (.str s) (.int .i64 k)=some (.int .u8 (dI s k)):=by rw[Rr s k hk];simp[dI,hk]
def ox(s:ByteArray):Nat->Nat->Bool
 |_,0=>true
 |k,n+1=>tZ (dI s k)&&ox s (k+1) n
def jt(s:ByteArray):Bool:=decide (s.size≠0)&&decide (s.size<=24)&&uD (dI s 0)&&ox s 0 s.size
theorem mr(s:ByteArray):fW C.P 9 (.str s)=some (.int .i64 s.size):=by simp[fW,u9]
def Vy(s:ByteArray) (z n:Nat) (t:PT) (h:H):Prop:=∃k:Nat,n=z-k/\k<=z/\h=[]/\t.get 0=.str s/\t.get 3=.int .i64 k/\ox s k (z-k)=jt s
theorem Ij(s:ByteArray):ay C 241 [.str s]=some (.bool (jt s)):=by
 refine bD func241 rfl λR hR=>?_
 have mr:=mr s;have hn:jt s=(decide (s.size≠0)&&decide (s.size<=24)&&uD (dI s 0)&&ox s 0 s.size):=rfl;have hix:=Bw s;generalize s.size=z at mr hn hix;by_cases h0:z=0
 ·have h0':(z:Int)=0:=o_;simp[go_sem,mr,h0'];refine hR ⟨_,rfl,?_⟩;have:jt s=false:=by simp[hn,h0]
  simp[go_sem,this];exact aL rfl rfl
 have h0':¬(z:Int)=0:=o_;by_cases h24:24<z
 ·have h24':(24:Int)<z:=o_;simp[go_sem,mr,h0,h24'];refine hR ⟨_,rfl,?_⟩;have:jt s=false:=by rw[hn,decide_eq_false (show ¬z<=24 by omega)];simp
  simp[go_sem,this];exact aL rfl rfl
 have h24':¬(24:Int)<z:=o_;have hi0:=hix 0 o_;have hc0:=HA (dI s 0) (oI s 0);simp only[show((0:Nat):Int)=0 from rfl]at hi0;by_cases hl:uD (dI s 0)=false
 ·simp[go_sem,mr,h0,h24',hi0,hc0,hl];refine hR ⟨_,rfl,?_⟩;have:jt s=false:=by simp[hn,hl]
  simp[go_sem,this];exact aL rfl rfl
 replace hl:uD (dI s 0)=true:=by simpa using hl
 have hn':jt s=ox s 0 z:=by rw[hn,hl,decide_eq_true h0,decide_eq_true (show z<=24 by omega)];simp
 simp[go_sem,mr,h0,h24',hi0,hc0,hl];refine bR (Vy s z) z ⟨0,rfl,aO _,rfl,g_,g_,by rw[hn'];rfl⟩ ?_;rintro n t h ⟨k,rfl,hk,rfl,g0,g3,hd⟩;by_cases hlt:k<z
 ·have hlt':(k:Int)<z:=o_;have hi:=hix k hlt;have c1:=HA (dI s k) (oI s k);have c2:=Oz (dI s k) (oI s k);have w2:=wS k o_;rw[show z-k=(z-(k+1))+1 by omega,ox,tZ]at hd;by_cases d1:uD (dI s k)=true<;>by_cases d2:Lp (dI s k)=true<;>by_cases d3:(dI s k:Int)=95<;>by_cases d4:(dI s k:Int)=35
  all_goals
   have d3':(dI s k==95)=decide ((dI s k:Int)=95):=by rw[eZ];simp;omega
   have d4':(dI s k==35)=decide ((dI s k:Int)=35):=by rw[eZ];simp;omega
   rw[d3',d4']at hd;simp[d1,d2,d3,d4]at hd;try rw[d3]at hi c1 c2
   try rw[d4]at hi c1 c2
   simp[go_sem,mr,g0,g3,hlt',hi,c1,c2,d1,d2,d3,d4,-Int.natCast_add,w2];first
    |(exfalso;omega)
    |exact⟨z-(k+1),by omega,k+1,rfl,hlt,rfl,by simp[go_sem,g0],by simp[go_sem],hd⟩
    |(refine hR ⟨_,rfl,?_⟩;simp[go_sem,hd];exact aL rfl rfl)
 have:k=z:=o_;subst this;simp[go_sem,mr,g0,g3];refine hR ⟨_,rfl,?_⟩;rw[Nat.sub_self,ox]at hd;simp[go_sem,<-hd];exact aL rfl rfl
theorem fM(x y:Operand) (a b:ByteArray):jC C.P .eql 9 x y (.str a) (.str b)=some (.bool (decide (a=b))):=by
 have e:dA C.P (do eqGuard BinOp.eql 9 x y (.string a) (.string b);binOp .eql 9 (.string a) (.string b))=some (.bool (a.toList==b.toList)):=by simp[eqGuard,binOp,Op.stringOp];try rfl
 simp only[jC,fE,ce,e,dl,dT];congr 2
 have:a.toList=b.toList↔a=b:=by have c:a.toList=a.data.toList:=ByteArray.toList_eq a;have d:b.toList=b.data.toList:=ByteArray.toList_eq b;rw[c,d];exact name_inj
 by_cases h:a=b
 ·subst h;simp
 have f:¬a.toList=b.toList:=λe=>h (this.1 e)
 simp[h,f]
def tU(t:T):Bool:=(decide (t.kind≠1)&&decide (t.kind≠2)&&decide (t.kind≠3))||decide (t.sort<0)||decide (5<t.sort)||(decide (t.kind≠1)&&decide (t.kind≠2)&&decide (t.sort≠0))||((decide (t.kind=1)||decide (t.kind=2))&&decide (0<t.kids.length))
def iE(t:T):Int:=if tU t=true then 1 else if jt t.name=false then 2 else if 8<t.kids.length then 3 else 0
theorem xN(k s:Int) (n:ByteArray) (q:AV):aX C.P [.cells [.int .i64 k,.str n,.int .i64 s,q] .live] 3 (.ptr 0 0)=some (.int .i64 k):=by simp[aX,ae,a3,s3]
theorem sC(k s:Int) (n:ByteArray) (q:AV):aX C.P [.cells [.int .i64 k,.str n,.int .i64 s,q] .live] 9 (.ptr 0 1)=some (.str n):=by simp[aX,ae,a9,s9]
theorem UV(k s:Int) (n:ByteArray) (q:AV):aX C.P [.cells [.int .i64 k,.str n,.int .i64 s,q] .live] 3 (.ptr 0 2)=some (.int .i64 s):=by simp[aX,ae,a3,s3]
theorem jG(k s:Int) (n:ByteArray) (es:LA) (x:Ext):aX C.P [.cells [.int .i64 k,.str n,.int .i64 s,.isl es x] .live] 37 (.ptr 0 3)=some (.isl es x):=by simp[aX,ae,a23,s23]
theorem L9(s:ByteArray) (h:H):az C h (.func 241 []) (some [.str s])=some (.bool (jt s),h):=ah rfl rfl s_ (Ij s)
theorem Nh(t:T):ay C 180 [enc t]=some (.int .i64 (iE t)):=by
 refine bD func180 rfl λR c=>?_
 have e:=L9 t.name;simp +contextual [go_sem,aQ,xN,UV,jG,dq];refine Ife_iff.2 ⟨λd=>?_,λd=>?_⟩
 ·have a:tU t=true:=by simpa[tU]using d
  simp[go_sem];refine c ⟨_,rfl,?_⟩;simp[go_sem,iE,a];exact aL rfl rfl
 have a:tU t=false:=by simpa[tU]using d
 simp +contextual [go_sem,sC,e];refine Ife_iff.2 ⟨λb=>?_,λb=>?_⟩
 ·simp[go_sem];refine c ⟨_,rfl,?_⟩;simp[go_sem,iE,a,b];exact aL rfl rfl
 simp at b;simp +contextual [go_sem,jG,dq];refine Ife_iff.2 ⟨λf=>?_,λf=>?_⟩
 ·simp[go_sem];refine c ⟨_,rfl,?_⟩;simp[go_sem,iE,a,b,show 8<t.kids.length by omega];exact aL rfl rfl
 simp[go_sem];refine c ⟨_,rfl,?_⟩;simp[go_sem,iE,a,b,show ¬8<t.kids.length by omega];exact aL rfl rfl
theorem I1:(List.range 256).all (λc=>(tZ c && !(decide (48<=c)&&decide (c<=57)) && !(decide (c=95)) && !(decide (c=35)))==uD c)=true:=k_
theorem FO(c:Nat) (hc:c<256):(tZ c && !(decide (48<=c)&&decide (c<=57)) && !(decide (c=95)) && !(decide (c=35)))=uD c:=eq_of_beq (bM.mp I1 c (dO.mpr hc))
def V0(s:ByteArray) (z n:Nat) (t:PT) (h:H):Prop:=∃k:Nat,n=z-k/\k<=z/\h=[]/\t.get 0=.str s/\t.get 38=.int .i64 z/\t.get 39=.int .i64 k/\ox s k (z-k)=jt s
theorem Ik(s:ByteArray):ay C 298 [.str s]=some (.bool (jt s)):=by
 refine bD func298 rfl λR hR=>?_
 have hn:jt s=(decide (s.size≠0)&&decide (s.size<=24)&&uD (dI s 0)&&ox s 0 s.size):=rfl;have mr:=mr s;have hix:=Bw s;have he:(s=⟨#[]⟩)↔s.size=0:=⟨λe=>by subst e;rfl,λe=>by cases s;simp[ByteArray.size]at e;simp[e]⟩
 by_cases h0:s.size=0
 ·have h0':=he.2 h0;simp +contextual [go_sem,fM,h0'];refine hR ⟨_,rfl,?_⟩;have:jt s=false:=by simp[hn,h0]
  simp[go_sem,this];exact aL rfl rfl
 have h0':¬s=⟨#[]⟩:=λe=>h0 (he.1 e)
 have hi0:=hix 0 o_;have hc0:=HB (dI s 0) (oI s 0);have hlt:=oI s 0;simp only[show((0:Nat):Int)=0 from rfl]at hi0;have hfp:=FO (dI s 0) hlt;generalize s.size=z at mr hn hix h0;by_cases h24:24<z
 ·have h24':(24:Int)<z:=o_;simp +contextual [go_sem,fM,mr,h0',h24'];refine hR ⟨_,rfl,?_⟩;have:jt s=false:=by rw[hn,decide_eq_false (show ¬z<=24 by omega)];simp
  simp[go_sem,this];exact aL rfl rfl
 have h24':¬(24:Int)<z:=o_;simp +contextual [go_sem,fM,mr,h0',h24',hi0,hc0];refine Ife_iff.2 ⟨λh1=>?_,λh1=>?_⟩
 ·have hl:uD (dI s 0)=false:=by
   cases hlb:uD (dI s 0)with
   |false=>rfl
   |true=>rw[hlb]at hfp;simp at hfp;rw[hfp.1.1.1]at h1;simp at h1;omega
  simp[go_sem];refine hR ⟨_,rfl,?_⟩;have:jt s=false:=by rw[hn,hl];simp
  simp[go_sem,this];exact aL rfl rfl
 have hl:uD (dI s 0)=true:=by
  rw[<-hfp];simp only[not_or]at h1;have p1:tZ (dI s 0)=true:=by simpa using h1.1.1.1
  have p2:=h1.1.1.2;have p3:=h1.1.2;have p4:=h1.2;rw[p1,decide_eq_false (show ¬dI s 0=95 by omega),decide_eq_false (show ¬dI s 0=35 by omega)];by_cases q:48<=dI s 0
  ·rw[decide_eq_false (show ¬dI s 0<=57 by omega)];simp
  rw[decide_eq_false q];simp
 have hn':jt s=ox s 0 z:=by rw[hn,hl,decide_eq_true h0,decide_eq_true (show z<=24 by omega)];simp
 simp +contextual [go_sem,mr];refine bR (V0 s z) z ⟨0,rfl,aO _,rfl,g_,g_,g_,by rw[hn'];rfl⟩ ?_;rintro n t h ⟨k,rfl,hk,rfl,g0,g38,g39,hd⟩;by_cases hlt:k<z
 ·have hlt':(k:Int)<z:=o_;have hi:=hix k hlt;have c1:=HB (dI s k) (oI s k);have w2:=wS k o_;rw[show z-k=(z-(k+1))+1 by omega,ox]at hd;cases hp:tZ (dI s k)with
  |true=>
   rw[hp,jc]at hd
   simp[go_sem,g0,g38,g39,hlt',hi,c1,hp,-Int.natCast_add,w2]
   exact⟨z-(k+1),by omega,k+1,rfl,hlt,rfl,by simp[go_sem,g0],by simp[go_sem,g38],by simp[go_sem],hd⟩
  |false=>rw[hp,gm]at hd;simp[go_sem,g0,g38,g39,hlt',hi,c1,hp];refine hR ⟨_,rfl,?_⟩;simp[go_sem,<-hd];exact aL rfl rfl
 have:k=z:=o_;subst this;simp[go_sem,g38,g39];refine hR ⟨_,rfl,?_⟩;rw[Nat.sub_self,ox]at hd;simp[go_sem,<-hd];exact aL rfl rfl
theorem O5(s:ByteArray) (h:H):az C h (.func 298 []) (some [.str s])=some (.bool (jt s),h):=ah rfl rfl s_ (Ik s)
mutual
def dG:T->Int
 |.mk k n s l=>thn (iE (.mk k n s l)) (lW l)
def lW:Lq->Int
 |[]=>0
 |t::l=>thn (dG t) (lW l)
end
theorem qC(t:T):dG t=thn (iE t) (lW t.kids):=by cases t;rw[dG];rfl
def bc(t:T):Int:=thn (dG t) (if 400<t.size\/40<t.depth then 3 else 0)
theorem vJ(t:T):t.depth=depths t.kids+1:=by cases t;rw[T.depth];rfl
def tc(t:T):LA:=[.int .i64 t.kind,.str t.name,.int .i64 t.sort,.isl (t.kids.map enc) .unk]
theorem wj(t:T):aX C.P [.cells [.int .i64 t.kind,.str t.name,.int .i64 t.sort,.isl (t.kids.map enc) .unk] .live] 39 (.ptr 0 0)=some (enc t):=by simp[aX,ae,a25,s25];rw[bJ];rfl
theorem PB(t:T) (h:H):az C h (.func 180 []) (some [enc t])=some (.int .i64 (iE t),h):=ah (dC _) (by simp[aw]) s_ (Nh t)
def WA(t:T) (n:Nat) (s:PT) (h:H):Prop:=∃k:Nat,n=t.kids.length-k/\k<=t.kids.length/\h=[.cells (tc t) .live]/\s.get 1=.ptr 0 0/\s.get 4=.int .i64 k/\lW (t.kids.drop k)=dG t
theorem Kl(t:T) (hs:t.size<4000000) (hc:∀k∈t.kids,ay C 114 [enc k]=some (.int .i64 (dG k))):ay C 114 [enc t]=some (.int .i64 (dG t)):=by
 refine bD func114 rfl λR hR=>?_
 have c1:=PB t;have hq:=qC t;by_cases h1:iE t=0
 ·simp +contextual [go_sem,aQ,wj,c1,h1];refine bR (WA t) t.kids.length ⟨0,rfl,aO _,rfl,g_,g_,by rw[hq,h1];rfl⟩ ?_;rintro n s h ⟨k,rfl,hk,rfl,g1,g4,hd⟩;have hlen:=len_sizes t.kids;have hsz:=size_kids t;by_cases hlt:k<t.kids.length
  ·have hlt':(k:Int)<t.kids.length:=o_;have hix:=lE t.kids k hlt .unk;have ck:∀h,az C h (.func 114 []) (some [enc t.kids[k]])=some (.int .i64 (dG t.kids[k]),h):=λh=>ah (dC _) (by simp[aw]) s_ (hc _ (aG hlt))
   have w1:=wS k o_;rw[aH hlt,lW]at hd;by_cases h2:dG t.kids[k]=0
   ·rw[h2]at hd
    simp[go_sem,tc,jG,dq,g1,g4,hlt',hix,iT,ck,h2,-Int.natCast_add,w1]
    exact⟨t.kids.length-(k+1),by omega,k+1,rfl,hlt,rfl,by simp[go_sem,g1],by simp[go_sem],hd⟩
   simp[go_sem,tc,jG,dq,g1,g4,hlt',hix,iT,ck,h2];refine hR ⟨_,rfl,?_⟩;simp[go_sem,<-hd,thn,h2];exact aL rfl rfl
  have:k=t.kids.length:=o_;subst this;simp[go_sem,tc,jG,dq,g1,g4];refine hR ⟨_,rfl,?_⟩;rw[aj,lW]at hd;simp[go_sem,<-hd];exact aL rfl rfl
 simp +contextual [go_sem,mF,aQ,wj,c1,h1];refine hR ⟨_,rfl,?_⟩;simp[go_sem,hq,thn,h1];exact aL rfl rfl
theorem Bf(t:T):t.size<4000000->ay C 114 [enc t]=some (.int .i64 (dG t)):=by
 induction t using T.ind with
 |_ t b=>exact λc=>Kl t c (λk a=>b k a (by have:=kid_size a;omega))
theorem PM(t:T) (hs:t.size<4000000) (h:H):az C h (.func 114 []) (some [enc t])=some (.int .i64 (dG t),h):=ah (dC _) (by simp[aw]) s_ (Bf t hs)
theorem vI(t:T):t.depth<=t.size/\0<t.depth:=by
 induction t using T.ind with
 |_ t b=>
  rw[vJ,size_kids];have:depths t.kids<=sizes t.kids:=by
   generalize t.kids=l at b;induction l with
   |nil=>simp[depths,sizes]
   |cons a l c=>have e:=b a s_;have f:=c (λk d=>b k (by simp[d]));rw[depths,sizes];omega
  omega
def V9(t:T) (n:Nat) (s:PT) (h:H):Prop:=∃k c:Nat,n=t.kids.length-k/\k<=t.kids.length/\h=[.cells (tc t) .live]/\s.get 1=.ptr 0 0/\s.get 3=.int .i64 c/\s.get 4=.int .i64 k/\max c (depths (t.kids.drop k))=depths t.kids
theorem Bo(P:Program) (a b:Int):ql P true [.int .i64 a,.int .i64 b]=some (.int .i64 (max a b)):=by
 simp only[ql,toList,ce];have e:dA P (Builtin.max_ #[] 0 [Value.int .i64 a,.int .i64 b].toArray)=some (.int .i64 (max a b)):=by
  simp only[Builtin.max_,List.foldlM,Builtin.max2,iC,iB,cN];congr 2
  split<;>omega
 simp[e,dl,dT]
theorem Lr(t:T) (hs:t.size<4000000) (hc:∀k∈t.kids,ay C 116 [enc k]=some (.int .i64 k.depth)):ay C 116 [enc t]=some (.int .i64 t.depth):=by
 refine bD func116 rfl λR hR=>?_
 simp +contextual [go_sem,aQ];refine bR (V9 t) t.kids.length ⟨0,0,rfl,aO _,rfl,g_,g_,g_,s_⟩ ?_;rintro n s h ⟨k,c,rfl,hk,rfl,g1,g3,g4,hd⟩;have hlen:=len_sizes t.kids;have hsz:=size_kids t;have hde:=vJ t;have hdl:=(vI t).1;by_cases hlt:k<t.kids.length
 ·have hlt':(k:Int)<t.kids.length:=o_;have hix:=lE t.kids k hlt .unk;have ck:∀h,az C h (.func 116 []) (some [enc t.kids[k]])=some (.int .i64 (t.kids[k].depth:Nat),h):=λh=>ah (dC _) (by simp[aw]) s_ (hc _ (aG hlt))
  have w1:IntKind.i64.wrap ((k:Int)+1)=((k+1:Nat):Int):=by rw[av (by omega)];omega
  rw[aH hlt,depths,<-Nat.max_assoc]at hd
  simp[go_sem,tc,jG,dq,g1,g3,g4,hlt',hix,iT,ck,Bo,-Int.natCast_add,w1]
  refine⟨t.kids.length-(k+1),by omega,k+1,max c t.kids[k].depth,rfl,hlt,rfl,by simp[go_sem,g1],?_,by simp[go_sem],hd⟩
  simp[go_sem];omega
 have:k=t.kids.length:=o_;subst this;rw[aj,depths]at hd;have hc0:c=depths t.kids:=o_;have w1:IntKind.i64.wrap ((c:Int)+1)=(t.depth:Nat):=by rw[av o_];omega
 simp[go_sem,tc,jG,dq,g1,g3,g4,w1];refine hR ⟨_,rfl,?_⟩;simp[go_sem];exact aL rfl rfl
theorem CB(t:T):t.size<4000000->ay C 116 [enc t]=some (.int .i64 t.depth):=by
 induction t using T.ind with
 |_ t b=>exact λc=>Lr t c (λk a=>b k a (by have:=kid_size a;omega))
theorem PL(t:T) (hs:t.size<4000000) (h:H):az C h (.func 116 []) (some [enc t])=some (.int .i64 t.depth,h):=ah (dC _) (by simp[aw]) s_ (CB t hs)
theorem ME(t:T) (hs:t.size<4000000) (h:H):az C h (.func 115 []) (some [enc t])=some (.int .i64 t.size,h):=ah (dC _) (by simp[aw]) s_ (ri t hs)
theorem M5(t:T) (hs:t.size<4000000):ay C 76 [enc t]=some (.int .i64 (bc t)):=by
 refine bD func76 rfl λR b=>?_
 have c:=PM t hs;have d:=ME t hs;have c3:=PL t hs;simp +contextual [go_sem,aQ,wj,c];refine Ife_iff.2 ⟨λa=>?_,λa=>?_⟩
 ·simp[go_sem];refine b ⟨_,rfl,?_⟩;simp[go_sem,bc,thn,a];exact aL rfl rfl
 simp only[Decidable.not_not]at a;simp +contextual [go_sem,wj,d,c3];refine Ife_iff.2 ⟨λe=>?_,λe=>?_⟩
 ·simp[go_sem];refine b ⟨_,rfl,?_⟩;simp[go_sem,bc,thn,a,show 400<t.size\/40<t.depth by omega];exact aL rfl rfl
 simp[go_sem];refine b ⟨_,rfl,?_⟩;simp[go_sem,bc,thn,a,show ¬(400<t.size\/40<t.depth) by omega];exact aL rfl rfl
theorem qL(t:T):dat (enc t)=some (enc t):=by rw[bJ];rfl
theorem kq(t:T) (hs:t.size<4000000) (h:H):az C h (.func 76 []) (some [enc t])=some (.int .i64 (bc t),h):=ah (dC _) (by simp[aw]) s_ (M5 t hs)
theorem jx{f:FuncId}{args:LA}{h:H}(hb:fA C.P f=true) (hm:C.mode f=.openH):az C h (.func f []) (some args)=Go.V.Call C f args h:=by simp only[az,hb,if_true,cC];unfold dJ;rw[hm]
theorem Nt{h:H}{p:Nat}{x:AV}{_st:OSt}(hp:h[p]?=some (.cells [x] .live)):aX C.P h 3 (.ptr p 0)=some x:=by simp[aX,hp,ae,a3,s3]
theorem NJ{h:H}{p:Nat}{x:AV}(v:Int) (hp:h[p]?=some (.cells [x] .live)):cr C.P h 3 (.ptr p 0) (.int .i64 v)=some (h.set p (.cells [.int .i64 v] .live)):=by simp[cr,hp,s3]
def Two(h h':H) (p q:Nat) (n d:Int):Prop:=h.length<=h'.length/\(∀i,i<h.length->i≠p->i≠q->h'[i]?=h[i]?)/\h'[p]?=some (.cells [.int .i64 n] .live)/\h'[q]?=some (.cells [.int .i64 d] .live)
theorem Two.trans{h h1 h2:H}{p q:Nat}{n d n' d':Int}(_hp:p<h.length) (_hq:q<h.length) (a:Two h h1 p q n d) (b:Two h1 h2 p q n' d'):Two h h2 p q n' d':=
 ⟨cM a.1 b.1,λi c h1 h2=>(b.2.1 i (db c a.1) h1 h2).trans (a.2.1 i c h1 h2),b.2.2.1,b.2.2.2⟩
theorem Two.push{h h1:H}{p q:Nat}{n d:Int}(a:Two h h1 p q n d) (hp:p<h.length) (hq:q<h.length) (x:List VObj):Two h (h1++x) p q n d:=by
 have⟨g,e,a3,a4⟩:=a;refine⟨by simp;omega,λi f b c=>?_,?_,?_⟩
 ·rw[aM o_];exact e i f b c
 ·rw[aM o_];exact a3
 rw[aM o_];exact a4
theorem XY{h:H}{b:Nat}{t:T}(hb:h[b]?=some (.cells (tc t) .live)):aX C.P h 3 (.ptr b 0)=some (.int .i64 t.kind)/\aX C.P h 9 (.ptr b 1)=some (.str t.name)/\aX C.P h 3 (.ptr b 2)=some (.int .i64 t.sort)/\aX C.P h 37 (.ptr b 3)=some (.isl (t.kids.map enc) .unk)/\aX C.P h 39 (.ptr b 0)=some (enc t):=by
 refine⟨?_,?_,?_,?_,?_⟩
 ·simp[aX,hb,ae,a3,s3,tc]
 ·simp[aX,hb,ae,a9,s9,tc]
 ·simp[aX,hb,ae,a3,s3,tc]
 ·simp[aX,hb,ae,a23,s23,tc]
 simp[aX,hb,ae,a25,s25,tc];rw[bJ];rfl
def RD:AV->Option AV
 |.ptr i n=>some (.ptr i n)
 |.iptr e n=>some (.iptr e n)
 |.func f c=>some (.func f c)
 |_=>none
@[go_sem] theorem UF (i n:Nat):RD (.ptr i n)=some (.ptr i n):=(rfl)
@[go_sem] theorem Sm {C:Cfg}{cf:FuncId}{ops:Array Oper}{d:Tmp}{ty:TypeId}{p:String}{af:Array Edge}{l:List Oper}{s:PT}{h:H}{K:PT->H->Prop}(x:Operand) :
  OW C cf ops (⟨some d,.nilCheck x,ty,p,af,none⟩::l) s h K↔bO (bi1 (ev s x) RD) λv=>OW C cf ops l (s.set d v) h K:=OWn (by simp only[opN,bi1,RD];cases ev s x<;>first|rfl|(rename_i c;cases c<;>rfl)) rfl rfl
theorem vT(t:T):tU t=true↔(t.kind≠1/\t.kind≠2/\t.kind≠3)\/t.sort<0\/5<t.sort\/(t.kind≠1/\t.kind≠2/\t.sort≠0)\/((t.kind=1\/t.kind=2)/\0<t.kids.length):=by simp only[tU,bZ,aq,decide_eq_true_eq,or_assoc,and_assoc]
theorem Je{t:T}(h:¬tU t=true):tU t=false:=by simpa using h
def V5(t:T) (h0:H) (p q:Nat) (n d lvl:Int) (m:Nat) (s:PT) (h:H):Prop:=∃k:Nat,∃cur:Int,m=t.kids.length-k/\k<=t.kids.length/\Two h0 h p q (n+1+sizes (t.kids.take k)) cur /\
 s.get 1=.int .i64 lvl/\s.get 2=.ptr p 0/\s.get 3=.ptr q 0/\s.get 57=.isl (t.kids.map enc) .unk/\s.get 58=.int .i64 t.kids.length/\s.get 59=.int .i64 k/\lW (t.kids.drop k)=dG t /\
 lvl<=cur/\max cur (lvl+depths (t.kids.drop k))=max d (lvl+depths t.kids)
def Chk(t:T):Prop:=∀(h:H) (p q:Nat) (n d lvl:Int),p≠q->h[p]?=some (.cells [.int .i64 n] .live)->h[q]?=some (.cells [.int .i64 d] .live)->0<=n->n+t.size<1000000000->0<=d->d<1000000000->0<=lvl->lvl+t.size<1000000000 ->
 ∃r h',Go.V.Call C 247 [enc t,.int .i64 lvl,.ptr p 0,.ptr q 0] h=some (r,h')/\r=.int .i64 (dG t)/\∃n' d',Two h h' p q n' d'/\0<=n'/\n'<=n+t.size/\0<=d'/\d'<1000000000/\(dG t=0->n'=n+t.size/\d'=max d (lvl+t.depth-1))
theorem L7(t:T) (hc:∀k∈t.kids,Chk k):Chk t:=by
 intro h p q n d lvl hpq hp hq hn0 hn1 hd0 hd1 hl0 hl1;refine oC (Q:=λr h'=>r=.int .i64 (dG t)/\∃n' d',Two h h' p q n' d'/\0<=n'/\n'<=n+t.size/\0<=d'/\d'<1000000000/\(dG t=0->n'=n+t.size/\d'=max d (lvl+t.depth-1))) rfl func247 rfl k_ (by simp[f247]) λR hR=>?_
 have hpl:=(aB.1 hp).1;have hql:=(aB.1 hq).1;have hsz:=size_kids t;have hlen:=len_sizes t.kids;have hde:=vJ t;have hdl:=(vI t).1;have hne:=qC t;have T0:Two h (h++[.cells (tc t) .live]) p q n d:=Two.push ⟨aT _,λi _ _ _=>rfl,hp,hq⟩ hpl hql _;have hb0:(h++[.cells (tc t) .live])[h.length]?=some (.cells (tc t) .live):=s_;obtain⟨g0,hg0⟩:∃g,g=h++[.cells (tc t) .live]:=⟨_,rfl⟩
 have bx:mX C.P h 39 (enc t)=some (.ptr h.length 0,g0):=by rw[nA,hg0];rfl
 rw[<-hg0]at T0 hb0;have w1:IntKind.i64.wrap (n+1)=n+1:=av o_;have T1:Two h (g0.set p (.cells [.int .i64 (n+1)] .live)) p q (n+1) d:=by have⟨a1,a2,a3,a4⟩:=T0;exact⟨by simpa using a1,λi hi h1 h2=>by rw[aE (λe=>h1 e.symm)];exact a2 i hi h1 h2,aJ o_,by rw[aE hpq];exact a4⟩
 have hb1:(g0.set p (.cells [.int .i64 (n+1)] .live))[h.length]?=some (.cells (tc t) .live):=by rw[aE o_];exact hb0
 have e1:=Nt (_st:=.live) T0.2.2.1;have e2:=NJ (n+1) T0.2.2.1;obtain⟨g1,hg1⟩:∃g,g=g0.set p (.cells [.int .i64 (n+1)] .live):=⟨_,rfl⟩
 rw[<-hg1]at T1 hb1 e2;have e3:=Nt (_st:=.live) T1.2.2.2;have e4:=NJ (max d lvl) T1.2.2.2;have T2:Two h (g1.set q (.cells [.int .i64 (max d lvl)] .live)) p q (n+1) (max d lvl):=by have⟨a1,a2,a3,a4⟩:=T1;exact⟨by simpa using a1,λi hi h1 h2=>by rw[aE (λe=>h2 e.symm)];exact a2 i hi h1 h2,by rw[aE (λe=>hpq e.symm)];exact a3,aJ o_⟩
 have hb2:(g1.set q (.cells [.int .i64 (max d lvl)] .live))[h.length]?=some (.cells (tc t) .live):=by rw[aE o_];exact hb1
 obtain⟨g2,hg2⟩:∃g,g=g1.set q (.cells [.int .i64 (max d lvl)] .live):=⟨_,rfl⟩
 rw[<-hg2]at T2 hb2 e4;have⟨l1,l2,l3,l4,_⟩:=XY hb2;have c1:=O5 t.name;have fin:∀e,iE t=e->e≠0->dG t=e:=λe h1 h2=>by rw[hne,h1];simp[thn,h2]
 have out:∀(s:PT),(s.get 8=.int .i64 (dG t))->dG t≠0->R .ret s g2:=λs hs hz=>by refine hR _ _ _ (.inr rfl) ⟨.int .i64 (dG t),by simp[ag,cG,f247,hs],rfl,n+1,max d lvl,T2,o_,o_,o_,o_,λe=>absurd e hz⟩
 have kk:t.kind=1\/t.kind=2\/t.kind=3\/(t.kind≠1/\t.kind≠2/\t.kind≠3):=o_;have bad1:tU t=true->dG t=1:=λhb=>fin 1 (by simp[iE,hb]) s_
 rcases kk with hk|hk|hk|⟨hk1,hk2,hk3⟩
 rotate_left 3
 ·have hb:=bad1 ((vT t).2 (.inl ⟨hk1,hk2,hk3⟩));simp +contextual [go_sem,bx,e1,e2,e3,e4,w1,Bo,l1,hk1,hk2,hk3];exact out _ (by simp[go_sem,hb]) (by rw[hb];simp)
 all_goals
  simp +contextual [go_sem,bx,e1,e2,e3,e4,w1,Bo,l1,l3,l4,dq,hk];refine Ife_iff.2 ⟨λh1=>?_,λh1=>?_⟩
  ·have hb:=bad1 ((vT t).2 o_);simp[go_sem];exact out _ (by simp[go_sem,hb]) (by rw[hb];simp)
  have hnb:=Je (t:=t) (λhb=>by have:=(vT t).1 hb;omega);simp +contextual [go_sem,l2,c1];refine Ife_iff.2 ⟨λh2=>?_,λh2=>?_⟩
  ·have hb:=fin 2 (by simp[iE,hnb,h2]) s_;simp[go_sem];exact out _ (by simp[go_sem,hb]) (by rw[hb];simp)
  simp at h2;simp +contextual [go_sem,l4,dq];refine Ife_iff.2 ⟨λh3=>?_,λh3=>?_⟩
  ·have hb:=fin 3 (by simp[iE,hnb,h2,show 8<t.kids.length by omega]) s_;simp[go_sem];exact out _ (by simp[go_sem,hb]) (by rw[hb];simp)
  have hn0':iE t=0:=by simp[iE,hnb,h2,show ¬8<t.kids.length by omega]
  simp +contextual [go_sem,l4,dq];refine bR (V5 t h p q n d lvl) t.kids.length ⟨0,max d lvl,rfl,aO _,by simpa[sizes]using T2,g_,g_,g_,g_,g_,g_,by rw[hne,hn0'];rfl,o_,by simp only[eX];omega⟩ ?_;rintro m s hh ⟨k,cur,rfl,hkl,TT,g1',g2',g3',g57,g58,g59,hd,hcl,hcm⟩;by_cases hlt:k<t.kids.length
  ·have hlt':(k:Int)<t.kids.length:=o_;have hix:=lE t.kids k hlt .unk;have t1:=take_sizes hlt;have t2:=take_sizes_le t.kids (k+1);have ksz:=kid_size (aG hlt);have w2:=wS k o_;have w3:IntKind.i64.wrap (lvl+1)=lvl+1:=av o_;have TT':=TT.push hpl hql [.cells [.int .i64 t.kids[k].kind,.str t.kids[k].name,.int .i64 t.kids[k].sort,aQ t.kids[k].kids] .live];obtain⟨hz,ehz⟩:∃g,g=hh++[.cells [.int .i64 t.kids[k].kind,.str t.kids[k].name,.int .i64 t.kids[k].sort,aQ t.kids[k].kids] .live]:=⟨_,rfl⟩
   rw[<-ehz]at TT';have hpl':p<hz.length:=by have:=TT'.1;omega
   have hql':q<hz.length:=by have:=TT'.1;omega
   obtain⟨r,h',cc,rfl,n',d',T3,u1,u2,u3,u4,u5⟩:=hc _ (aG hlt) hz p q (n+1+sizes (t.kids.take k)) cur (lvl+1) hpq TT'.2.2.1 TT'.2.2.2 o_ o_ o_ o_ o_ o_;have cv:=(jx (f:=247) k_ rfl).trans cc;rw[ehz]at cv;have T4:=Two.trans hpl hql TT' T3;rw[aH hlt,lW]at hd;rw[aH hlt,depths]at hcm;have kdl:=vI t.kids[k];by_cases h4:dG t.kids[k]=0
   ·rw[h4]at hd cv
    obtain⟨u6,u7⟩:=u5 h4
    simp[go_sem,g1',g2',g3',g57,g58,g59,hlt',hix,iT,NM,DH,-Int.natCast_add,w2,w3,cv]
    exact⟨t.kids.length-(k+1),by omega,k+1,d',rfl,hlt,by rw[show n+1+sizes (t.kids.take (k+1))=n' by omega];exact T4,by simp[go_sem,g1'],by simp[go_sem,g2'],by simp[go_sem,g3'],by simp[go_sem,g57],by simp[go_sem,g58],by simp[go_sem],hd,by omega,by omega⟩
   have hne2:dG t.kids[k]=dG t:=by rw[<-hd];simp[thn,h4]
   simp[go_sem,g1',g2',g3',g57,g58,g59,hlt',hix,iT,NM,DH,-Int.natCast_add,w3,cv,h4];refine hR _ _ _ (.inr rfl) ⟨.int .i64 (dG t),by simp[ag,cG,f247,go_sem,hne2],rfl,_,_,T4,o_,o_,o_,o_,λe=>absurd (hne2.trans e) h4⟩
  have:k=t.kids.length:=o_;subst this;rw[ao]at TT;rw[aj,depths]at hcm;rw[aj,lW]at hd;simp[go_sem,g58,g59];refine hR _ _ _ (.inr rfl) ⟨.int .i64 (dG t),by simp[ag,cG,f247,go_sem,<-hd],rfl,_,_,TT,o_,o_,o_,o_,λ_=>⟨o_,o_⟩⟩
theorem CF(t:T):Chk t:=by
 induction t using T.ind with
 |_ t a=>exact L7 t a
theorem wl(t:T) (l:List VObj):aX C.P (.cells [.int .i64 t.kind,.str t.name,.int .i64 t.sort,.isl (t.kids.map enc) .unk] .live::l) 39 (.ptr 0 0)=some (enc t):=by simp[aX,ae,a25,s25];rw[bJ];rfl
theorem K5(x:VObj) (t:T) (l:List VObj):aX C.P (x::.cells [.int .i64 t.kind,.str t.name,.int .i64 t.sort,.isl (t.kids.map enc) .unk] .live::l) 39 (.ptr 1 0)=some (enc t):=by simp[aX,ae,a25,s25];rw[bJ];rfl
@[go_sem] theorem Yj (k s:Int) (n x:AV) (l:List VObj):aX C.P (.cells [.int .i64 k,n,.int .i64 s,x] .live::l) 3 (.ptr 0 0)=some (.int .i64 k):=by simp[aX,ae,a3,s3]
@[go_sem] theorem Yi (k s:Int) (n x:AV) (l:List VObj):aX C.P (.cells [.int .i64 k,n,.int .i64 s,x] .live::l) 3 (.ptr 0 2)=some (.int .i64 s):=by simp[aX,ae,a3,s3]
@[go_sem] theorem Yh (k s:Int) (n x:AV) (y:VObj) (l:List VObj):aX C.P (y::.cells [.int .i64 k,n,.int .i64 s,x] .live::l) 3 (.ptr 1 0)=some (.int .i64 k):=by simp[aX,ae,a3,s3]
@[go_sem] theorem Yg (k s:Int) (n x:AV) (y:VObj) (l:List VObj):aX C.P (y::.cells [.int .i64 k,n,.int .i64 s,x] .live::l) 3 (.ptr 1 2)=some (.int .i64 s):=by simp[aX,ae,a3,s3]
@[go_sem] theorem zv3:gy C.P 3=some (.int .i64 0):=k_
@[go_sem] theorem TV (v:Int):(AV.int .i64 v).cells=[.int .i64 v]:=(rfl)
theorem Jx(t:T) (hs:t.size<4000000):ay C 192 [enc t]=some (.int .i64 (bc t)):=by
 refine bD func192 rfl λR b=>?_
 obtain⟨r,o,i,rfl,q,s,c,u,v,w,y,j⟩:=CF t [.cells (tc t) .live,.cells [.int .i64 0] .live,.cells [.int .i64 0] .live] 1 2 0 0 1 o_ rfl rfl o_ o_ o_ o_ o_ o_;have d:=(jx (f:=247) k_ rfl).trans i;have k:=Nt (_st:=.live) c.2.2.1;have l:=Nt (_st:=.live) c.2.2.2;have m:=vI t;simp only[tc]at d;have e:=λx:VObj=>NJ (h:=[x,.cells [.int .i64 0] .live,.cells [.int .i64 0] .live]) (p:=1) (x:=.int .i64 0) 0 rfl
 have g:=λx:VObj=>NJ (h:=[x,.cells [.int .i64 0] .live,.cells [.int .i64 0] .live]) (p:=2) (x:=.int .i64 0) 0 rfl
 simp only[List.set]at e g;simp +contextual [go_sem,aQ,wl,d,e,g];refine Ife_iff.2 ⟨λa=>?_,λa=>?_⟩
 ·simp[go_sem];refine b ⟨_,rfl,?_⟩;simp[go_sem,bc,thn,a];exact aL rfl rfl
 simp only[Decidable.not_not]at a;have⟨z,A⟩:=j a;simp +contextual [go_sem,k,l];refine Ife_iff.2 ⟨λn=>?_,λn=>?_⟩
 ·simp[go_sem];refine b ⟨_,rfl,?_⟩;simp[go_sem,bc,thn,a,show 400<t.size\/40<t.depth by omega];exact aL rfl rfl
 simp[go_sem];refine b ⟨_,rfl,?_⟩;simp[go_sem,bc,thn,a,show ¬(400<t.size\/40<t.depth) by omega];exact aL rfl rfl
theorem HI(t:T) (hs:t.size<4000000) (h:H):az C h (.func 192 []) (some [enc t])=some (.int .i64 (bc t),h):=ah (dC _) (by simp[aw]) s_ (Jx t hs)
theorem FA{t:T}(h:bc t=0):t.kind=1\/t.kind=2\/t.kind=3:=by
 by_cases a:t.kind=1\/t.kind=2\/t.kind=3
 ·exact a
 have b:tU t=true:=(vT t).2 (.inl o_);have c:dG t=1:=by rw[qC];simp[iE,b,thn]
 simp[bc,c,thn]at h
def rQ(a b:T):Bool:=decide (bc a=0)&&decide (bc b=0)&&decide (a.kind=1)&&(decide (a.sort=0)||(decide (b.kind≠3)&&decide (b.sort=a.sort)))
theorem WV(a b:T) (hs:a.size<4000000) (hb:b.size<4000000):ay C 219 [enc a,enc b]=some (.bool (rQ a b)):=by
 refine bD func219 rfl λR d=>?_
 have e:=HI a hs;have f:=HI b hb;simp +contextual [go_sem,aQ,wl,K5,e,f];refine Ife_iff.2 ⟨λc=>?_,λc=>?_⟩
 ·simp +contextual [go_sem];refine d ⟨_,rfl,?_⟩;have:rQ a b=false:=by simp only[rQ,jh,decide_eq_false_iff_not];omega
  simp[go_sem,this];exact aL rfl rfl
 simp +contextual [go_sem];refine d ⟨_,rfl,?_⟩;simp[go_sem];have:rQ a b=(decide (a.sort=0) || !decide (b.kind=3)&&decide (b.sort=a.sort)):=by simp only[not_or,Decidable.not_not]at c;simp[rQ,c]
 rw[this];exact aL rfl rfl
theorem zD(t:T) (n:Int):mz [enc t,.int .i64 n]=some [enc t,.int .i64 n]:=by rw[bJ];rfl
theorem mP(n:Int):short (.int .i64 n)=true:=rfl
theorem Ns(t:T) (n:Int):ay C 77 [enc t,.int .i64 n]=some (.bool ((decide (t.kind=1)||decide (t.kind=2))&&decide (t.sort=n))):=by
 refine bD func77 rfl λR a=>?_
 simp +contextual [go_sem,mF,aQ];refine a ⟨_,rfl,?_⟩;simp[go_sem];exact aL rfl rfl
theorem O3(t:T) (n:Int) (h:H):az C h (.func 77 []) (some [enc t,.int .i64 n])=some (.bool ((decide (t.kind=1)||decide (t.kind=2))&&decide (t.sort=n)),h):=ah (zD _ _) (by simp[aw,mP]) s_ (Ns t n)
theorem OF(a b:T) (hs:a.size<4000000) (hb:b.size<4000000):ay C 40 [enc a,enc b]=some (.bool (rQ a b)):=by
 refine bD func40 rfl λR e=>?_
 have f:=kq a hs;have g:=kq b hb;simp +contextual [go_sem,aQ,wl,K5,f,g];refine Ife_iff.2 ⟨λc=>?_,λc=>?_⟩
 ·simp +contextual [go_sem];refine e ⟨_,rfl,?_⟩;have:rQ a b=false:=by simp only[rQ,jh,decide_eq_false_iff_not];omega
  simp[go_sem,this];exact aL rfl rfl
 simp +contextual [go_sem,K5,O3];refine e ⟨_,rfl,?_⟩;simp[go_sem];have d:bc b=0:=o_;have h:=FA d;have:rQ a b=(decide (a.sort=0)||(decide (b.kind=1)||decide (b.kind=2))&&decide (b.sort=a.sort)):=by simp only[not_or,Decidable.not_not]at c;rcases h with k|k|k<;>simp[rQ,c,k]
 rw[this];exact aL rfl rfl
theorem PD(a b:T) (hs:a.size<4000000) (hb:b.size<4000000) (h:H):az C h (.func 40 []) (some [enc a,enc b])=some (.bool (rQ a b),h):=ah (kU _ _) (by simp[aw]) s_ (OF a b hs hb)
mutual
def iV:T->Int->Int
 |.mk _ nm _ l,n=>if n<=0\/40<(nm.size:Int)then -1 else fm l (n-1)
def fm:Lq->Int->Int
 |[],n=>n
 |t::l,n=>if iV t n<0 then -1 else fm l (iV t n)
end
theorem wU(t:T) (n:Int):iV t n=if n<=0\/40<(t.name.size:Int)then -1 else fm t.kids (n-1):=by cases t;rw[iV];rfl
theorem zY{l:Lq}(ih:∀t∈l,∀n:Int,-1<=iV t n/\(0<=iV t n->iV t n+t.size=n)):∀n:Int,-1<=n->-1<=fm l n/\(0<=fm l n->fm l n+sizes l=n):=by
 induction l with
 |nil=>intro n c;rw[fm,sizes];exact⟨c,λ_=>o_⟩
 |cons a l b=>
  intro n c;have d:=ih a s_ n;have e:=b (λt f=>ih t (by simp[f])) (iV a n) d.1;rw[fm,sizes];split
  ·exact⟨o_,λh=>o_⟩
  exact⟨e.1,λh=>by have:=e.2 h;have:=d.2 o_;omega⟩
theorem uL(t:T):∀n:Int,-1<=iV t n/\(0<=iV t n->iV t n+t.size=n):=by
 induction t using T.ind with
 |_ t b=>
  intro n;rw[wU];split
  ·exact⟨o_,λh=>o_⟩
  rename_i h;have a:=zY b (n-1) o_;have:=size_kids t;exact⟨a.1,λh=>by have:=a.2 h;omega⟩
theorem pQ(l:Lq) (n:Int) (hn:-1<=n):-1<=fm l n/\(0<=fm l n->fm l n+sizes l=n):=zY (λt _=>uL t) n hn
def YQ(t:T) (n0:Int) (m:Nat) (s:PT) (h:H):Prop:=∃k:Nat,∃n:Int,m=t.kids.length-k/\k<=t.kids.length/\h=[.cells (tc t) .live]/\s.get 2=.ptr 0 0/\s.get 1=.int .i64 n/\s.get 5=.int .i64 k/\0<=n/\n+k<=n0/\fm (t.kids.drop k) n=iV t n0
def xS(l:Lq) (c n:Int):Bool:=decide ((l.length:Int)<=c)&&decide (0<=fm l n)
def NI9(l:Lq) (n0:Int) (m:Nat) (s:PT) (h:H):Prop:=∃k:Nat,∃n:Int,m=l.length-k/\k<=l.length/\h=[]/\s.get 0=aQ l/\s.get 2=.int .i64 n/\s.get 7=.int .i64 k/\0<=n/\n+k<=n0/\fm (l.drop k) n=fm l n0
theorem Oj(l:Lq) (c n:Int):mz [aQ l,.int .i64 c,.int .i64 n]=some [aQ l,.int .i64 c,.int .i64 n]:=rfl
theorem Co(l:Lq):short (aQ l)=true:=rfl
def bN(b:T × T):AV:=.agg [.int .i64 b.1.kind,.str b.1.name,.int .i64 b.1.sort,aQ b.1.kids,.int .i64 b.2.kind,.str b.2.name,.int .i64 b.2.sort,aQ b.2.kids]
def binds(l:Lb):AV:=.isl (l.map bN) .unk
theorem u46:C.P.underlying 45=some (.slice 84):=underlying45
theorem s86:cS C.P 84=some 8:=k_
theorem s46:cS C.P 45=some 1:=k_
theorem a86:eW C.P 84=some true:=k_
theorem a46:eW C.P 45=some false:=k_
attribute [go_sem] u46 s86 s46 a86 a46
theorem FU(i:Nat):bH C.P 84 (.ptr i 0) 0=some (.ptr i 0):=k_
theorem R0(i:Nat):bH C.P 84 (.ptr i 0) 1=some (.ptr i 4):=k_
theorem pJ(e:AV):bH C.P 84 (.iptr e 0) 0=some (.iptr e 0):=k_
theorem xh(e:AV):bH C.P 84 (.iptr e 0) 1=some (.iptr e 4):=k_
attribute [go_sem] FU R0 pJ xh
theorem Wu:gy C.P 84=some (.agg [.int .i64 0,.str ⟨#[]⟩,.int .i64 0,.isl [] .full,.int .i64 0,.str ⟨#[]⟩,.int .i64 0,.isl [] .full]):=k_
attribute [go_sem] Wu
theorem nT(es:LA) (x:Ext):fW C.P 45 (.isl es x)=some (.int .i64 es.length):=by simp[fW,u46]
theorem pH(l:Lb) (k:Nat) (hk:k<l.length) (x:Ext):bP C.P 45 (.isl (l.map bN) x) (.int .i64 k)=some (.iptr (bN l[k]) 0):=by simp[bP,u46,s86,bN,aa,hk]
theorem E9(b:T × T) (h:H):aX C.P h 84 (.iptr (bN b) 0)=some (bN b):=by simp[aX,ae,a86,s86,bN,aa]
theorem jf(b:T × T) (h:H):aX C.P h 39 (.iptr (bN b) 0)=some (enc b.1):=by simp[aX,ae,a25,s25,bN,aa];rw[bJ]
theorem kL(b:T × T) (h:H):aX C.P h 39 (.iptr (bN b) 4)=some (enc b.2):=by simp[aX,ae,a25,s25,bN,aa];rw[bJ]
theorem MP(b:T × T) (h:H):mX C.P h 84 (bN b)=some (.ptr h.length 0,h++[.cells (bN b).cells .live]):=by simp[mX,bN,aa,s86,bV]
theorem lb0(b:T × T) (h:H):aX C.P (h++[.cells (bN b).cells .live]) 39 (.ptr h.length 0)=some (enc b.1):=by simp[aX,ae,a25,s25,bN,aa];rw[bJ]
theorem lb4(b:T × T) (h:H):aX C.P (h++[.cells (bN b).cells .live]) 39 (.ptr h.length 4)=some (enc b.2):=by simp[aX,ae,a25,s25,bN,aa];rw[bJ]
theorem lbk(b:T × T) (h:H):aX C.P (h++[.cells (bN b).cells .live]) 3 (.ptr h.length 0)=some (.int .i64 b.1.kind):=by simp[aX,ae,a3,s3,bN,aa]
def sT(b:T × T):Int:=thn (bc b.1) (if b.1.kind≠1\/b.1.cmp b.2=0 then 1 else thn (bc b.2) (if rQ b.1 b.2 then 0 else 10))
theorem Rp(b:T × T):aX C.P [.cells (bN b).cells .live] 39 (.ptr 0 0)=some (enc b.1):=lb0 b []
theorem Ro(b:T × T):aX C.P [.cells (bN b).cells .live] 39 (.ptr 0 4)=some (enc b.2):=lb4 b []
theorem Xc(b:T × T):aX C.P [.cells (bN b).cells .live] 3 (.ptr 0 0)=some (.int .i64 b.1.kind):=lbk b []
theorem Lu(b:T × T):mz [bN b]=some [bN b]:=rfl
theorem Ei(b:T × T):short (bN b)=true:=rfl
def small(l:Lb):Prop:=∀b∈l,b.1.size<4000000/\b.2.size<4000000
def later:Option T->T->Bool
 |none,_=>false
 |some q,v=>decide (0<=q.cmp v)
def oy:Option T->Lb->Int
 |_,[]=>0
 |p,b::l=>thn (sT b) (if later p b.1=true then 5 else oy (some b.1) l)
def kJ(l:Lb):Int:=if 200<l.length then 3 else oy none l
def prev(l:Lb) (k:Nat):Option T:=if k=0 then none else(l[k-1]?).map (·.1)
theorem Ah{l:Lb}{k:Nat}(hk:k<l.length):prev l (k+1)=some l[k].1:=by simp[prev,hk]
def YP(l:Lb) (n:Nat) (s:PT) (h:H):Prop:=∃k:Nat,n=l.length-k/\k<=l.length/\h=[]/\s.get 0=binds l/\s.get 3=.int .i64 k/\oy (prev l k) (l.drop k)=oy none l
theorem JD(l:Lb):mz [binds l]=some [binds l]:=rfl
theorem mo(l:Lb):short (binds l)=true:=rfl
theorem b25:gl C.P 39=some 56:=k_
theorem z25:fe C.P 39=true:=k_
@[go_sem] theorem Yz:iG C.P 37=some 39:=k_
theorem uX(l:Lq):iN 4 (l.map enc)=true:=by cases l<;>simp[iN,bB]
theorem dz{h:H}{v:AV}{xs ys:Lq}{x:Ext}(o:OwnR 39 h v (xs.map enc)) (hl:xs.length+ys.length<=100000000000) :
  ∃v' h',cL C.P false h 37 v (.isl (ys.map enc) x)=some (v',h')/\OwnR 39 h' v' ((xs++ys).map enc)/\Keep h h' (bj v)/\(bj v'=bj v\/bj v=none/\bj v'=some h.length):=by
 have:=jS (x:=x) u23 s25 b25 z25 rfl o (uX xs) (uX ys) (by simp only[aU];omega);rwa[<-bY]at this
theorem JC(l:Lq):mz (l.map enc)=some (l.map enc):=by
 induction l with
 |nil=>rfl
 |cons a l b=>simp only[aS,mz,b,qL]
@[go_sem] theorem iD (a:T):bV (enc a)=true:=by rw[bJ];rfl
theorem dm(h:H) (a:T):cQ C.P h 37 1 [(0,enc a)]=some (.isl [enc a] .full,h):=cW u23 s25 z25 rfl o_ rfl (JC [a]) (by simp[aw]) s_ (by simp[tG,bB,iD])
def eK:Lb->T->T
 |[],v=>v
 |b::l,v=>if b.1.cmp v=0 then b.2 else eK l v
theorem qw(l:Lb) (t:T):mz [binds l,enc t]=some [binds l,enc t]:=by rw[bJ];rfl
def zc:LA:=[.int .i64 0,.str ⟨#[]⟩,.int .i64 0,.isl [] .full]
def V8(l:Lb) (v:T) (m:Nat) (s:PT) (h:H):Prop:=∃k:Nat,m=l.length-k/\k<=l.length/\s.get 0=binds l/\s.get 3=.ptr 0 0/\s.get 4=.ptr 1 0/\s.get 5=.int .i64 k/\h=[.cells (tc v) .live,.cells zc .live]/\eK (l.drop k) v=eK l v
theorem KA(t:T) (a b c d:AV) (x:VObj):cr C.P [x,.cells [a,b,c,d] .live] 39 (.ptr 1 0) (enc t)=some [x,.cells (enc t).cells .live]:=by simp[cr,s25,bB];rw[bJ];rfl
theorem Ry(l:Lb) (v:T) (hs:small l) (hv:v.size<4000000) (hl:l.length<4000000):ay C 86 [binds l,enc v]=some (enc (eK l v)):=by
 refine bD func86 rfl λR o=>?_
 simp[go_sem,aQ];refine bR (V8 l v) l.length ⟨0,rfl,aO _,g_,g_,g_,g_,rfl,rfl⟩ ?_;rintro m s h ⟨k,rfl,u,c,j,n,f,rfl,b⟩;simp only[binds]at c;have fin:∀(s:PT) (t:T) (x:VObj),s.get 4=.ptr 1 0->t=eK l v->R .ret s [x,.cells (enc t).cells .live]:=λs t x hs p=>by
  refine o ⟨enc t,?_,?_⟩
  ·simp[ag,cG,f86,hs,aX,ae,a25,s25,bB];rw[bJ]
  rw[<-p];exact aL (qL t) (aw t)
 by_cases a:k<l.length
 ·have d:(k:Int)<l.length:=o_;have e:=pH l k a .unk;have g:=hs _ (aG a);have q:=wS k o_;have r:=lg l[k].1 v g.1 hv;rw[aH a,eK]at b;simp[go_sem,c,j,f,nT,d,e,jf,tc,zc,wl,r,-Int.natCast_add];refine Ife_iff.2 ⟨λi=>?_,λi=>?_⟩
  ·rw[if_pos i]at b;simp[go_sem,c,n,f,e,kL,KA];exact fin _ _ _ g_ b
  rw[if_neg i]at b;simp[go_sem,f,-Int.natCast_add,q];exact⟨l.length-(k+1),o_,k+1,rfl,a,by simp[go_sem,c,binds],g_,g_,g_,rfl,b⟩
 have:k=l.length:=o_;subst this;rw[aj,eK]at b;simp[go_sem,c,j,n,f,nT,tc,zc,wl,KA];exact fin _ _ _ g_ b
theorem PK(l:Lb) (v:T) (hs:small l) (hv:v.size<4000000) (hl:l.length<4000000) (h:H):az C h (.func 86 []) (some [binds l,enc v])=some (enc (eK l v),h):=ah (qw _ _) (by simp[mo,aw]) s_ (Ry l v hs hv hl)
mutual
def cE(l:Lb):T->T
 |.mk k n s m=>if k=1 then eK l (.mk k n s m)else .mk k n s (GZ l m)
def GZ(l:Lb):Lq->Lq
 |[]=>[]
 |t::m=>cE l t::GZ l m
end
theorem Ae(l:Lb):∀m,GZ l m=m.map (cE l)
 |[]=>rfl
 |t::m=>by rw[GZ,Ae l m];rfl
theorem fk(l:Lb) (t:T):cE l t=if t.kind=1 then eK l t else .mk t.kind t.name t.sort (t.kids.map (cE l)):=by cases t;rw[cE,Ae];rfl
def YN(l:Lb) (t:T) (m:Nat) (s:PT) (h:H):Prop:=∃k:Nat,∃v:AV,m=t.kids.length-k/\k<=t.kids.length/\s.get 0=binds l/\s.get 3=.ptr 0 0/\s.get 4=.ptr 1 0/\s.get 5=.ptr 2 0/\s.get 6=.int .i64 k/\h[0]?=some (.cells (tc t) .live)/\h[1]?=some (.cells zc .live)/\h[2]?=some (.cells [.int .i64 t.kind,.str t.name,.int .i64 t.sort,v] .live) /\
 OwnR 39 h v (((t.kids.take k).map (cE l)).map enc)
theorem QA(t:T) (a b c d:AV) (x y:VObj):cr C.P [x,y,.cells [a,b,c,d] .live] 39 (.ptr 2 0) (enc t)=some [x,y,.cells (enc t).cells .live]:=by simp[cr,s25,bB];rw[bJ];rfl
theorem T8(l:Lb) (t:T) (hs:small l) (hv:t.size<4000000) (hl:l.length<4000000) (hc:∀k∈t.kids,ay C 50 [binds l,enc k]=some (enc (cE l k))):ay C 50 [binds l,enc t]=some (enc (cE l t)):=by
 refine bD func50 rfl λR X=>?_
 have fin:∀(s:PT) (q:T) (h:H),s.get 4=.ptr 1 0->h[1]?=some (.cells (enc q).cells .live)->q=cE l t->R .ret s h:=λs q h hs hh ht=>by
  refine X ⟨enc q,?_,?_⟩
  ·simp[ag,cG,f50,hs,aX,hh,ae,a25,s25,bB];rw[bJ]
  rw[<-ht];exact aL (qL q) (aw q)
 have c1:=PK l t hs hv hl;have f:=fk l t;have q':=size_kids t;have Y:=len_sizes t.kids;simp[go_sem,aQ];refine Ife_iff.2 ⟨λr=>?_,λr=>?_⟩
 ·rw[if_pos r]at f;simp[go_sem,wl,c1,KA];exact fin _ _ _ g_ s_ f.symm
 rw[if_neg r]at f;have q1:∀(x y:VObj) (a b c:AV),cr C.P [x,y,.cells [a,b,c,.isl (t.kids.map enc) .unk] .live] 37 (.ptr 2 3) (.isl [] .full)=some [x,y,.cells [a,b,c,.isl [] .full] .live]:=λx y a b c=>by simp[cr,s23]
 simp[go_sem,wl,QA,bB,aQ,q1];refine bR (YN l t) t.kids.length ⟨0,.isl [] .full,rfl,aO _,g_,g_,g_,g_,g_,rfl,rfl,rfl,.inl rfl⟩ ?_;rintro m s h ⟨k,v,rfl,hk,g0,F,Z,g5,G,I,E,w,u⟩;have J:aX C.P h 37 (.ptr 0 3)=some (.isl (t.kids.map enc) .unk):=by simp[aX,I,tc,ae,a23,s23]
 have l2:aX C.P h 37 (.ptr 2 3)=some v:=by obtain⟨x,rfl⟩:=u.isl;simp[aX,w,ae,a23,s23]
 by_cases g:k<t.kids.length
 ·have z:(k:Int)<t.kids.length:=o_;have K:=lE t.kids k g .unk;have w2:=wS k o_;have ck:∀h,az C h (.func 50 []) (some [binds l,enc t.kids[k]])=some (enc (cE l t.kids[k]),h):=λh=>ah (qw _ _) (by simp[mo,aw]) s_ (hc _ (aG g))
  have⟨A,L,ha,M,j,N⟩:=dz (ys:=[cE l t.kids[k]]) (x:=.full) u (by simp only[aU,ac,aF,aP];omega);have O:(t.kids.take k).map (cE l)++[cE l t.kids[k]]=(t.kids.take (k+1)).map (cE l):=by rw[<-dQ g,bY];rfl
  rw[O]at M;simp only[aS,au]at ha;have d:∀i,bj v=some i->i≠0/\i≠1/\i≠2:=λi n=>by
   rcases u with rfl|⟨id,rfl,o⟩
   ·cases n
   simp only[bj,aA]at n;subst n;exact⟨λe=>by(rw[e,I]at o;cases o),λe=>by(rw[e,E]at o;cases o),λe=>by(rw[e,w]at o;cases o)⟩
  have Q:=j.get I (λe=>(d _ e).1 rfl);have S:=j.get E (λe=>(d _ e).2.1 rfl);have B:=j.get w (λe=>(d _ e).2.2 rfl);have U:cr C.P L 37 (.ptr 2 3) A=some (L.set 2 (.cells [.int .i64 t.kind,.str t.name,.int .i64 t.sort,A] .live)):=by obtain⟨x,rfl⟩:=M.isl;simp[cr,B,s23]
  have V:OwnR 39 (L.set 2 (.cells [.int .i64 t.kind,.str t.name,.int .i64 t.sort,A] .live)) A (((t.kids.take (k+1)).map (cE l)).map enc):=M.keep (Keep.set _ _ _) (λi n e=>by
   rcases N with r|⟨r,h2⟩
   ·exact(d i (r▸n)).2.2 (by simpa using e.symm)
   have:=(aB.1 w).1;rw[h2]at n;simp only[aA]at n e;omega)
  have p:=(aB.1 B).1;simp[go_sem,F,G,J,dq,z,-Int.natCast_add];refine gJ 8 _ (by simp[fu]) rfl ?_;simp[go_sem,g0,F,g5,G,J,l2,K,iT,ck,dm,ha,U,-Int.natCast_add,w2];refine⟨?_,t.kids.length-(k+1),o_,k+1,A,rfl,g,g_,g_,g_,g_,g_,?_,?_,?_,V⟩
  ·rcases u with rfl|⟨id,rfl,o⟩
   ·simp[go_sem,ip,iF,iI,kK,er,dB]
   have:=d id rfl;simp[go_sem,ip,iF,iI,kK,er,dB]
   (try omega)
  ·rw[aE o_];exact Q
  ·rw[aE o_];exact S
  rw[aJ p]
 have:k=t.kids.length:=o_;subst this;rw[ao]at u;obtain⟨x,rfl⟩:=u.isl;have e5:aX C.P h 39 (.ptr 2 0)=some (.agg [.int .i64 t.kind,.str t.name,.int .i64 t.sort,.isl ((t.kids.map (cE l)).map enc) x]):=by simp[aX,w,ae,a25,s25]
 have e6:cr C.P h 39 (.ptr 1 0) (.agg [.int .i64 t.kind,.str t.name,.int .i64 t.sort,.isl ((t.kids.map (cE l)).map enc) x])=some (h.set 1 (.cells [.int .i64 t.kind,.str t.name,.int .i64 t.sort,.isl ((t.kids.map (cE l)).map enc) x] .live)):=by simp[cr,E,s25,zc]
 have e7:=(aB.1 E).1;generalize D:AV.agg [.int .i64 t.kind,.str t.name,.int .i64 t.sort,.isl ((t.kids.map (cE l)).map enc) x]=zz at e5 e6;simp[go_sem,F,Z,g5,G,J,dq,e5,e6];refine X ⟨zz,?_,?_⟩
 ·simp[ag,cG,f50,go_sem,Z,aX,aJ e7,ae,a25,s25,<-D]
 rw[f,bJ,<-D];exact aL rfl rfl
theorem H9(l:Lb) (hs:small l) (hl:l.length<4000000) (t:T):t.size<4000000->ay C 50 [binds l,enc t]=some (enc (cE l t)):=by
 induction t using T.ind with
 |_ t b=>exact λc=>T8 l t hs c hl (λk a=>b k a (by have:=kid_size a;omega))
theorem F8(l:Lb) (t:T) (hs:small l) (hv:t.size<4000000) (hl:l.length<4000000) (h:H):az C h (.func 50 []) (some [binds l,enc t])=some (enc (cE l t),h):=ah (qw _ _) (by simp[mo,aw]) s_ (H9 l hs hl t hv)
def gk(l:Lq):LA:=l.flatMap λt=>(enc t).cells
theorem Du(a:T) (l:Lq):gk (a::l)=[.int .i64 a.kind,.str a.name,.int .i64 a.sort,aQ a.kids]++gk l:=by simp[gk,bB]
theorem zJ(l:Lq):(gk l).length=4*l.length:=by
 induction l with
 |nil=>rfl
 |cons a l b=>rw[Du,aK,b];simp;omega
def Row(h:H) (v:AV) (l:Lq):Prop:=(l=[]/\v=.isl [] .full)\/∃id,v=.msl id 0 4 l.length none/\h[id]?=some (.cells (gk l) .live)
end Go.VZ
namespace Go.VZ
open Go Go.V TL
theorem zK{l:Lq}{j c:Nat}(hj:j<l.length) (hc:c<4):(gk l)[4*j+c]?=(enc l[j]).cells[c]?:=by
 induction l generalizing j with
 |nil=>simp at hj
 |cons a l b=>
  have e:gk (a::l)=(enc a).cells++gk l:=rfl;have d:(enc a).cells.length=4:=by rw[bB];rfl
  rw[e];cases j with
  |zero=>rw[aM o_];simp
  |succ j=>rw[aY o_,show 4*(j+1)+c-(enc a).cells.length=4*j+c by omega,b (by simpa using hj)];simp
end Go.VZ
namespace Go.Proofs
open Go.Shelf
def Tryz.laysSort_ren:Go.Shelf.Ren:=⟨fun|6=>250|15=>84|14=>301|28=>128|29=>129|20=>325|21=>326|22=>327|23=>328|24=>329|25=>330|26=>331|27=>332|46=>363|47=>182|48=>183|49=>364|50=>365|57=>396|n=>n,fun|22=>37|24=>39|25=>138|3=>3|39=>121|0=>0|53=>155|55=>157|4=>4|46=>148|45=>147|50=>152|5=>5|9=>9|66=>191|70=>195|76=>237|77=>238|n=>n,fun|n=>n⟩
theorem Tryz.laysSort:Go.Proofs.SlLaysF0.n6 Tryz.prog Tryz.laysSort_ren:={
 mixed:=k_
 f6:=⟨Tryz.f250.name,d_,Tryz.func250.trans (congrArg some k_)⟩
 f14:=⟨Tryz.f301.name,d_,Tryz.func301.trans (congrArg some k_)⟩
 f15:=Tryz.func84.trans (congrArg some k_)
 f20:=⟨Tryz.f325.name,d_,Tryz.func325.trans (congrArg some k_)⟩
 f21:=⟨Tryz.f326.name,d_,Tryz.func326.trans (congrArg some k_)⟩
 f22:=⟨Tryz.f327.name,d_,Tryz.func327.trans (congrArg some k_)⟩
 f23:=⟨Tryz.f328.name,d_,Tryz.func328.trans (congrArg some k_)⟩
 f24:=⟨Tryz.f329.name,d_,Tryz.func329.trans (congrArg some k_)⟩
 f25:=⟨Tryz.f330.name,d_,Tryz.func330.trans (congrArg some k_)⟩
 f26:=⟨Tryz.f331.name,d_,Tryz.func331.trans (congrArg some k_)⟩
 f27:=⟨Tryz.f332.name,d_,Tryz.func332.trans (congrArg some k_)⟩
 f28:=Tryz.func128.trans (congrArg some k_)
 f29:=Tryz.func129.trans (congrArg some k_)
 f46:=⟨Tryz.f363.name,d_,Tryz.func363.trans (congrArg some k_)⟩
 f47:=Tryz.func182.trans (congrArg some k_)
 f48:=Tryz.func183.trans (congrArg some k_)
 f49:=⟨Tryz.f364.name,d_,Tryz.func364.trans (congrArg some k_)⟩
 f50:=⟨Tryz.f365.name,d_,Tryz.func365.trans (congrArg some k_)⟩
 f57:=⟨Tryz.f396.name,d_,Tryz.func396.trans (congrArg some k_)⟩
 t0:=Tryz.underlying0
 a0:=Tryz.isAgg0
 z0:=Tryz.sizeOf0
 v0:=Tryz.zeroValue0
 t3:=Tryz.underlying3
 a3:=Tryz.isAgg3
 z3:=Tryz.sizeOf3
 v3:=Tryz.zeroValue3
 t4:=Tryz.underlying4
 a4:=Tryz.isAgg4
 z4:=Tryz.sizeOf4
 v4:=Tryz.zeroValue4
 t5:=Tryz.underlying5
 a5:=Tryz.isAgg5
 z5:=Tryz.sizeOf5
 v5:=Tryz.zeroValue5
 t9:=Tryz.underlying9
 a9:=Tryz.isAgg9
 z9:=Tryz.sizeOf9
 v9:=Tryz.zeroValue9
 t22:=Tryz.underlying37
 a22:=Tryz.isAgg37
 z22:=Tryz.sizeOf37
 v22:=Tryz.zeroValue37
 t25:=Tryz.underlying138
 a25:=Tryz.isAgg138
 z25:=Tryz.sizeOf138
 v25:=Tryz.zeroValue138
 t39:=Tryz.underlying121
 a39:=Tryz.isAgg121
 z39:=Tryz.sizeOf121
 v39:=Tryz.zeroValue121
 t45:=Tryz.underlying147
 a45:=Tryz.isAgg147
 z45:=Tryz.sizeOf147
 v45:=Tryz.zeroValue147
 t46:=Tryz.underlying148
 a46:=Tryz.isAgg148
 z46:=Tryz.sizeOf148
 v46:=Tryz.zeroValue148
 t50:=Tryz.underlying152
 a50:=Tryz.isAgg152
 z50:=Tryz.sizeOf152
 v50:=Tryz.zeroValue152
 t53:=Tryz.underlying155
 a53:=Tryz.isAgg155
 z53:=Tryz.sizeOf155
 v53:=Tryz.zeroValue155
 t55:=Tryz.underlying157
 a55:=Tryz.isAgg157
 z55:=Tryz.sizeOf157
 v55:=Tryz.zeroValue157
 t66:=Tryz.underlying191
 a66:=Tryz.isAgg191
 z66:=Tryz.sizeOf191
 v66:=Tryz.zeroValue191
 t70:=Tryz.underlying195
 a70:=Tryz.isAgg195
 z70:=Tryz.sizeOf195
 v70:=Tryz.zeroValue195
 t76:=Tryz.underlying237
 a76:=Tryz.isAgg237
 z76:=Tryz.sizeOf237
 v76:=Tryz.zeroValue237
 t77:=Tryz.underlying238
 a77:=Tryz.isAgg238
 z77:=Tryz.sizeOf238
 v77:=Tryz.zeroValue238}
end Go.Proofs
namespace Go.VZ
open Go Go.V Go.Proofs Go.RowKit Go.Sort TL
variable {B:Nat}{A0:Nat->Nat->Prop}{σ:List (Option Nat)}{h:H}{w:World}
structure El (A:Nat->Nat->Prop) (w:World) where
 t:T
 vs:List Value
 len:vs.length=4
 small:t.size<4000000
 rel:IRel A w (enc t) (.agg vs.toArray)
theorem Ln{A:Nat->Nat->Prop}{w:World}(x:El A w){c:Nat}{a:AV}{v:Value}(ha:(enc x.t).cells[c]?=some a) (hv:x.vs[c]?=some v):IRel A w a v:=by
 have r:=x.rel;rw[bJ]at r;cases r with
 |agg d e b=>rw[bB]at ha;exact b c a v ha (by simpa using hv)
theorem SI{A:Nat->Nat->Prop}{w:World}(x:El A w):∀v∈x.vs,v.oneCell'=true:=by
 intro v d;have⟨c,b⟩:=dR.1 d;have e:=(aB.1 b).1;have g:=x.len;have h:(enc x.t).cells.length=4:=by rw[bB];rfl
 have f:(enc x.t).cells[c]?=some (enc x.t).cells[c]:=aC o_;refine qJ (Ln x f b) ?_;have:=aG (l:=(enc x.t).cells) (n:=c) o_;generalize (enc x.t).cells[c]=a at this;rw[bB]at this;simp only[ak,dV,or_false]at this;rcases this with rfl|rfl|rfl|rfl<;>rfl
instance {A:Nat->Nat->Prop}{w:World}:Inhabited (El A w):=⟨⟨.mk 0 ⟨#[]⟩ 0 [],[.int .i64 0,.string ⟨#[]⟩,.int .i64 0,.slice none 0 0],rfl,d_,by
 rw[bJ];refine .agg (by intro c hc;simp at hc;rcases hc with rfl|rfl|rfl|rfl<;>rfl) rfl λi a v ha hv=>?_
 match i,ha,hv with
 |0,ha,hv=>simp at ha hv;subst ha;subst hv;exact .int _ _
 |1,ha,hv=>simp at ha hv;subst ha;subst hv;exact .str _
 |2,ha,hv=>simp at ha hv;subst ha;subst hv;exact .int _ _
 |3,ha,hv=>simp at ha hv;subst ha;subst hv;exact .islNil
 |i+4,ha,hv=>simp at ha⟩⟩
theorem els{A:Nat->Nat->Prop}{w:World}{vs:Array Value}:∀(l:Lq) (off:Nat),(∀t∈l,t.size<4000000)->(∀(k:Nat) c v,(gk l)[k]?=some c->vs[off+k]?=some v->IRel A w c v)->off+4*l.length<=vs.size ->
  ∃es:List (El A w),es.map El.t=l/\∀(j c:Nat) (hj:j<es.length),c<4->vs[off+(4*j+c)]?=(es[j]).vs[c]?
 |[],off,_,_,_=>⟨[],rfl,λj c hj=>by simp at hj⟩
 |a::l,off,hs,hr,hl=>by
  simp only[aF]at hl;obtain⟨es,h1,h2⟩:=els l (off+4) (λt ht=>hs t (by simp[ht])) (λk c v hc hv=>hr (4+k) c v (by
   have e:gk (a::l)=(enc a).cells++gk l:=rfl;have e4:(enc a).cells.length=4:=by rw[bB];rfl
   rw[e,aY o_,show 4+k-(enc a).cells.length=k by omega];exact hc) (by rw[<-fG];exact hv)) o_
  have g:∀c,c<4->∃v,vs[off+c]?=some v:=λc hc=>⟨vs[off+c]'(by omega),aR (by omega)⟩
  have⟨v0,g0⟩:=g 0 o_;have⟨v1,g1⟩:=g 1 o_;have⟨v2,g2⟩:=g 2 o_;have⟨v3,g3⟩:=g 3 o_;have r:∀(c:Nat) x v,(enc a).cells[c]?=some x->c<4->vs[off+c]?=some v->IRel A w x v:=λc x v hx hc hv=>hr c x v (by
   have:=zK (l:=a::l) (j:=0) (c:=c) s_ hc;rw[oD,bn]at this;rw[this];exact hx) hv
  refine⟨⟨a,[v0,v1,v2,v3],rfl,hs a s_,?_⟩::es,by simp[h1],?_⟩
  ·rw[bJ];rw[bB]at r;refine .agg (by intro c hc;simp at hc;rcases hc with rfl|rfl|rfl|rfl<;>rfl) rfl λi x v hx hv=>?_
   match i,hx,hv with
   |0,hx,hv=>simp at hv;subst hv;exact r 0 x _ hx o_ g0
   |1,hx,hv=>simp at hv;subst hv;exact r 1 x _ hx o_ g1
   |2,hx,hv=>simp at hv;subst hv;exact r 2 x _ hx o_ g2
   |3,hx,hv=>simp at hv;subst hv;exact r 3 x _ hx o_ g3
   |i+4,hx,hv=>simp at hx
  intro j c hj hc;cases j with
  |zero=>
   match c,hc with
   |0,_=>exact g0
   |1,_=>exact g1
   |2,_=>exact g2
   |3,_=>exact g3
  |succ j=>have:=h2 j c (by simpa using hj) hc;rw[show off+(4*(j+1)+c)=off+4+(4*j+c) by omega,this];rfl
end Go.VZ
namespace Go.VZ
open Go Go.V Go.Proofs Tryz Go.RowKit Go.Sort TL
variable {B:Nat}{A0:Nat->Nat->Prop}{σ:List (Option Nat)}{h:H}{w:World}
theorem Bt{A:Nat->Nat->Prop}{x:Ext}{v:Value}(r:Rel prog A σ h w (.isl [] x) v):∃p cap,v=.slice p 0 cap:=by
 have b:∀u,IRel A w (.isl [] .unk) u->∃p cap,u=.slice p 0 cap:=λu r=>by
  cases r with
  |islNil=>exact⟨_,_,rfl⟩
  |islEmpty a cap g=>exact⟨_,_,rfl⟩
  |isl f=>exact⟨_,_,rfl⟩
 cases r with
 |data d=>
  cases d with
  |islNil=>exact⟨_,_,rfl⟩
  |islEmpty a cap g=>exact⟨_,_,rfl⟩
  |isl f=>exact⟨_,_,rfl⟩
 |full d=>have⟨p,c,e⟩:=b _ d;cases e;exact⟨_,_,rfl⟩
 |tok d _=>exact b _ d
theorem qK{A:Nat->Nat->Prop}{f:FuncId}{v:Value}(r:Rel prog A σ h w (.func f []) v):v=.func (.func f) #[] #[]:=by
 cases r with
 |data b=>cases b with
  |func a _=>simp only[aP,Array.size_eq_zero_iff]at a;rw[a]
 |func a _=>simp only[aP,Array.size_eq_zero_iff]at a;rw[a]
theorem Fv{A:Nat->Nat->Prop}{l:Lq}{k:Nat}{c:AV}{v:Value}(hc:(gk l)[k]?=some c) (r:Rel prog A σ h w c v):IRel A w c v:=by have a:=aW hc;simp only[gk,bh]at a;have⟨t,_,a⟩:=a;rw[bB]at a;simp only[ak,dV,or_false]at a;rcases a with rfl|rfl|rfl|rfl<;>(cases r with|data hd=>exact hd)
theorem W3{A:Nat->Nat->Prop}{w:World}:SWO (ltOf λx y:El A w=>x.t.cmp y.t) where
 irrefl x:=by simp[ltOf,cmp_refl]
 trans x y z h1 h2:=by simp only[ltOf,decide_eq_true_eq]at *;exact cmp_trans h1 h2
 ntrans x y z h1 h2:=by simp only[ltOf,decide_eq_false_iff_not]at *;exact le_trans (x:=z.t) (y:=y.t) (z:=x.t) h2 h1
theorem qm{b:Nat}{vs:Array Value}{ty:TypeId}{fr:Nat × Nat}(f:Array Value->Array Value) (hb:w.heap[b]?=some (.cells vs ty fr)):mapBlock w b f=w.setRow b (f vs):=by
 unfold mapBlock World.setRow;congr 1
 apply oh;intro k;simp only[mJ];by_cases a:b=k
 ·subst a;simp only[if_true,hb,bf,onCells]
 simp[a]
theorem mN{E:Type} [Inhabited E] {ev:E->List Value}{k:Nat}{b m:Nat}{dk:Array E}{os:Array Obj}{g:Nat}{o:Obj}(hg:w.heap[g]?=some o) (hne:g≠b):(sortWorldK ev k w b 0 m dk os).heap[g]?=some o:=by have a:=(aN.1 hg).1;unfold sortWorldK;simp only[Go.Sort.grow];rw[bw (by unfold putRowK putRow mapBlock;simpa using a)];unfold putRowK putRow mapBlock;simp[mJ,Ne.symm hne,hg]
theorem Ec [DFlag] (hr:HRel prog B A0 σ h w){i0 b c:Nat}{l:Lq}(hs:∀t∈l,t.size<4000000) (hid:h[i0]?=some (.cells (gk l) .live)) (hb:σ[i0]?=some (some b)) (hl:l.length<4611686018427387904) :
  Calls prog 250 #[.slice (some ⟨b,0,none⟩) l.length c,.func (.func 144) #[] #[]] w (λe w'=>∃v,e=.returned v/\Go.V.eI prog B A0 σ h w (.tuple []) (h.set i0 (.cells (gk (srt l)) .live)) v w'):=by
 have⟨b',vs,ty,z,hB,d,q9,q7,hrel⟩:=hr.cells i0 _ .live hid s_;rw[hb]at z;simp only[aA]at z;subst z;have q8:=zJ l;have⟨u,O,Q⟩:=els (A:=Alw prog B A0 σ h) (w:=w) (vs:=vs) l 0 hs (λk x v s F=>by rw[bn]at F;exact Fv s (hrel k x v s F)) o_
 have G:u.length=l.length:=by rw[<-O];simp
 have q':b<w.heap.size:=(aN.1 d).1;have q0:∀k o,Alw prog B A0 σ h k o->k≠b:=λk o D e=>by subst e;unfold Alw at D;rw[if_neg o_]at D;exact D.1 i0 _ hid hb
 have up:∀(m:Nat) (E:Array Obj) (S:Array (El (Alw prog B A0 σ h) w)) (k o:Nat) x,Alw prog B A0 σ h k o->w.cell? ⟨k,o,none⟩=some x->(sortWorldK El.vs 4 w b 0 m S E).cell? ⟨k,o,none⟩=some x:=λm E S k o x D Z=>by have hk:=World.block_lt_of_cell? w _ Z;unfold sortWorldK;rw[cell?_grow _ _ _ (by unfold putRowK putRow mapBlock;simpa using hk),cell?_putRowK_other (h:=q0 k o D)];exact Z
 have U:CmpLays prog 144 #[] El.vs 4 (λx y:El (Alw prog B A0 σ h) w=>x.t.cmp y.t) b 0 u.toArray.size w:=by
  intro m E S _ x y;have go:∀ {a:AV}{v:Value},IRel (Alw prog B A0 σ h) w a v->IRel (λ_ _=>True) (sortWorldK El.vs 4 w b 0 m S E) a v:=λr=>r.mono λk o x D Z=>⟨trivial,up m E S k o x D Z⟩
  exact Go.VP.JI x.t y.t x.small y.small ⟨λg a N=>go (hr.gr.1 g a N),λg n N=>by have⟨z',f,q1,q2,z,e2⟩:=hr.tab g n N;exact⟨f,q1,q2,mN z o_,e2⟩⟩ (go x.rel) (go y.rel)
 have hH:HoldsK El.vs 4 w b 0 u.toArray:=by
  intro j I;have z0:j<4*l.length:=by simp[size_flatK]at I;omega
  have hd:j/4<u.length:=o_;have N:=Q (j/4) (j%4) hd (gM _ o_);rw[show 0+(4*(j/4)+j%4)=j by omega]at N;have h4:=(u[j/4]).len;have q:j%4<4:=gM _ o_;refine⟨?_,by simp[World.frozen?,d]⟩;rw[get_flatK _ _ _ _ (by simpa[size_flatK]using I)];simp only[World.cell?,d,bn,ku,am,if_false,N,id];rw[getElem!_pos u.toArray (j/4) (by simpa using hd)];simp only[nH];rw[getElem!_pos _ _ o_,aC o_]
 have q3:u.toArray.size<4611686018427387904:=by simp;omega
 have J:=AnyQ.slices_SortFunc (P:=prog) laysSort 4 isAgg39 sizeOf39 (El.vs (A:=Alw prog B A0 σ h) (w:=w)) El.len SI (λx y=>x.t.cmp y.t) W3 144 #[] b 0 c u.toArray w (enters_of func144 k_ rfl) U hH q' q3;change Calls prog 250 _ _ _ at J;rw[show u.toArray.size=l.length by simp[G]]at J;refine J.mono ?_;rintro e w' ⟨rfl,p,n,E,hp,q4,rfl⟩;have K:p.size=l.length:=by have:=hp.1;simpa[G]using this
 have hT:p.toList.map El.t=srt l:=by
  have p1:(p.toList.map El.t).Perm l:=by have:=hp.2.2;rw[show l.length=p.size from K.symm,gp,K,show l.length=u.toArray.size by simp[G],gp]at this;rw[<-O];exact this.map _
  refine perm_sorted_eq (p1.trans (srt_perm l).symm) ?_ (srt_sorted l);rw[eR,fc];intro i j hi I q5;have:=q4 i j (aO _) q5 (by simpa[K]using I);simp only[ltOf,decide_eq_false_iff_not]at this;rw[getElem!_pos p i (by simpa using hi),getElem!_pos p j (by simpa using I)]at this;simpa[le]using this
 obtain⟨f,evs⟩:∃f,f=putCells id 0 (flatK El.vs 4 p) vs:=⟨_,rfl⟩
 have X:putRowK El.vs 4 w b 0 p=w.setRow b f:=by unfold putRowK putRow;rw[qm _ d,evs]
 have hw:sortWorldK El.vs 4 w b 0 n p E=Go.Sort.grow ((w.setRow b f).drewN n) E:=by rw[<-X];rfl
 have Y:f.size=vs.size:=by rw[evs];simp[putCells]
 have q6:(gk (srt l)).length=4*l.length:=by rw[zJ,srt_len]
 have L:∀(k:Nat) x v,(gk (srt l))[k]?=some x->f[k]?=some v->Rel prog (Alw prog B A0 σ h) σ h w x v:=by
  intro k x v s F;have hk:k<4*l.length:=by rw[<-q6];exact(aB.1 s).1
  have hd:k/4<p.size:=o_;have q:k%4<4:=gM _ o_;have I:k/4<(srt l).length:=by rw[srt_len];omega
  have z:=zK I q;rw[show 4*(k/4)+k%4=k by omega,s]at z;have et:(srt l)[k/4]=(p[k/4]).t:=by simp[<-hT]
  rw[et]at z;have ev:v=(p[k/4]).vs[k%4]'(by rw[(p[k/4]).len];exact q):=by rw[evs]at F;simp only[putCells,mK,aO,true_and,bn,size_flatK,Nat.sub_zero,id]at F;rw[aR o_,bf,if_pos o_,get_flatK _ _ _ _ o_,getElem!_pos p _ hd,getElem!_pos _ _ (by rw[(p[k/4]).len];exact q)]at F;simpa using F.symm
  exact .data (Ln (p[k/4]) z.symm (by rw[ev];exact aC _))
 have M:∀x∈gk (srt l),x.one=true:=by intro x s;simp only[gk,bh]at s;have⟨t,_,s⟩:=s;rw[bB]at s;simp only[ak,dV,or_false]at s;rcases s with rfl|rfl|rfl|rfl<;>rfl
 have k1:=HRel.write hr hid hb d Y (cs':=gk (srt l)) o_ M L;have k2:=Step.write (cs':=gk (srt l)) hr hid hb d Y;have g:Grows (w.setRow b f) (sortWorldK El.vs 4 w b 0 n p E):=by rw[hw];refine⟨rfl,rfl,rfl,by simp[Go.Sort.grow,World.drewN],λk hk=>?_,λ_=>by simp[Go.Sort.grow,World.drewN]⟩;simp only[Go.Sort.grow,World.drewN];exact bw hk
 exact⟨_,rfl,σ,k1.grows g,k2.trans (.grows k1 g),.data (.tuple rfl (λi a v D=>by simp at D))⟩
theorem Cw [DFlag]:rI prog 250 yO:=by
 intro g h r E c B F σ w j k o b;unfold yO at c;split at c<;>try(cases c;done)
 ·rename_i x;simp only[aA,aD]at c;obtain⟨rfl,rfl⟩:=c;have⟨l⟩:=j;match l,o,b with
  |[u,v],_,b=>obtain⟨p,d,rfl⟩:=Bt (b 0 _ u rfl rfl);have f:=qK (b 1 _ v rfl rfl);subst f;refine(show Calls prog 250 #[.slice p 0 d,.func (.func 144) #[] #[]] w _ from AnyF.slices_SortFunc_none (P:=prog) {laysSort with} p d _ w).mono ?_;rintro e G ⟨rfl,rfl⟩;exact⟨_,rfl,σ,k,.refl _ _ _,.data (.tuple rfl (λi a v b=>by simp at b))⟩
 rename_i I n;split at c<;>try(cases c;done)
 rename_i e;simp only[aA,aD]at c;obtain⟨rfl,rfl⟩:=c;have⟨q,y,s,c3⟩:=e.choose_spec;generalize e.choose=m at q s c3 y ⊢;subst q;have⟨l⟩:=j;match l,o,b with
 |[u,v],_,b=>
  have f:=qK (b 1 _ v rfl rfl);subst f;have z:=b 0 _ u rfl rfl;cases z with
  |data A=>cases A
  |msl D J K L M t N=>exact Ec k s c3 D o_
end Go.VZ
namespace Go.VZ
open Go Go.V Go.Proofs Tryz TL
theorem Row.form{h:H}{v:AV}{l:Lq}(r:Row h v l):v=.isl [] .full\/∃id n,v=.msl id 0 4 n none:=by
 rcases r with⟨_,rfl⟩|⟨id,rfl,_⟩
 ·exact .inl rfl
 exact .inr ⟨_,_,rfl⟩
theorem Row.len{h:H}{v:AV}{l:Lq}(r:Row h v l):fW C.P 37 v=some (.int .i64 l.length):=by rcases r with⟨rfl,rfl⟩|⟨id,rfl,_⟩<;>simp[fW,u23]
theorem Row.keep{h h':H}{v:AV}{l:Lq}(r:Row h v l) (k:Keep h h' none):Row h' v l:=by
 rcases r with e|⟨id,rfl,a⟩
 ·exact .inl e
 exact .inr ⟨id,rfl,k.get a s_⟩
theorem RT(t:T) (h:H):aX C.P (h++[.cells (enc t).cells .live]) 39 (.ptr h.length 0)=some (enc t):=by rw[bB];exact DH t h
end Go.VZ
