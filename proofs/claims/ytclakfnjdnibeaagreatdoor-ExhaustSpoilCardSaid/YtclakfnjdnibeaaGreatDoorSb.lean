/- A part of the proof. -/
import Derived.Test.YtclakfnjdnibeaaGreatDoorSa
import Derived.Sort.Grow
import Derived.Deep.Draws
import Derived.Test.YtclakfnjdnibeaaGreatDoorV34
set_option maxHeartbeats 4000000
set_option maxRecDepth 8000
namespace Go.VP
open Go Go.V Go.Proofs Tryz TL
open Go.VZ (enc Ag lN aM bE au aV ext qT)
noncomputable def C:Cfg:={P:=prog,mode:=λ_=>.strip,wr:=λ_ _=>false,prim:=λ_ _ _=>none,ext:=ext,extOk:=qT,mix:=λ_ _=>false}
@[go_sem] theorem wrC (f:FuncId) (t:Tmp):C.wr f t=false:=(rfl)
@[go_sem] theorem gM (f:FuncId) (i:Nat):C.mix f i=false:=(rfl)
theorem u23:C.P.underlying 37=some (.slice 39):=underlying37
theorem s3:cr C.P 3=some 1:=k_
theorem s9:cr C.P 9=some 1:=k_
theorem s23:cr C.P 37=some 1:=k_
theorem s25:cr C.P 39=some 4:=k_
theorem a3:fJ C.P 3=some false:=k_
theorem a9:fJ C.P 9=some false:=k_
theorem a23:fJ C.P 37=some false:=k_
theorem a25:fJ C.P 39=some true:=k_
attribute [go_sem] u23 s3 s9 s23 s25 a3 a9 a23 a25
theorem dX(es:LA) (x:Ext):fB C.P 37 (.isl es x)=some (.int .i64 es.length):=by simp[fB,u23]
theorem kM(l:Lq) (k:Nat) (hk:k<l.length) (x:Ext):bH C.P 37 (.isl (l.map enc) x) (.int .i64 k)=some (.iptr (enc l[k]) 0):=by simp[bH,u23,s25,au,hk]
theorem gd(t:T) (h:H):aW C.P h 39 (.iptr (enc t) 0)=some (enc t):=by simp[aW,aZ,a25,s25,au];rw[bE]
theorem HX(i:Nat):bF C.P 39 (.ptr i 0) 0=some (.ptr i 0):=k_
theorem HW(i:Nat):bF C.P 39 (.ptr i 0) 1=some (.ptr i 1):=k_
theorem HV(i:Nat):bF C.P 39 (.ptr i 0) 2=some (.ptr i 2):=k_
theorem HU(i:Nat):bF C.P 39 (.ptr i 0) 3=some (.ptr i 3):=k_
attribute [go_sem] HX HW HV HU
theorem tl{f:FuncId}{args args':LA}{v:AV}{h:H}(hb:eE C.P f=true) (hm:C.mode f=.strip) (hd:jd args=some args') (hs:args.all short=true) (hl:args.length<90000)
  (hc:az C f args'=some v):ak C h (.func f []) (some args)=some (v,h):=by
 simp only[ak,hb,if_true,bm];rw[oI hm hd hs hl,hc]
theorem aX{f:FuncId}{args args':LA}{v:AV}{h:H}(hd:jd args=some args') (hs:args.all short=true) (hl:args.length<90000)
  (hc:az C f args'=some v) (hb:eE C.P f=true:=by(kernel_rfl)) (hm:C.mode f=.strip:=by rfl):ak C h (.func f []) (some args)=some (v,h):=tl hb hm hd hs hl hc
theorem cg(t:T):jd [enc t]=some [enc t]:=by rw[bE];rfl
theorem aq(t:T):short (enc t)=true:=by rw[bE];rfl
theorem kf(t:T) (h:H):nR C.P h 39 (enc t)=some (.ptr h.length 0,h++[.cells [.int .i64 t.kind,.str t.name,.int .i64 t.sort,aM t.kids] .live]):=by simp[nR,s25,au];rw[bE];rfl
attribute [go_sem] kf
def Pg(t:T) (n:Nat) (s:PT) (h:H):Prop:=∃k:Nat,n=t.kids.length-k/\k<=t.kids.length/\h=[.cells [.int .i64 t.kind,.str t.name,.int .i64 t.sort,aM t.kids] .live]/\s.get 1=.ptr 0 0/\s.get 3=.int .i64 (sizes (t.kids.take k)+1:Nat)/\s.get 4=.int .i64 k
theorem Ng(t:T):aW C.P [.cells [.int .i64 t.kind,.str t.name,.int .i64 t.sort,aM t.kids] .live] 37 (.ptr 0 3)=some (aM t.kids):=by simp[aW,aZ,a23,s23]
theorem Co(t:T) (hc:∀k∈t.kids,az C 115 [enc k]=some (.int .i64 k.size)) (hs:t.size<4000000):az C 115 [enc t]=some (.int .i64 t.size):=by
 refine ay func115 rfl λR l=>?_
 have c:t.size=sizes t.kids+1:=by cases t;rfl
 simp[go_sem];refine bL (Pg t) t.kids.length ⟨0,by simp[go_sem,sizes]⟩ ?_;rintro n s h ⟨k,rfl,p,rfl,e,f,j⟩;have a:=Ng t;by_cases b:k<t.kids.length
 ·have d:(k:Int)<t.kids.length:=o_;have g:=kM t.kids k b .unk;have i:∀h,ak C h (.func 115 []) (some [enc t.kids[k]])=some (.int .i64 t.kids[k].size,h):=λh=>aX (cg _) (by simp[aq]) s_ (hc _ (aF b))
  have q:=take_sizes b;have r:=take_sizes_le t.kids (k+1);have u:=len_sizes t.kids;have m:IntKind.i64.wrap ((sizes (t.kids.take k)+1:Nat)+(t.kids[k].size:Int))=(sizes (t.kids.take (k+1))+1:Nat):=by rw[av o_];omega
  have o:=wS k o_;generalize v:sizes (t.kids.take k)+1=z at *;simp only[aM]at a;simp[go_sem,e,f,j,a,aM,dX,d,g,gd,i,-Int.natCast_add,m,o];refine⟨t.kids.length-(k+1),o_,k+1,rfl,b,?_⟩;simp[go_sem,e,aM]
 have:k=t.kids.length:=o_;subst this;rw[ah,<-c]at f;generalize t.size=z at *;simp only[aM]at a;simp[go_sem,e,f,j,a,aM,dX];refine l ⟨_,rfl,?_⟩;simp[go_sem,c];exact aK rfl rfl
theorem su(t:T):t.size<4000000->az C 115 [enc t]=some (.int .i64 t.size):=by
 induction t using T.ind with
 |_ t b=>exact λc=>Co t (λk a=>b k a (by have:=kid_size a;omega)) c
def Pf(t:T) (n:Nat) (s:PT) (_h:H):Prop:=∃k:Nat,n=t.kids.length-k/\k<=t.kids.length/\s.get 7=aM t.kids/\s.get 8=.int .i64 t.kids.length/\s.get 3=.int .i64 (sizes (t.kids.take k)+1:Nat)/\s.get 9=.int .i64 k
theorem Jd:iH C.P 39=some (.agg [.int .i64 0,.str ⟨#[]⟩,.int .i64 0,.isl [] .full]):=k_
attribute [go_sem] Jd
theorem Jt(t:T) (a b c d:AV) (h:H):cL C.P (h++[.cells [a,b,c,d] .live]) 39 (.ptr h.length 0) (enc t)=some (h++[.cells [.int .i64 t.kind,.str t.name,.int .i64 t.sort,aM t.kids] .live]):=by simp[cL,s25];rw[bE];rfl
theorem CD(t:T) (h:H):aW C.P (h++[.cells [.int .i64 t.kind,.str t.name,.int .i64 t.sort,aM t.kids] .live]) 39 (.ptr h.length 0)=some (enc t):=by simp[aW,aZ,a25,s25];rw[bE]
theorem Cn(t:T) (hc:∀k∈t.kids,az C 141 [enc k]=some (.int .i64 k.size)) (hs:t.size<4000000):az C 141 [enc t]=some (.int .i64 t.size):=by
 refine ay func141 rfl λR m=>?_
 have d:t.size=sizes t.kids+1:=size_kids t;have b:=Ng t;simp only[aM]at b;simp[go_sem,b,aM,dX];refine bL (Pf t) t.kids.length ⟨0,by simp[go_sem,sizes,aM]⟩ ?_;rintro n s h ⟨k,rfl,q,e,f,g,l⟩;by_cases a:k<t.kids.length
 ·have c:(k:Int)<t.kids.length:=o_;have i:=kM t.kids k a .unk;have j:∀h,ak C h (.func 141 []) (some [enc t.kids[k]])=some (.int .i64 t.kids[k].size,h):=λh=>aX (cg _) (by simp[aq]) s_ (hc _ (aF a))
  have r:=take_sizes a;have u:=take_sizes_le t.kids (k+1);have v:=len_sizes t.kids;have o:IntKind.i64.wrap ((sizes (t.kids.take k)+1:Nat)+(t.kids[k].size:Int))=(sizes (t.kids.take (k+1))+1:Nat):=by rw[av o_];omega
  have p:=wS k o_;generalize w:sizes (t.kids.take k)+1=z at *;simp only[aM]at e;simp[go_sem,e,f,g,l,c,i,gd,Jt,CD,j,-Int.natCast_add,o,p];refine⟨t.kids.length-(k+1),o_,k+1,rfl,a,?_⟩;simp[go_sem,e,f,aM]
 have:k=t.kids.length:=o_;subst this;rw[ah,<-d]at g;generalize t.size=z at *;simp[go_sem,f,g,l];refine m ⟨_,rfl,?_⟩;simp[go_sem];exact aK rfl rfl
theorem po(t:T):t.size<4000000->az C 141 [enc t]=some (.int .i64 t.size):=by
 induction t using T.ind with
 |_ t b=>exact λc=>Cn t (λk a=>b k a (by have:=kid_size a;omega)) c
theorem xJ(a b:Int):az C 197 [.int .i64 a,.int .i64 b]=some (.int .i64 (sgn a b)):=by
 refine ay func197 rfl λR e=>?_
 by_cases c:a<b
 ·simp[go_sem,c];refine e ⟨_,rfl,?_⟩;simp[go_sem,sgn,c];exact aK rfl rfl
 by_cases d:b<a
 ·simp[go_sem,c,d];refine e ⟨_,rfl,?_⟩;simp[go_sem,sgn,c,d];exact aK rfl rfl
 simp[go_sem,c,d];refine e ⟨_,rfl,?_⟩;simp[go_sem,sgn,c,d];exact aK rfl rfl
theorem Ds(a b:Int) (h:H):ak C h (.func 197 []) (some [.int .i64 a,.int .i64 b])=some (.int .i64 (sgn a b),h):=aX rfl rfl s_ (xJ a b)
theorem Dn(a b:ByteArray) (h:H):ak C h (.func 300 []) (some [.str a,.str b])=some (.int .i64 (Lib.compareBytes a.data.toList b.data.toList),h):=by have c:eE C.P 300=false:=k_;simp only[ak,c];rfl
theorem pQ(a b:ByteArray):az C 249 [.str a,.str b]=some (.int .i64 (Lib.compareBytes a.data.toList b.data.toList)):=by
 refine ay func249 rfl λR c=>?_
 simp[go_sem,Dn];refine c ⟨_,rfl,?_⟩;simp[go_sem];exact aK rfl rfl
theorem Dp(a b:ByteArray) (h:H):ak C h (.func 249 []) (some [.str a,.str b])=some (.int .i64 (Lib.compareBytes a.data.toList b.data.toList),h):=aX rfl rfl s_ (pQ a b)
theorem rq(a b:ByteArray):az C 198 [.str a,.str b]=some (.int .i64 (Lib.compareBytes a.data.toList b.data.toList)):=by
 refine ay func198 rfl λR c=>?_
 simp[go_sem,Dp];refine c ⟨_,rfl,?_⟩;simp[go_sem];exact aK rfl rfl
theorem Dq(a b:ByteArray) (h:H):ak C h (.func 198 []) (some [.str a,.str b])=some (.int .i64 (Lib.compareBytes a.data.toList b.data.toList),h):=aX rfl rfl s_ (rq a b)
theorem wm(t:T) (hs:t.size<4000000) (h:H):ak C h (.func 141 []) (some [enc t])=some (.int .i64 t.size,h):=aX (cg _) (by simp[aq]) s_ (po t hs)
def tG(a b:ByteArray):Int:=Lib.compareBytes a.data.toList b.data.toList
def two(a b:T):H:=[.cells [.int .i64 a.kind,.str a.name,.int .i64 a.sort,aM a.kids] .live,.cells [.int .i64 b.kind,.str b.name,.int .i64 b.sort,aM b.kids] .live]
theorem qd(a b:T):aW C.P (two a b) 39 (.ptr 0 0)=some (enc a):=by simp[two,aW,aZ,a25,s25];rw[bE]
theorem qc(a b:T):aW C.P (two a b) 39 (.ptr 1 0)=some (enc b):=by simp[two,aW,aZ,a25,s25];rw[bE]
theorem oz(a b:T):aW C.P (two a b) 3 (.ptr 0 0)=some (.int .i64 a.kind):=by simp[two,aW,aZ,a3,s3]
theorem oy(a b:T):aW C.P (two a b) 3 (.ptr 1 0)=some (.int .i64 b.kind):=by simp[two,aW,aZ,a3,s3]
theorem qL(a b:T):aW C.P (two a b) 9 (.ptr 0 1)=some (.str a.name):=by simp[two,aW,aZ,a9,s9]
theorem qK(a b:T):aW C.P (two a b) 9 (.ptr 1 1)=some (.str b.name):=by simp[two,aW,aZ,a9,s9]
theorem xC(a b:T):aW C.P (two a b) 3 (.ptr 0 2)=some (.int .i64 a.sort):=by simp[two,aW,aZ,a3,s3]
theorem xB(a b:T):aW C.P (two a b) 3 (.ptr 1 2)=some (.int .i64 b.sort):=by simp[two,aW,aZ,a3,s3]
theorem mQ(a b:T):aW C.P (two a b) 37 (.ptr 0 3)=some (.isl (a.kids.map enc) .unk):=by simp[two,aW,aZ,a23,s23,aM]
theorem ox(a b:T):aW C.P (two a b) 37 (.ptr 1 3)=some (.isl (b.kids.map enc) .unk):=by simp[two,aW,aZ,a23,s23,aM]
theorem yz(a b:T):nR C.P [.cells [.int .i64 a.kind,.str a.name,.int .i64 a.sort,aM a.kids] .live] 39 (enc b)=some (.ptr 1 0,two a b):=by rw[kf];rfl
theorem DZ(a b:T):a.cmp b=thn (sgn a.size b.size) (thn (sgn a.kind b.kind) (thn (Lib.compareBytes a.name.data.toList b.name.data.toList) (thn (sgn a.sort b.sort) (thn (sgn a.kids.length b.kids.length) (cmps a.kids b.kids))))):=by cases a;cases b;rw[T.cmp];rfl
theorem jU(a b:T):jd [enc a,enc b]=some [enc a,enc b]:=by rw[bE a,bE b];rfl
def xb(a b:T):Int:=thn (sgn a.size b.size) (thn (sgn a.kind b.kind) (thn (tG a.name b.name) (thn (sgn a.sort b.sort) (sgn a.kids.length b.kids.length))))
theorem xD(a b c:Int):thn (thn a b) c=thn a (thn b c):=by unfold thn;split<;>simp_all
theorem Am(a b:T):a.cmp b=thn (xb a b) (cmps a.kids b.kids):=by rw[DZ,xb];simp only[xD,tG]
def Ph(a b:T) (n:Nat) (s:PT) (h:H):Prop:=∃k:Nat,∃c:Int,n=a.kids.length-k/\k<=a.kids.length/\h=two a b/\s.get 2=.ptr 0 0/\s.get 3=.ptr 1 0/\s.get 6=.int .i64 k/\s.get 5=.int .i64 c /\
 (c=0->a.kids.length=b.kids.length)/\thn c (cmps (a.kids.drop k) (b.kids.drop k))=a.cmp b
theorem Hl(a b:T) (hs:a.size<4000000) (hs2:b.size<4000000) (hc:∀k∈a.kids,∀m∈b.kids,az C 144 [enc k,enc m]=some (.int .i64 (k.cmp m))):az C 144 [enc a,enc b]=some (.int .i64 (a.cmp b)):=by
 refine ay func144 rfl λR t=>?_
 have A:=wm a hs;have B:=wm b hs2;have D:tG a.name b.name=Lib.compareBytes a.name.data.toList b.name.data.toList:=rfl;have E:xb a b=0->a.kids.length=b.kids.length:=λh=>by rw[xb,thn_zero,thn_zero,thn_zero,thn_zero]at h;have:=sgn_zero.mp h.2.2.2.2;omega
 by_cases u:sgn a.size b.size=0<;>by_cases v:sgn a.kind b.kind=0<;>by_cases w:tG a.name b.name=0<;>by_cases x:sgn a.sort b.sort=0
 all_goals
  simp[go_sem,yz,qd,qc,oz,oy,qL,qK,xC,xB,mQ,ox,dX,A,B,Ds,Dq,<-D,u,v,w,x];refine bL (Ph a b) a.kids.length ⟨0,xb a b,rfl,aN _,rfl,g_,g_,g_,by simp[go_sem,xb,thn,u,v,w,x],E,by simp[Am]⟩ ?_;rintro n s h ⟨k,c,rfl,G,rfl,j,y,z,l,o,g⟩;by_cases e:c=0
  ·subst e;by_cases f:k<a.kids.length
   ·have i:(k:Int)<a.kids.length:=o_;have d:k<b.kids.length:=by have:=o rfl;omega
    have p:=kM a.kids k f .unk;have q:=kM b.kids k d .unk;have r:∀h,ak C h (.func 144 []) (some [enc a.kids[k],enc b.kids[k]])=some (.int .i64 (a.kids[k].cmp b.kids[k]),h):=λh=>aX (jU _ _) (by simp[aq]) s_ (hc _ (aF f) _ (aF d))
    have I:=len_sizes a.kids;have J:=size_kids a;have F:=wS k o_;rw[aI f,aI d,cmps,thn,if_pos rfl]at g;simp[go_sem,j,y,l,z,mQ,ox,dX,i,p,q,gd,r,-Int.natCast_add,F];exact⟨a.kids.length-(k+1),o_,k+1,a.kids[k].cmp b.kids[k],by simp[go_sem,j,y,g];exact⟨o_,λ_=>o rfl⟩⟩
   have:k=a.kids.length:=o_;subst this;rw[ae,o rfl,ae]at g;simp[go_sem,j,l,z,mQ,dX];refine t ⟨_,rfl,?_⟩;simp[go_sem,<-g,cmps,thn];exact aK rfl rfl
  rw[thn,if_neg e]at g;simp[go_sem,l,e];refine t ⟨_,rfl,?_⟩;simp[go_sem,<-g];exact aK rfl rfl
theorem ry(a:T):∀b:T,a.size<4000000->b.size<4000000->az C 144 [enc a,enc b]=some (.int .i64 (a.cmp b)):=by
 induction a using T.ind with
 |_ a e=>exact λb f c=>Hl a b f c λk d m g=>e k d m (by have:=kid_size d;omega) (by have:=kid_size g;omega)
theorem zU(a b:T) (hs:a.size<4000000) (hs2:b.size<4000000) (h:H):ak C h (.func 144 []) (some [enc a,enc b])=some (.int .i64 (a.cmp b),h):=aX (jU _ _) (by simp[aq]) s_ (ry a b hs hs2)
end Go.VP
namespace Go.VP
open Go Go.V Go.Proofs Tryz Go.RowKit TL
open Go.VZ (enc Ag lN aM bE au aV)
theorem okD [DFlag]:Go.V.Ok prog (Go.V.Call C):=Jb (C:=C) Go.VZ.good (λf a h r c b=>by cases b)
theorem DN [DFlag] (hD:DFlag.D){w w':World}(g:Grows w w'):∃q os,w'=Go.Sort.grow (w.drewN q) os:=by
 have f:=g.drawn hD;refine⟨w'.drawn-w.drawn,w'.heap.extract w.heap.size w'.heap.size,?_⟩;have⟨k,l,m,os,n⟩:=w';have a:=g.os;have b:=g.tape;have c:=g.output;have h:=g.size;have d:=g.block;simp only at a b c h d f;subst a;subst b;subst c;simp only[Go.Sort.grow,World.drewN,World.mk.injEq,and_true,true_and];refine⟨?_,o_⟩;apply pc;intro i;rw[Array.getElem?_append];split
 ·rename_i e;exact d i e
 rename_i e;rw[Array.getElem?_extract];split
 ·rename_i j;congr 1;omega
 rename_i j;exact fq o_
theorem Hh [DFlag] (hD:DFlag.D) (a b:T) (ha:a.size<4000000) (hb:b.size<4000000){w:World}{u v:Value}(hg:lS (λ_ _=>True) w) (hu:IRel (λ_ _=>True) w (enc a) u) (hv:IRel (λ_ _=>True) w (enc b) v) :
  Calls prog 144 #[u,v] w λe w'=>e=.returned (.int .i64 (a.cmp b))/\∃q os,w'=Go.Sort.grow (w.drewN q) os:=by
 have f:=ry a b ha hb;unfold az at f;split at f<;>try(cases f;done)
 rename_i r g c;refine(okD.fn 144 [enc a,enc b] [] r g k_ c w.heap.size (λ_ _=>True) [] w #[u,v] (.start hg) rfl (λi x y c d=>?_)).mono ?_
 ·match i,c,d with
  |0,c,d=>simp at c d;subst c;subst d;exact .data (lj hu)
  |1,c,d=>simp at c d;subst c;subst d;exact .data (lj hv)
  |i+2,c,d=>simp at c
 rintro e w' ⟨v,rfl,σ',h,j,k⟩;have l:=ji (h.stiller (da g)) dD r _ v f (k.step (.stiller h (da g)));cases l;exact⟨rfl,DN hD (tC j.below j.drawn)⟩
theorem LQ(a b:T) (ha:a.size<4000000) (hb:b.size<4000000){w:World}{u v:Value}(hg:lS (λ_ _=>True) w) (hu:IRel (λ_ _=>True) w (enc a) u) (hv:IRel (λ_ _=>True) w (enc b) v) :
  Calls prog 144 #[u,v] w λe w'=>e=.returned (.int .i64 (a.cmp b))/\∃q os,w'=Go.Sort.grow (w.drewN q) os:=@Hh ⟨True⟩ trivial a b ha hb w u v hg hu hv
end Go.VP
namespace Go.VZ
open Go Go.V Go.Proofs Tryz TL
theorem HX(i:Nat):bF C.P 39 (.ptr i 0) 0=some (.ptr i 0):=k_
theorem HW(i:Nat):bF C.P 39 (.ptr i 0) 1=some (.ptr i 1):=k_
theorem HV(i:Nat):bF C.P 39 (.ptr i 0) 2=some (.ptr i 2):=k_
theorem HU(i:Nat):bF C.P 39 (.ptr i 0) 3=some (.ptr i 3):=k_
attribute [go_sem] HX HW HV HU
theorem tl{f:FuncId}{args args':LA}{v:AV}{h:H}(hb:eE C.P f=true) (hm:C.mode f=.strip) (hd:jd args=some args') (hs:args.all short=true) (hl:args.length<90000)
  (hc:az C f args'=some v):ak C h (.func f []) (some args)=some (v,h):=by
 simp only[ak,hb,if_true,bm];rw[oI hm hd hs hl,hc]
theorem aX{f:FuncId}{args args':LA}{v:AV}{h:H}(hd:jd args=some args') (hs:args.all short=true) (hl:args.length<90000)
  (hc:az C f args'=some v) (hb:eE C.P f=true:=by(kernel_rfl)) (hm:C.mode f=.strip:=by rfl):ak C h (.func f []) (some args)=some (v,h):=tl hb hm hd hs hl hc
theorem cg(t:T):jd [enc t]=some [enc t]:=by rw[bE];rfl
theorem aq(t:T):short (enc t)=true:=by rw[bE];rfl
theorem kf(t:T) (h:H):nR C.P h 39 (enc t)=some (.ptr h.length 0,h++[.cells [.int .i64 t.kind,.str t.name,.int .i64 t.sort,aM t.kids] .live]):=by simp[nR,s25,au];rw[bE];rfl
attribute [go_sem] kf
def Pg(t:T) (n:Nat) (s:PT) (h:H):Prop:=∃k:Nat,n=t.kids.length-k/\k<=t.kids.length/\h=[.cells [.int .i64 t.kind,.str t.name,.int .i64 t.sort,aM t.kids] .live]/\s.get 1=.ptr 0 0/\s.get 3=.int .i64 (sizes (t.kids.take k)+1:Nat)/\s.get 4=.int .i64 k
theorem Ng(t:T):aW C.P [.cells [.int .i64 t.kind,.str t.name,.int .i64 t.sort,aM t.kids] .live] 37 (.ptr 0 3)=some (aM t.kids):=by simp[aW,aZ,a23,s23]
theorem Co(t:T) (hc:∀k∈t.kids,az C 115 [enc k]=some (.int .i64 k.size)) (hs:t.size<4000000):az C 115 [enc t]=some (.int .i64 t.size):=by
 refine ay func115 rfl λR l=>?_
 have c:t.size=sizes t.kids+1:=by cases t;rfl
 simp[go_sem];refine bL (Pg t) t.kids.length ⟨0,by simp[go_sem,sizes]⟩ ?_;rintro n s h ⟨k,rfl,p,rfl,e,f,j⟩;have a:=Ng t;by_cases b:k<t.kids.length
 ·have d:(k:Int)<t.kids.length:=o_;have g:=kM t.kids k b .unk;have i:∀h,ak C h (.func 115 []) (some [enc t.kids[k]])=some (.int .i64 t.kids[k].size,h):=λh=>aX (cg _) (by simp[aq]) s_ (hc _ (aF b))
  have q:=take_sizes b;have r:=take_sizes_le t.kids (k+1);have u:=len_sizes t.kids;have m:IntKind.i64.wrap ((sizes (t.kids.take k)+1:Nat)+(t.kids[k].size:Int))=(sizes (t.kids.take (k+1))+1:Nat):=by rw[av o_];omega
  have o:=wS k o_;generalize v:sizes (t.kids.take k)+1=z at *;simp only[aM]at a;simp[go_sem,e,f,j,a,aM,dX,d,g,gd,i,-Int.natCast_add,m,o];refine⟨t.kids.length-(k+1),o_,k+1,rfl,b,?_⟩;simp[go_sem,e,aM]
 have:k=t.kids.length:=o_;subst this;rw[ah,<-c]at f;generalize t.size=z at *;simp only[aM]at a;simp[go_sem,e,f,j,a,aM,dX];refine l ⟨_,rfl,?_⟩;simp[go_sem,c];exact aK rfl rfl
theorem su(t:T):t.size<4000000->az C 115 [enc t]=some (.int .i64 t.size):=by
 induction t using T.ind with
 |_ t b=>exact λc=>Co t (λk a=>b k a (by have:=kid_size a;omega)) c
def Pf(t:T) (n:Nat) (s:PT) (_h:H):Prop:=∃k:Nat,n=t.kids.length-k/\k<=t.kids.length/\s.get 7=aM t.kids/\s.get 8=.int .i64 t.kids.length/\s.get 3=.int .i64 (sizes (t.kids.take k)+1:Nat)/\s.get 9=.int .i64 k
theorem Jd:iH C.P 39=some (.agg [.int .i64 0,.str ⟨#[]⟩,.int .i64 0,.isl [] .full]):=k_
attribute [go_sem] Jd
theorem Jt(t:T) (a b c d:AV) (h:H):cL C.P (h++[.cells [a,b,c,d] .live]) 39 (.ptr h.length 0) (enc t)=some (h++[.cells [.int .i64 t.kind,.str t.name,.int .i64 t.sort,aM t.kids] .live]):=by simp[cL,s25];rw[bE];rfl
theorem CD(t:T) (h:H):aW C.P (h++[.cells [.int .i64 t.kind,.str t.name,.int .i64 t.sort,aM t.kids] .live]) 39 (.ptr h.length 0)=some (enc t):=by simp[aW,aZ,a25,s25];rw[bE]
theorem Cn(t:T) (hc:∀k∈t.kids,az C 141 [enc k]=some (.int .i64 k.size)) (hs:t.size<4000000):az C 141 [enc t]=some (.int .i64 t.size):=by
 refine ay func141 rfl λR m=>?_
 have d:t.size=sizes t.kids+1:=size_kids t;have b:=Ng t;simp only[aM]at b;simp[go_sem,b,aM,dX];refine bL (Pf t) t.kids.length ⟨0,by simp[go_sem,sizes,aM]⟩ ?_;rintro n s h ⟨k,rfl,q,e,f,g,l⟩;by_cases a:k<t.kids.length
 ·have c:(k:Int)<t.kids.length:=o_;have i:=kM t.kids k a .unk;have j:∀h,ak C h (.func 141 []) (some [enc t.kids[k]])=some (.int .i64 t.kids[k].size,h):=λh=>aX (cg _) (by simp[aq]) s_ (hc _ (aF a))
  have r:=take_sizes a;have u:=take_sizes_le t.kids (k+1);have v:=len_sizes t.kids;have o:IntKind.i64.wrap ((sizes (t.kids.take k)+1:Nat)+(t.kids[k].size:Int))=(sizes (t.kids.take (k+1))+1:Nat):=by rw[av o_];omega
  have p:=wS k o_;generalize w:sizes (t.kids.take k)+1=z at *;simp only[aM]at e;simp[go_sem,e,f,g,l,c,i,gd,Jt,CD,j,-Int.natCast_add,o,p];refine⟨t.kids.length-(k+1),o_,k+1,rfl,a,?_⟩;simp[go_sem,e,f,aM]
 have:k=t.kids.length:=o_;subst this;rw[ah,<-d]at g;generalize t.size=z at *;simp[go_sem,f,g,l];refine m ⟨_,rfl,?_⟩;simp[go_sem];exact aK rfl rfl
theorem po(t:T):t.size<4000000->az C 141 [enc t]=some (.int .i64 t.size):=by
 induction t using T.ind with
 |_ t b=>exact λc=>Cn t (λk a=>b k a (by have:=kid_size a;omega)) c
theorem xJ(a b:Int):az C 197 [.int .i64 a,.int .i64 b]=some (.int .i64 (sgn a b)):=by
 refine ay func197 rfl λR e=>?_
 by_cases c:a<b
 ·simp[go_sem,c];refine e ⟨_,rfl,?_⟩;simp[go_sem,sgn,c];exact aK rfl rfl
 by_cases d:b<a
 ·simp[go_sem,c,d];refine e ⟨_,rfl,?_⟩;simp[go_sem,sgn,c,d];exact aK rfl rfl
 simp[go_sem,c,d];refine e ⟨_,rfl,?_⟩;simp[go_sem,sgn,c,d];exact aK rfl rfl
theorem EZ(a b:Int):az C 164 [.int .i64 a,.int .i64 b]=some (.int .i64 (sgn a b)):=by
 refine ay func164 rfl λR e=>?_
 by_cases c:a<b
 ·simp[go_sem,c];refine e ⟨_,rfl,?_⟩;simp[go_sem,sgn,c];exact aK rfl rfl
 by_cases d:b<a
 ·simp[go_sem,c,d];refine e ⟨_,rfl,?_⟩;simp[go_sem,sgn,c,d];exact aK rfl rfl
 simp[go_sem,c,d];refine e ⟨_,rfl,?_⟩;simp[go_sem,sgn,c,d];exact aK rfl rfl
theorem Ds(a b:Int) (h:H):ak C h (.func 197 []) (some [.int .i64 a,.int .i64 b])=some (.int .i64 (sgn a b),h):=aX rfl rfl s_ (xJ a b)
theorem sL(a b:Int) (h:H):ak C h (.func 164 []) (some [.int .i64 a,.int .i64 b])=some (.int .i64 (sgn a b),h):=aX rfl rfl s_ (EZ a b)
theorem Dn(a b:ByteArray) (h:H):ak C h (.func 300 []) (some [.str a,.str b])=some (.int .i64 (Lib.compareBytes a.data.toList b.data.toList),h):=by have c:eE C.P 300=false:=k_;simp only[ak,c];rfl
theorem pQ(a b:ByteArray):az C 249 [.str a,.str b]=some (.int .i64 (Lib.compareBytes a.data.toList b.data.toList)):=by
 refine ay func249 rfl λR c=>?_
 simp[go_sem,Dn];refine c ⟨_,rfl,?_⟩;simp[go_sem];exact aK rfl rfl
theorem Dp(a b:ByteArray) (h:H):ak C h (.func 249 []) (some [.str a,.str b])=some (.int .i64 (Lib.compareBytes a.data.toList b.data.toList),h):=aX rfl rfl s_ (pQ a b)
theorem rq(a b:ByteArray):az C 198 [.str a,.str b]=some (.int .i64 (Lib.compareBytes a.data.toList b.data.toList)):=by
 refine ay func198 rfl λR c=>?_
 simp[go_sem,Dp];refine c ⟨_,rfl,?_⟩;simp[go_sem];exact aK rfl rfl
theorem Dq(a b:ByteArray) (h:H):ak C h (.func 198 []) (some [.str a,.str b])=some (.int .i64 (Lib.compareBytes a.data.toList b.data.toList),h):=aX rfl rfl s_ (rq a b)
theorem Dt(t:T) (hs:t.size<4000000) (h:H):ak C h (.func 115 []) (some [enc t])=some (.int .i64 t.size,h):=aX (cg _) (by simp[aq]) s_ (su t hs)
theorem wm(t:T) (hs:t.size<4000000) (h:H):ak C h (.func 141 []) (some [enc t])=some (.int .i64 t.size,h):=aX (cg _) (by simp[aq]) s_ (po t hs)
theorem Iu(a b:ByteArray):Op.bytesLess a.toList b.toList=decide (Lib.compareBytes a.data.toList b.data.toList = -1):=by
 rw[Lib.toList_data,Lib.toList_data];generalize a.data.toList=x;generalize b.data.toList=y;induction x generalizing y with
 |nil=>cases y<;>simp[Op.bytesLess,Lib.compareBytes]
 |cons c x h=>
  cases y with
  |nil=>simp[Op.bytesLess,Lib.compareBytes]
  |cons d y=>
   rw[Op.bytesLess,Lib.compareBytes,h];by_cases f:c<d
   ·simp[f]
   by_cases g:d<c
   ·have:c≠d:=λe=>by subst e;exact f g
    simp[f,g,this]
   have:c=d:=by simp only[UInt8.lt_iff_toNat_lt]at f g;exact UInt8.toNat_inj.mp o_
   subst this;simp[f]
theorem YG(a b:ByteArray):(a.toList==b.toList)=decide (Lib.compareBytes a.data.toList b.data.toList=0):=by
 rw[Lib.toList_data,Lib.toList_data];simp only[cb_zero];by_cases h:a.data.toList=b.data.toList
 ·rw[decide_eq_true h,h];simp
 rw[decide_eq_false h];exact beq_eq_false_iff_ne.mpr h
def tG(a b:ByteArray):Int:=Lib.compareBytes a.data.toList b.data.toList
theorem wL(x y:Operand) (a b:ByteArray):iN C.P .lss 9 x y (.str a) (.str b)=some (.bool (decide (tG a b = -1))):=by
 have e:dI C.P (do eqGuard BinOp.lss 9 x y (.string a) (.string b);binOp .lss 9 (.string a) (.string b))=some (.bool (Op.bytesLess a.toList b.toList)):=by simp[eqGuard,binOp,Op.stringOp];try rfl
 simp only[iN,fH,cw,e,eC,db,Iu,tG];congr
theorem zJ(x y:Operand) (a b:ByteArray):iN C.P .gtr 9 x y (.str a) (.str b)=some (.bool (decide (tG a b=1))):=by
 have e:dI C.P (do eqGuard BinOp.gtr 9 x y (.string a) (.string b);binOp .gtr 9 (.string a) (.string b))=some (.bool (!(Op.bytesLess a.toList b.toList||a.toList==b.toList))):=by simp[eqGuard,binOp,Op.stringOp];try rfl
 simp only[iN,fH,cw,e,eC,db,Iu,YG,tG];rcases cb_range a.data.toList b.data.toList with h|h|h<;>simp[h]
def two(a b:T):H:=[.cells [.int .i64 a.kind,.str a.name,.int .i64 a.sort,aM a.kids] .live,.cells [.int .i64 b.kind,.str b.name,.int .i64 b.sort,aM b.kids] .live]
theorem qd(a b:T):aW C.P (two a b) 39 (.ptr 0 0)=some (enc a):=by simp[two,aW,aZ,a25,s25];rw[bE]
theorem qc(a b:T):aW C.P (two a b) 39 (.ptr 1 0)=some (enc b):=by simp[two,aW,aZ,a25,s25];rw[bE]
theorem oz(a b:T):aW C.P (two a b) 3 (.ptr 0 0)=some (.int .i64 a.kind):=by simp[two,aW,aZ,a3,s3]
theorem oy(a b:T):aW C.P (two a b) 3 (.ptr 1 0)=some (.int .i64 b.kind):=by simp[two,aW,aZ,a3,s3]
theorem qL(a b:T):aW C.P (two a b) 9 (.ptr 0 1)=some (.str a.name):=by simp[two,aW,aZ,a9,s9]
theorem qK(a b:T):aW C.P (two a b) 9 (.ptr 1 1)=some (.str b.name):=by simp[two,aW,aZ,a9,s9]
theorem xC(a b:T):aW C.P (two a b) 3 (.ptr 0 2)=some (.int .i64 a.sort):=by simp[two,aW,aZ,a3,s3]
theorem xB(a b:T):aW C.P (two a b) 3 (.ptr 1 2)=some (.int .i64 b.sort):=by simp[two,aW,aZ,a3,s3]
theorem mQ(a b:T):aW C.P (two a b) 37 (.ptr 0 3)=some (.isl (a.kids.map enc) .unk):=by simp[two,aW,aZ,a23,s23,aM]
theorem ox(a b:T):aW C.P (two a b) 37 (.ptr 1 3)=some (.isl (b.kids.map enc) .unk):=by simp[two,aW,aZ,a23,s23,aM]
theorem yz(a b:T):nR C.P [.cells [.int .i64 a.kind,.str a.name,.int .i64 a.sort,aM a.kids] .live] 39 (enc b)=some (.ptr 1 0,two a b):=by rw[kf];rfl
theorem DZ(a b:T):a.cmp b=thn (sgn a.size b.size) (thn (sgn a.kind b.kind) (thn (Lib.compareBytes a.name.data.toList b.name.data.toList) (thn (sgn a.sort b.sort) (thn (sgn a.kids.length b.kids.length) (cmps a.kids b.kids))))):=by cases a;cases b;rw[T.cmp];rfl
theorem jU(a b:T):jd [enc a,enc b]=some [enc a,enc b]:=by rw[bE a,bE b];rfl
def Zd(a b:T) (n:Nat) (s:PT) (h:H):Prop:=∃k:Nat,n=a.kids.length-k/\k<=a.kids.length/\h=two a b/\s.get 2=.ptr 0 0/\s.get 3=.ptr 1 0/\s.get 9=.int .i64 k/\cmps (a.kids.drop k) (b.kids.drop k)=cmps a.kids b.kids
theorem VW(a b:T) (hs:a.size<4000000) (hs2:b.size<4000000) (hc:∀k∈a.kids,∀m∈b.kids,az C 107 [enc k,enc m]=some (.int .i64 (k.cmp m))):az C 107 [enc a,enc b]=some (.int .i64 (a.cmp b)):=by
 refine ay func107 rfl λR i=>?_
 have o:=DZ a b;have p:=Dt a hs;have q:=Dt b hs2;by_cases c:sgn a.size b.size≠0
 ·simp[go_sem,yz,qd,qc,p,q,sL,c];refine i ⟨_,rfl,?_⟩;simp[go_sem,o,thn,c];exact aK rfl rfl
 replace c:=Decidable.not_not.mp c
 by_cases d:sgn a.kind b.kind≠0
 ·simp[go_sem,yz,qd,qc,oz,oy,p,q,sL,c,d];refine i ⟨_,rfl,?_⟩;simp[go_sem,o,thn,c,d];exact aK rfl rfl
 replace d:=Decidable.not_not.mp d
 by_cases r:tG a.name b.name = -1
 ·simp[go_sem,yz,qd,qc,oz,oy,qL,qK,p,q,sL,c,d,wL,r];refine i ⟨_,rfl,?_⟩;simp only[tG]at r;simp[go_sem,o,thn,c,d,r];exact aK rfl rfl
 by_cases t:tG a.name b.name=1
 ·simp[go_sem,yz,qd,qc,oz,oy,qL,qK,p,q,sL,c,d,wL,zJ,t];refine i ⟨_,rfl,?_⟩;simp only[tG]at t;simp[go_sem,o,thn,c,d,t];exact aK rfl rfl
 have D:Lib.compareBytes a.name.data.toList b.name.data.toList=0:=by
  rcases cb_range a.name.data.toList b.name.data.toList with e|e|e
  ·exact absurd e r
  ·exact e
  exact absurd e t
 by_cases j:sgn a.sort b.sort≠0
 ·simp[go_sem,yz,qd,qc,oz,oy,qL,qK,xC,xB,p,q,sL,c,d,wL,zJ,r,t,j];refine i ⟨_,rfl,?_⟩;simp[go_sem,o,thn,c,d,D,j];exact aK rfl rfl
 replace j:=Decidable.not_not.mp j
 by_cases u:sgn a.kids.length b.kids.length≠0
 ·simp[go_sem,yz,qd,qc,oz,oy,qL,qK,xC,xB,mQ,ox,dX,p,q,sL,c,d,wL,zJ,r,t,j,u];refine i ⟨_,rfl,?_⟩;simp[go_sem,o,thn,c,d,D,j,u];exact aK rfl rfl
 replace u:=Decidable.not_not.mp u
 have G:a.kids.length=b.kids.length:=by have:=sgn_zero.mp u;omega
 have x:a.cmp b=cmps a.kids b.kids:=by rw[o,c,d,D,j,u];rfl
 simp[go_sem,yz,qd,qc,oz,oy,qL,qK,xC,xB,mQ,ox,dX,p,q,sL,c,d,wL,zJ,r,t,j,u];refine bL (Zd a b) a.kids.length ⟨0,g_⟩ ?_;rintro n s h ⟨k,rfl,J,rfl,B,E,F,v⟩;by_cases g:k<a.kids.length
 ·have l:(k:Int)<a.kids.length:=o_;have f:k<b.kids.length:=o_;have y:=kM a.kids k g .unk;have z:=kM b.kids k f .unk;have A:∀h,ak C h (.func 107 []) (some [enc a.kids[k],enc b.kids[k]])=some (.int .i64 (a.kids[k].cmp b.kids[k]),h):=λh=>aX (jU _ _) (by simp[aq]) s_ (hc _ (aF g) _ (aF f))
  have K:=len_sizes a.kids;have L:=size_kids a;have I:=wS k o_;rw[aI g,aI f,cmps]at v;by_cases w:a.kids[k].cmp b.kids[k]≠0
  ·simp[go_sem,B,E,F,mQ,ox,dX,l,y,z,gd,A,w];refine i ⟨_,rfl,?_⟩;rw[thn,if_neg w]at v;simp[go_sem,x,<-v];exact aK rfl rfl
  replace w:=Decidable.not_not.mp w
  rw[w,thn,if_pos rfl]at v;simp[go_sem,B,E,F,mQ,ox,dX,l,y,z,gd,A,w,-Int.natCast_add,I];refine⟨a.kids.length-(k+1),o_,k+1,rfl,g,rfl,?_,?_,?_,v⟩<;>simp[go_sem,B,E]
 have:k=a.kids.length:=o_;subst this;rw[ae,G,ae]at v;simp[go_sem,B,F,mQ,dX];refine i ⟨_,rfl,?_⟩;simp[go_sem,x,<-v,cmps];exact aK rfl rfl
theorem Hk(a:T):∀b:T,a.size<4000000->b.size<4000000->az C 107 [enc a,enc b]=some (.int .i64 (a.cmp b)):=by
 induction a using T.ind with
 |_ a e=>exact λb f c=>VW a b f c λk d m g=>e k d m (by have:=kid_size d;omega) (by have:=kid_size g;omega)
theorem sM(a b:T) (hs:a.size<4000000) (hs2:b.size<4000000) (h:H):ak C h (.func 107 []) (some [enc a,enc b])=some (.int .i64 (a.cmp b),h):=aX (jU _ _) (by simp[aq]) s_ (Hk a b hs hs2)
def xb(a b:T):Int:=thn (sgn a.size b.size) (thn (sgn a.kind b.kind) (thn (tG a.name b.name) (thn (sgn a.sort b.sort) (sgn a.kids.length b.kids.length))))
theorem xD(a b c:Int):thn (thn a b) c=thn a (thn b c):=by unfold thn;split<;>simp_all
theorem Am(a b:T):a.cmp b=thn (xb a b) (cmps a.kids b.kids):=by rw[DZ,xb];simp only[xD,tG]
def Ph(a b:T) (n:Nat) (s:PT) (h:H):Prop:=∃k:Nat,∃c:Int,n=a.kids.length-k/\k<=a.kids.length/\h=two a b/\s.get 2=.ptr 0 0/\s.get 3=.ptr 1 0/\s.get 6=.int .i64 k/\s.get 5=.int .i64 c /\
 (c=0->a.kids.length=b.kids.length)/\thn c (cmps (a.kids.drop k) (b.kids.drop k))=a.cmp b
theorem Hl(a b:T) (hs:a.size<4000000) (hs2:b.size<4000000) (hc:∀k∈a.kids,∀m∈b.kids,az C 144 [enc k,enc m]=some (.int .i64 (k.cmp m))):az C 144 [enc a,enc b]=some (.int .i64 (a.cmp b)):=by
 refine ay func144 rfl λR t=>?_
 have A:=wm a hs;have B:=wm b hs2;have D:tG a.name b.name=Lib.compareBytes a.name.data.toList b.name.data.toList:=rfl;have E:xb a b=0->a.kids.length=b.kids.length:=λh=>by rw[xb,thn_zero,thn_zero,thn_zero,thn_zero]at h;have:=sgn_zero.mp h.2.2.2.2;omega
 by_cases u:sgn a.size b.size=0<;>by_cases v:sgn a.kind b.kind=0<;>by_cases w:tG a.name b.name=0<;>by_cases x:sgn a.sort b.sort=0
 all_goals
  simp[go_sem,yz,qd,qc,oz,oy,qL,qK,xC,xB,mQ,ox,dX,A,B,Ds,Dq,<-D,u,v,w,x];refine bL (Ph a b) a.kids.length ⟨0,xb a b,rfl,aN _,rfl,g_,g_,g_,by simp[go_sem,xb,thn,u,v,w,x],E,by simp[Am]⟩ ?_;rintro n s h ⟨k,c,rfl,G,rfl,j,y,z,l,o,g⟩;by_cases e:c=0
  ·subst e;by_cases f:k<a.kids.length
   ·have i:(k:Int)<a.kids.length:=o_;have d:k<b.kids.length:=by have:=o rfl;omega
    have p:=kM a.kids k f .unk;have q:=kM b.kids k d .unk;have r:∀h,ak C h (.func 144 []) (some [enc a.kids[k],enc b.kids[k]])=some (.int .i64 (a.kids[k].cmp b.kids[k]),h):=λh=>aX (jU _ _) (by simp[aq]) s_ (hc _ (aF f) _ (aF d))
    have I:=len_sizes a.kids;have J:=size_kids a;have F:=wS k o_;rw[aI f,aI d,cmps,thn,if_pos rfl]at g;simp[go_sem,j,y,l,z,mQ,ox,dX,i,p,q,gd,r,-Int.natCast_add,F];exact⟨a.kids.length-(k+1),o_,k+1,a.kids[k].cmp b.kids[k],by simp[go_sem,j,y,g];exact⟨o_,λ_=>o rfl⟩⟩
   have:k=a.kids.length:=o_;subst this;rw[ae,o rfl,ae]at g;simp[go_sem,j,l,z,mQ,dX];refine t ⟨_,rfl,?_⟩;simp[go_sem,<-g,cmps,thn];exact aK rfl rfl
  rw[thn,if_neg e]at g;simp[go_sem,l,e];refine t ⟨_,rfl,?_⟩;simp[go_sem,<-g];exact aK rfl rfl
theorem ry(a:T):∀b:T,a.size<4000000->b.size<4000000->az C 144 [enc a,enc b]=some (.int .i64 (a.cmp b)):=by
 induction a using T.ind with
 |_ a e=>exact λb f c=>Hl a b f c λk d m g=>e k d m (by have:=kid_size d;omega) (by have:=kid_size g;omega)
theorem zU(a b:T) (hs:a.size<4000000) (hs2:b.size<4000000) (h:H):ak C h (.func 144 []) (some [enc a,enc b])=some (.int .i64 (a.cmp b),h):=aX (jU _ _) (by simp[aq]) s_ (ry a b hs hs2)
theorem UD(a b:T) (hs:a.size<4000000) (hs2:b.size<4000000):az C 68 [enc a,enc b]=some (.bool (decide (a.cmp b=0))):=by
 refine ay func68 rfl λR c=>?_
 have q:=sM a b hs hs2;simp[go_sem,yz,qd,qc,q];refine c ⟨_,rfl,?_⟩;simp[go_sem];exact aK rfl rfl
theorem lr(a b:T) (hs:a.size<4000000) (hs2:b.size<4000000) (h:H):ak C h (.func 68 []) (some [enc a,enc b])=some (.bool (decide (a.cmp b=0)),h):=aX (jU _ _) (by simp[aq]) s_ (UD a b hs hs2)
def vS(c:Nat):Bool:=(decide (97<=c)&&decide (c<=122))||(decide (65<=c)&&decide (c<=90))
def OO(c:Nat):Bool:=decide (48<=c)&&decide (c<=57)
def uq(c:Nat):Bool:=vS c||OO c||c==95||c==35
def isB(b:Bool):Option (AV × H)->Bool
 |some (.bool x,_)=>x==b
 |_=>false
theorem xY{n:Nat}{f:FuncId}{args:LA}{b:Bool}(h:isB b (fA C n f args [])=true):az C f args=some (.bool b):=by
 cases a:fA C n f args []with
 |none=>rw[a]at h;cases h
 |some x=>
  have⟨r,c⟩:=x;rw[a]at h;unfold isB at h;split at h<;>try(cases h;done)
  rename_i e;simp only[aA,aD]at e;obtain⟨rfl,rfl⟩:=e;have:=eq_of_beq h;subst this;unfold az;rw[Jc n a];exact aK rfl rfl
theorem M5:(List.range 256).all (λc=>isB (uq c) (fA C 100 324 [.int .u8 c] []))=true:=k_
theorem G2:(List.range 256).all (λc=>isB (vS c) (fA C 100 293 [.int .u8 c] []))=true:=k_
theorem LF:(List.range 256).all (λc=>isB (OO c) (fA C 100 294 [.int .u8 c] []))=true:=k_
theorem KK(c:Nat) (hc:c<256):az C 324 [.int .u8 c]=some (.bool (uq c)):=xY (n:=100) (bI.mp M5 c (eL.mpr hc))
theorem Ej(c:Nat) (hc:c<256):az C 293 [.int .u8 c]=some (.bool (vS c)):=xY (n:=100) (bI.mp G2 c (eL.mpr hc))
theorem Hc(c:Nat) (hc:c<256):az C 294 [.int .u8 c]=some (.bool (OO c)):=xY (n:=100) (bI.mp LF c (eL.mpr hc))
theorem JI(c:Nat) (hc:c<256) (h:H):ak C h (.func 324 []) (some [.int .u8 c])=some (.bool (uq c),h):=aX rfl rfl s_ (KK c hc)
theorem JH(c:Nat) (hc:c<256) (h:H):ak C h (.func 293 []) (some [.int .u8 c])=some (.bool (vS c),h):=aX rfl rfl s_ (Ej c hc)
theorem R6(c:Nat) (hc:c<256) (h:H):ak C h (.func 294 []) (some [.int .u8 c])=some (.bool (OO c),h):=aX rfl rfl s_ (Hc c hc)
theorem u9:C.P.underlying 9=some .string:=underlying9
theorem U0(s:ByteArray) (k:Nat) (hk:k<s.size):tR C.P 9 (.str s) (.int .i64 k)=some (.int .u8 (s[k]).toNat):=by
 have e:dI C.P (Instr.index 9 (.string s) (.int .i64 k))=some (.int .u8 (s[k]).toNat):=by
  have a:dI C.P (underlying 9)=some .string:=k_;have b:s[k]?=some s[k]:=by simp[hk]
  simp only[Instr.index,ie,asIntOf,ic,cn,a];simp[b,ic]
 simp only[tR,e,eC,db]
@[go_sem] theorem aAA {C:Cfg}{cf:FuncId}{ops:Array Oper}{d:Tmp}{ty:TypeId}{p:String}{af:Array Edge}{l:List Oper}{s:PT}{h:H}{K:PT->H->Prop}(t:TypeId) (x i:Operand) :
  OW C cf ops (⟨some d,.index t x i,ty,p,af,none⟩::l) s h K↔bO (bi2 (ev s x) (ev s i) (tR C.P t)) λv=>OW C cf ops l (s.set d v) h K:=OWn (by simp only[opN,bi2];cases ev s x<;>cases ev s i<;>rfl) rfl rfl
def dT(s:ByteArray) (k:Nat):Nat:=if h:k<s.size then(s[k]).toNat else 0
theorem ol(s:ByteArray) (k:Nat):dT s k<256:=by
 unfold dT;split
 ·exact UInt8.toNat_lt _
 omega
theorem DJ(s:ByteArray) (k:Nat) (hk:k<s.size):tR C.P 9 (.str s) (.int .i64 k)=some (.int .u8 (dT s k)):=by rw[U0 s k hk];simp[dT,hk]
def pj(s:ByteArray):Nat->Nat->Bool
 |_,0=>true
 |k,n+1=>uq (dT s k)&&pj s (k+1) n
def kV(s:ByteArray):Bool:=decide (s.size≠0)&&decide (s.size<=24)&&vS (dT s 0)&&pj s 0 s.size
theorem nu(s:ByteArray):fB C.P 9 (.str s)=some (.int .i64 s.size):=by simp[fB,u9]
def ZI(s:ByteArray) (z n:Nat) (t:PT) (h:H):Prop:=∃k:Nat,n=z-k/\k<=z/\h=[]/\t.get 0=.str s/\t.get 3=.int .i64 k/\pj s k (z-k)=kV s
theorem Km(s:ByteArray):az C 241 [.str s]=some (.bool (kV s)):=by
 refine ay func241 rfl λR hR=>?_
 have nu:=nu s;have hn:kV s=(decide (s.size≠0)&&decide (s.size<=24)&&vS (dT s 0)&&pj s 0 s.size):=rfl;have hix:=DJ s;generalize s.size=z at nu hn hix;by_cases h0:z=0
 ·have h0':(z:Int)=0:=o_;simp[go_sem,nu,h0'];refine hR ⟨_,rfl,?_⟩;have:kV s=false:=by simp[hn,h0]
  simp[go_sem,this];exact aK rfl rfl
 have h0':¬(z:Int)=0:=o_;by_cases h24:24<z
 ·have h24':(24:Int)<z:=o_;simp[go_sem,nu,h0,h24'];refine hR ⟨_,rfl,?_⟩;have:kV s=false:=by rw[hn,decide_eq_false (show ¬z<=24 by omega)];simp
  simp[go_sem,this];exact aK rfl rfl
 have h24':¬(24:Int)<z:=o_;have hi0:=hix 0 o_;have hc0:=JH (dT s 0) (ol s 0);simp only[show((0:Nat):Int)=0 from rfl]at hi0;by_cases hl:vS (dT s 0)=false
 ·simp[go_sem,nu,h0,h24',hi0,hc0,hl];refine hR ⟨_,rfl,?_⟩;have:kV s=false:=by simp[hn,hl]
  simp[go_sem,this];exact aK rfl rfl
 replace hl:vS (dT s 0)=true:=by simpa using hl
 have hn':kV s=pj s 0 z:=by rw[hn,hl,decide_eq_true h0,decide_eq_true (show z<=24 by omega)];simp
 simp[go_sem,nu,h0,h24',hi0,hc0,hl];refine bL (ZI s z) z ⟨0,rfl,aN _,rfl,g_,g_,by rw[hn'];rfl⟩ ?_;rintro n t h ⟨k,rfl,hk,rfl,g0,g3,hd⟩;by_cases hlt:k<z
 ·have hlt':(k:Int)<z:=o_;have hi:=hix k hlt;have c1:=JH (dT s k) (ol s k);have c2:=R6 (dT s k) (ol s k);have w2:=wS k o_;rw[show z-k=(z-(k+1))+1 by omega,pj,uq]at hd;by_cases d1:vS (dT s k)=true<;>by_cases d2:OO (dT s k)=true<;>by_cases d3:(dT s k:Int)=95<;>by_cases d4:(dT s k:Int)=35
  all_goals
   have d3':(dT s k==95)=decide ((dT s k:Int)=95):=by rw[fO];simp;omega
   have d4':(dT s k==35)=decide ((dT s k:Int)=35):=by rw[fO];simp;omega
   rw[d3',d4']at hd;simp[d1,d2,d3,d4]at hd;try rw[d3]at hi c1 c2
   try rw[d4]at hi c1 c2
   simp[go_sem,nu,g0,g3,hlt',hi,c1,c2,d1,d2,d3,d4,-Int.natCast_add,w2];first
    |(exfalso;omega)
    |exact⟨z-(k+1),by omega,k+1,rfl,hlt,rfl,by simp[go_sem,g0],by simp[go_sem],hd⟩
    |(refine hR ⟨_,rfl,?_⟩;simp[go_sem,hd];exact aK rfl rfl)
 have:k=z:=o_;subst this;simp[go_sem,nu,g0,g3];refine hR ⟨_,rfl,?_⟩;rw[Nat.sub_self,pj]at hd;simp[go_sem,<-hd];exact aK rfl rfl
theorem eM(x y:Operand) (a b:ByteArray):iN C.P .eql 9 x y (.str a) (.str b)=some (.bool (decide (a=b))):=by
 have e:dI C.P (do eqGuard BinOp.eql 9 x y (.string a) (.string b);binOp .eql 9 (.string a) (.string b))=some (.bool (a.toList==b.toList)):=by simp[eqGuard,binOp,Op.stringOp];try rfl
 simp only[iN,fH,cw,e,eC,db];congr 2
 have:a.toList=b.toList↔a=b:=by have c:a.toList=a.data.toList:=ByteArray.toList_eq a;have d:b.toList=b.data.toList:=ByteArray.toList_eq b;rw[c,d];exact name_inj
 by_cases h:a=b
 ·subst h;simp
 have f:¬a.toList=b.toList:=λe=>h (this.1 e)
 simp[h,f]
def vg(t:T):Bool:=(decide (t.kind≠1)&&decide (t.kind≠2)&&decide (t.kind≠3))||decide (t.sort<0)||decide (5<t.sort)||(decide (t.kind≠1)&&decide (t.kind≠2)&&decide (t.sort≠0))||((decide (t.kind=1)||decide (t.kind=2))&&decide (0<t.kids.length))
def jQ(t:T):Int:=if vg t=true then 1 else if kV t.name=false then 2 else if 8<t.kids.length then 3 else 0
theorem yn(k s:Int) (n:ByteArray) (q:AV):aW C.P [.cells [.int .i64 k,.str n,.int .i64 s,q] .live] 3 (.ptr 0 0)=some (.int .i64 k):=by simp[aW,aZ,a3,s3]
theorem tO(k s:Int) (n:ByteArray) (q:AV):aW C.P [.cells [.int .i64 k,.str n,.int .i64 s,q] .live] 9 (.ptr 0 1)=some (.str n):=by simp[aW,aZ,a9,s9]
theorem Xk(k s:Int) (n:ByteArray) (q:AV):aW C.P [.cells [.int .i64 k,.str n,.int .i64 s,q] .live] 3 (.ptr 0 2)=some (.int .i64 s):=by simp[aW,aZ,a3,s3]
theorem jh(k s:Int) (n:ByteArray) (es:LA) (x:Ext):aW C.P [.cells [.int .i64 k,.str n,.int .i64 s,.isl es x] .live] 37 (.ptr 0 3)=some (.isl es x):=by simp[aW,aZ,a23,s23]
theorem Oq(s:ByteArray) (h:H):ak C h (.func 241 []) (some [.str s])=some (.bool (kV s),h):=aX rfl rfl s_ (Km s)
theorem Qa(t:T):az C 180 [enc t]=some (.int .i64 (jQ t)):=by
 refine ay func180 rfl λR c=>?_
 have e:=Oq t.name;simp +contextual [go_sem,aM,yn,Xk,jh,dX];refine Ife_iff.2 ⟨λd=>?_,λd=>?_⟩
 ·have a:vg t=true:=by simpa[vg]using d
  simp[go_sem];refine c ⟨_,rfl,?_⟩;simp[go_sem,jQ,a];exact aK rfl rfl
 have a:vg t=false:=by simpa[vg]using d
 simp +contextual [go_sem,tO,e];refine Ife_iff.2 ⟨λb=>?_,λb=>?_⟩
 ·simp[go_sem];refine c ⟨_,rfl,?_⟩;simp[go_sem,jQ,a,b];exact aK rfl rfl
 simp at b;simp +contextual [go_sem,jh,dX];refine Ife_iff.2 ⟨λf=>?_,λf=>?_⟩
 ·simp[go_sem];refine c ⟨_,rfl,?_⟩;simp[go_sem,jQ,a,b,show 8<t.kids.length by omega];exact aK rfl rfl
 simp[go_sem];refine c ⟨_,rfl,?_⟩;simp[go_sem,jQ,a,b,show ¬8<t.kids.length by omega];exact aK rfl rfl
theorem K5:(List.range 256).all (λc=>(uq c && !(decide (48<=c)&&decide (c<=57)) && !(decide (c=95)) && !(decide (c=35)))==vS c)=true:=k_
theorem HN(c:Nat) (hc:c<256):(uq c && !(decide (48<=c)&&decide (c<=57)) && !(decide (c=95)) && !(decide (c=35)))=vS c:=eq_of_beq (bI.mp K5 c (eL.mpr hc))
def ZL(s:ByteArray) (z n:Nat) (t:PT) (h:H):Prop:=∃k:Nat,n=z-k/\k<=z/\h=[]/\t.get 0=.str s/\t.get 38=.int .i64 z/\t.get 39=.int .i64 k/\pj s k (z-k)=kV s
theorem Kn(s:ByteArray):az C 298 [.str s]=some (.bool (kV s)):=by
 refine ay func298 rfl λR hR=>?_
 have hn:kV s=(decide (s.size≠0)&&decide (s.size<=24)&&vS (dT s 0)&&pj s 0 s.size):=rfl;have nu:=nu s;have hix:=DJ s;have he:(s=⟨#[]⟩)↔s.size=0:=⟨λe=>by subst e;rfl,λe=>by cases s;simp[ByteArray.size]at e;simp[e]⟩
 by_cases h0:s.size=0
 ·have h0':=he.2 h0;simp +contextual [go_sem,eM,h0'];refine hR ⟨_,rfl,?_⟩;have:kV s=false:=by simp[hn,h0]
  simp[go_sem,this];exact aK rfl rfl
 have h0':¬s=⟨#[]⟩:=λe=>h0 (he.1 e)
 have hi0:=hix 0 o_;have hc0:=JI (dT s 0) (ol s 0);have hlt:=ol s 0;simp only[show((0:Nat):Int)=0 from rfl]at hi0;have hfp:=HN (dT s 0) hlt;generalize s.size=z at nu hn hix h0;by_cases h24:24<z
 ·have h24':(24:Int)<z:=o_;simp +contextual [go_sem,eM,nu,h0',h24'];refine hR ⟨_,rfl,?_⟩;have:kV s=false:=by rw[hn,decide_eq_false (show ¬z<=24 by omega)];simp
  simp[go_sem,this];exact aK rfl rfl
 have h24':¬(24:Int)<z:=o_;simp +contextual [go_sem,eM,nu,h0',h24',hi0,hc0];refine Ife_iff.2 ⟨λh1=>?_,λh1=>?_⟩
 ·have hl:vS (dT s 0)=false:=by
   cases hlb:vS (dT s 0)with
   |false=>rfl
   |true=>rw[hlb]at hfp;simp at hfp;rw[hfp.1.1.1]at h1;simp at h1;omega
  simp[go_sem];refine hR ⟨_,rfl,?_⟩;have:kV s=false:=by rw[hn,hl];simp
  simp[go_sem,this];exact aK rfl rfl
 have hl:vS (dT s 0)=true:=by
  rw[<-hfp];simp only[not_or]at h1;have p1:uq (dT s 0)=true:=by simpa using h1.1.1.1
  have p2:=h1.1.1.2;have p3:=h1.1.2;have p4:=h1.2;rw[p1,decide_eq_false (show ¬dT s 0=95 by omega),decide_eq_false (show ¬dT s 0=35 by omega)];by_cases q:48<=dT s 0
  ·rw[decide_eq_false (show ¬dT s 0<=57 by omega)];simp
  rw[decide_eq_false q];simp
 have hn':kV s=pj s 0 z:=by rw[hn,hl,decide_eq_true h0,decide_eq_true (show z<=24 by omega)];simp
 simp +contextual [go_sem,nu];refine bL (ZL s z) z ⟨0,rfl,aN _,rfl,g_,g_,g_,by rw[hn'];rfl⟩ ?_;rintro n t h ⟨k,rfl,hk,rfl,g0,g38,g39,hd⟩;by_cases hlt:k<z
 ·have hlt':(k:Int)<z:=o_;have hi:=hix k hlt;have c1:=JI (dT s k) (ol s k);have w2:=wS k o_;rw[show z-k=(z-(k+1))+1 by omega,pj]at hd;cases hp:uq (dT s k)with
  |true=>
   rw[hp,ee]at hd
   simp[go_sem,g0,g38,g39,hlt',hi,c1,hp,-Int.natCast_add,w2]
   exact⟨z-(k+1),by omega,k+1,rfl,hlt,rfl,by simp[go_sem,g0],by simp[go_sem,g38],by simp[go_sem],hd⟩
  |false=>rw[hp,iQ]at hd;simp[go_sem,g0,g38,g39,hlt',hi,c1,hp];refine hR ⟨_,rfl,?_⟩;simp[go_sem,<-hd];exact aK rfl rfl
 have:k=z:=o_;subst this;simp[go_sem,g38,g39];refine hR ⟨_,rfl,?_⟩;rw[Nat.sub_self,pj]at hd;simp[go_sem,<-hd];exact aK rfl rfl
theorem SB(s:ByteArray) (h:H):ak C h (.func 298 []) (some [.str s])=some (.bool (kV s),h):=aX rfl rfl s_ (Kn s)
mutual
def dS:T->Int
 |.mk k n s l=>thn (jQ (.mk k n s l)) (mV l)
def mV:Lq->Int
 |[]=>0
 |t::l=>thn (dS t) (mV l)
end
theorem qk(t:T):dS t=thn (jQ t) (mV t.kids):=by cases t;rw[dS];rfl
def bh(t:T):Int:=thn (dS t) (if 400<t.size\/40<t.depth then 3 else 0)
theorem wX(t:T):t.depth=depths t.kids+1:=by cases t;rw[T.depth];rfl
def tc(t:T):LA:=[.int .i64 t.kind,.str t.name,.int .i64 t.sort,.isl (t.kids.map enc) .unk]
theorem yO(t:T):aW C.P [.cells [.int .i64 t.kind,.str t.name,.int .i64 t.sort,.isl (t.kids.map enc) .unk] .live] 39 (.ptr 0 0)=some (enc t):=by simp[aW,aZ,a25,s25];rw[bE];rfl
theorem SJ(t:T) (h:H):ak C h (.func 180 []) (some [enc t])=some (.int .i64 (jQ t),h):=aX (cg _) (by simp[aq]) s_ (Qa t)
def Zb(t:T) (n:Nat) (s:PT) (h:H):Prop:=∃k:Nat,n=t.kids.length-k/\k<=t.kids.length/\h=[.cells (tc t) .live]/\s.get 1=.ptr 0 0/\s.get 4=.int .i64 k/\mV (t.kids.drop k)=dS t
theorem NF(t:T) (hs:t.size<4000000) (hc:∀k∈t.kids,az C 114 [enc k]=some (.int .i64 (dS k))):az C 114 [enc t]=some (.int .i64 (dS t)):=by
 refine ay func114 rfl λR hR=>?_
 have c1:=SJ t;have hq:=qk t;by_cases h1:jQ t=0
 ·simp +contextual [go_sem,aM,yO,c1,h1];refine bL (Zb t) t.kids.length ⟨0,rfl,aN _,rfl,g_,g_,by rw[hq,h1];rfl⟩ ?_;rintro n s h ⟨k,rfl,hk,rfl,g1,g4,hd⟩;have hlen:=len_sizes t.kids;have hsz:=size_kids t;by_cases hlt:k<t.kids.length
  ·have hlt':(k:Int)<t.kids.length:=o_;have hix:=kM t.kids k hlt .unk;have ck:∀h,ak C h (.func 114 []) (some [enc t.kids[k]])=some (.int .i64 (dS t.kids[k]),h):=λh=>aX (cg _) (by simp[aq]) s_ (hc _ (aF hlt))
   have w1:=wS k o_;rw[aI hlt,mV]at hd;by_cases h2:dS t.kids[k]=0
   ·rw[h2]at hd
    simp[go_sem,tc,jh,dX,g1,g4,hlt',hix,gd,ck,h2,-Int.natCast_add,w1]
    exact⟨t.kids.length-(k+1),by omega,k+1,rfl,hlt,rfl,by simp[go_sem,g1],by simp[go_sem],hd⟩
   simp[go_sem,tc,jh,dX,g1,g4,hlt',hix,gd,ck,h2];refine hR ⟨_,rfl,?_⟩;simp[go_sem,<-hd,thn,h2];exact aK rfl rfl
  have:k=t.kids.length:=o_;subst this;simp[go_sem,tc,jh,dX,g1,g4];refine hR ⟨_,rfl,?_⟩;rw[ae,mV]at hd;simp[go_sem,<-hd];exact aK rfl rfl
 simp +contextual [go_sem,kC,aM,yO,c1,h1];refine hR ⟨_,rfl,?_⟩;simp[go_sem,hq,thn,h1];exact aK rfl rfl
theorem C1(t:T):t.size<4000000->az C 114 [enc t]=some (.int .i64 (dS t)):=by
 induction t using T.ind with
 |_ t b=>exact λc=>NF t c (λk a=>b k a (by have:=kid_size a;omega))
theorem SS(t:T) (hs:t.size<4000000) (h:H):ak C h (.func 114 []) (some [enc t])=some (.int .i64 (dS t),h):=aX (cg _) (by simp[aq]) s_ (C1 t hs)
theorem wW(t:T):t.depth<=t.size/\0<t.depth:=by
 induction t using T.ind with
 |_ t b=>
  rw[wX,size_kids];have:depths t.kids<=sizes t.kids:=by
   generalize t.kids=l at b;induction l with
   |nil=>simp[depths,sizes]
   |cons a l c=>have e:=b a s_;have f:=c (λk d=>b k (by simp[d]));rw[depths,sizes];omega
  omega
def Za(t:T) (n:Nat) (s:PT) (h:H):Prop:=∃k c:Nat,n=t.kids.length-k/\k<=t.kids.length/\h=[.cells (tc t) .live]/\s.get 1=.ptr 0 0/\s.get 3=.int .i64 c/\s.get 4=.int .i64 k/\max c (depths (t.kids.drop k))=depths t.kids
theorem DB(P:Program) (a b:Int):rV P true [.int .i64 a,.int .i64 b]=some (.int .i64 (max a b)):=by
 simp only[rV,toList,cw];have e:dI P (Builtin.max_ #[] 0 [Value.int .i64 a,.int .i64 b].toArray)=some (.int .i64 (max a b)):=by
  simp only[Builtin.max_,List.foldlM,Builtin.max2,ie,ic,cn];congr 2
  split<;>omega
 simp[e,eC,db]
theorem OP(t:T) (hs:t.size<4000000) (hc:∀k∈t.kids,az C 116 [enc k]=some (.int .i64 k.depth)):az C 116 [enc t]=some (.int .i64 t.depth):=by
 refine ay func116 rfl λR hR=>?_
 simp +contextual [go_sem,aM];refine bL (Za t) t.kids.length ⟨0,0,rfl,aN _,rfl,g_,g_,g_,s_⟩ ?_;rintro n s h ⟨k,c,rfl,hk,rfl,g1,g3,g4,hd⟩;have hlen:=len_sizes t.kids;have hsz:=size_kids t;have hde:=wX t;have hdl:=(wW t).1;by_cases hlt:k<t.kids.length
 ·have hlt':(k:Int)<t.kids.length:=o_;have hix:=kM t.kids k hlt .unk;have ck:∀h,ak C h (.func 116 []) (some [enc t.kids[k]])=some (.int .i64 (t.kids[k].depth:Nat),h):=λh=>aX (cg _) (by simp[aq]) s_ (hc _ (aF hlt))
  have w1:IntKind.i64.wrap ((k:Int)+1)=((k+1:Nat):Int):=by rw[av (by omega)];omega
  rw[aI hlt,depths,<-Nat.max_assoc]at hd
  simp[go_sem,tc,jh,dX,g1,g3,g4,hlt',hix,gd,ck,DB,-Int.natCast_add,w1]
  refine⟨t.kids.length-(k+1),by omega,k+1,max c t.kids[k].depth,rfl,hlt,rfl,by simp[go_sem,g1],?_,by simp[go_sem],hd⟩
  simp[go_sem];omega
 have:k=t.kids.length:=o_;subst this;rw[ae,depths]at hd;have hc0:c=depths t.kids:=o_;have w1:IntKind.i64.wrap ((c:Int)+1)=(t.depth:Nat):=by rw[av o_];omega
 simp[go_sem,tc,jh,dX,g1,g3,g4,w1];refine hR ⟨_,rfl,?_⟩;simp[go_sem];exact aK rfl rfl
theorem DY(t:T):t.size<4000000->az C 116 [enc t]=some (.int .i64 t.depth):=by
 induction t using T.ind with
 |_ t b=>exact λc=>OP t c (λk a=>b k a (by have:=kid_size a;omega))
theorem SR(t:T) (hs:t.size<4000000) (h:H):ak C h (.func 116 []) (some [enc t])=some (.int .i64 t.depth,h):=aX (cg _) (by simp[aq]) s_ (DY t hs)
theorem Ox(t:T) (hs:t.size<4000000) (h:H):ak C h (.func 115 []) (some [enc t])=some (.int .i64 t.size,h):=aX (cg _) (by simp[aq]) s_ (su t hs)
theorem Px(t:T) (hs:t.size<4000000):az C 76 [enc t]=some (.int .i64 (bh t)):=by
 refine ay func76 rfl λR b=>?_
 have c:=SS t hs;have d:=Ox t hs;have c3:=SR t hs;simp +contextual [go_sem,aM,yO,c];refine Ife_iff.2 ⟨λa=>?_,λa=>?_⟩
 ·simp[go_sem];refine b ⟨_,rfl,?_⟩;simp[go_sem,bh,thn,a];exact aK rfl rfl
 simp only[Decidable.not_not]at a;simp +contextual [go_sem,yO,d,c3];refine Ife_iff.2 ⟨λe=>?_,λe=>?_⟩
 ·simp[go_sem];refine b ⟨_,rfl,?_⟩;simp[go_sem,bh,thn,a,show 400<t.size\/40<t.depth by omega];exact aK rfl rfl
 simp[go_sem];refine b ⟨_,rfl,?_⟩;simp[go_sem,bh,thn,a,show ¬(400<t.size\/40<t.depth) by omega];exact aK rfl rfl
theorem qx(t:T):dat (enc t)=some (enc t):=by rw[bE];rfl
theorem lq(t:T) (hs:t.size<4000000) (h:H):ak C h (.func 76 []) (some [enc t])=some (.int .i64 (bh t),h):=aX (cg _) (by simp[aq]) s_ (Px t hs)
theorem gQ{f:FuncId}{args:LA}{h:H}(hb:eE C.P f=true) (hm:C.mode f=.openH):ak C h (.func f []) (some args)=Go.V.Call C f args h:=by simp only[ak,hb,if_true,bm];unfold dM;rw[hm]
theorem NZ{h:H}{p:Nat}{x:AV}{_st:OSt}(hp:h[p]?=some (.cells [x] .live)):aW C.P h 3 (.ptr p 0)=some x:=by simp[aW,hp,aZ,a3,s3]
theorem QD{h:H}{p:Nat}{x:AV}(v:Int) (hp:h[p]?=some (.cells [x] .live)):cL C.P h 3 (.ptr p 0) (.int .i64 v)=some (h.set p (.cells [.int .i64 v] .live)):=by simp[cL,hp,s3]
def Two(h h':H) (p q:Nat) (n d:Int):Prop:=h.length<=h'.length/\(∀i,i<h.length->i≠p->i≠q->h'[i]?=h[i]?)/\h'[p]?=some (.cells [.int .i64 n] .live)/\h'[q]?=some (.cells [.int .i64 d] .live)
theorem Two.trans{h h1 h2:H}{p q:Nat}{n d n' d':Int}(_hp:p<h.length) (_hq:q<h.length) (a:Two h h1 p q n d) (b:Two h1 h2 p q n' d'):Two h h2 p q n' d':=
 ⟨cW a.1 b.1,λi c h1 h2=>(b.2.1 i (eG c a.1) h1 h2).trans (a.2.1 i c h1 h2),b.2.2.1,b.2.2.2⟩
theorem Two.push{h h1:H}{p q:Nat}{n d:Int}(a:Two h h1 p q n d) (hp:p<h.length) (hq:q<h.length) (x:List VObj):Two h (h1++x) p q n d:=by
 have⟨g,e,a3,a4⟩:=a;refine⟨by simp;omega,λi f b c=>?_,?_,?_⟩
 ·rw[aP o_];exact e i f b c
 ·rw[aP o_];exact a3
 rw[aP o_];exact a4
theorem aAu{h:H}{b:Nat}{t:T}(hb:h[b]?=some (.cells (tc t) .live)):aW C.P h 3 (.ptr b 0)=some (.int .i64 t.kind)/\aW C.P h 9 (.ptr b 1)=some (.str t.name)/\aW C.P h 3 (.ptr b 2)=some (.int .i64 t.sort)/\aW C.P h 37 (.ptr b 3)=some (.isl (t.kids.map enc) .unk)/\aW C.P h 39 (.ptr b 0)=some (enc t):=by
 refine⟨?_,?_,?_,?_,?_⟩
 ·simp[aW,hb,aZ,a3,s3,tc]
 ·simp[aW,hb,aZ,a9,s9,tc]
 ·simp[aW,hb,aZ,a3,s3,tc]
 ·simp[aW,hb,aZ,a23,s23,tc]
 simp[aW,hb,aZ,a25,s25,tc];rw[bE];rfl
def UU:AV->Option AV
 |.ptr i n=>some (.ptr i n)
 |.iptr e n=>some (.iptr e n)
 |.func f c=>some (.func f c)
 |_=>none
@[go_sem] theorem XP (i n:Nat):UU (.ptr i n)=some (.ptr i n):=(rfl)
@[go_sem] theorem Vx {C:Cfg}{cf:FuncId}{ops:Array Oper}{d:Tmp}{ty:TypeId}{p:String}{af:Array Edge}{l:List Oper}{s:PT}{h:H}{K:PT->H->Prop}(x:Operand) :
  OW C cf ops (⟨some d,.nilCheck x,ty,p,af,none⟩::l) s h K↔bO (bi1 (ev s x) UU) λv=>OW C cf ops l (s.set d v) h K:=OWn (by simp only[opN,bi1,UU];cases ev s x<;>first|rfl|(rename_i c;cases c<;>rfl)) rfl rfl
theorem wq(t:T):vg t=true↔(t.kind≠1/\t.kind≠2/\t.kind≠3)\/t.sort<0\/5<t.sort\/(t.kind≠1/\t.kind≠2/\t.sort≠0)\/((t.kind=1\/t.kind=2)/\0<t.kids.length):=by simp only[vg,bo,am,decide_eq_true_eq,or_assoc,and_assoc]
theorem Lz{t:T}(h:¬vg t=true):vg t=false:=by simpa using h
def ZU(t:T) (h0:H) (p q:Nat) (n d lvl:Int) (m:Nat) (s:PT) (h:H):Prop:=∃k:Nat,∃cur:Int,m=t.kids.length-k/\k<=t.kids.length/\Two h0 h p q (n+1+sizes (t.kids.take k)) cur /\
 s.get 1=.int .i64 lvl/\s.get 2=.ptr p 0/\s.get 3=.ptr q 0/\s.get 57=.isl (t.kids.map enc) .unk/\s.get 58=.int .i64 t.kids.length/\s.get 59=.int .i64 k/\mV (t.kids.drop k)=dS t /\
 lvl<=cur/\max cur (lvl+depths (t.kids.drop k))=max d (lvl+depths t.kids)
def Chk(t:T):Prop:=∀(h:H) (p q:Nat) (n d lvl:Int),p≠q->h[p]?=some (.cells [.int .i64 n] .live)->h[q]?=some (.cells [.int .i64 d] .live)->0<=n->n+t.size<1000000000->0<=d->d<1000000000->0<=lvl->lvl+t.size<1000000000 ->
 ∃r h',Go.V.Call C 247 [enc t,.int .i64 lvl,.ptr p 0,.ptr q 0] h=some (r,h')/\r=.int .i64 (dS t)/\∃n' d',Two h h' p q n' d'/\0<=n'/\n'<=n+t.size/\0<=d'/\d'<1000000000/\(dS t=0->n'=n+t.size/\d'=max d (lvl+t.depth-1))
theorem Om(t:T) (hc:∀k∈t.kids,Chk k):Chk t:=by
 intro h p q n d lvl hpq hp hq hn0 hn1 hd0 hd1 hl0 hl1;refine lC (Q:=λr h'=>r=.int .i64 (dS t)/\∃n' d',Two h h' p q n' d'/\0<=n'/\n'<=n+t.size/\0<=d'/\d'<1000000000/\(dS t=0->n'=n+t.size/\d'=max d (lvl+t.depth-1))) rfl func247 rfl k_ (by simp[f247]) λR hR=>?_
 have hpl:=(aB.1 hp).1;have hql:=(aB.1 hq).1;have hsz:=size_kids t;have hlen:=len_sizes t.kids;have hde:=wX t;have hdl:=(wW t).1;have hne:=qk t;have T0:Two h (h++[.cells (tc t) .live]) p q n d:=Two.push ⟨aR _,λi _ _ _=>rfl,hp,hq⟩ hpl hql _;have hb0:(h++[.cells (tc t) .live])[h.length]?=some (.cells (tc t) .live):=s_;obtain⟨g0,hg0⟩:∃g,g=h++[.cells (tc t) .live]:=⟨_,rfl⟩
 have bx:nR C.P h 39 (enc t)=some (.ptr h.length 0,g0):=by rw[kf,hg0];rfl
 rw[<-hg0]at T0 hb0;have w1:IntKind.i64.wrap (n+1)=n+1:=av o_;have T1:Two h (g0.set p (.cells [.int .i64 (n+1)] .live)) p q (n+1) d:=by have⟨a1,a2,a3,a4⟩:=T0;exact⟨by simpa using a1,λi hi h1 h2=>by rw[aE (λe=>h1 e.symm)];exact a2 i hi h1 h2,aH o_,by rw[aE hpq];exact a4⟩
 have hb1:(g0.set p (.cells [.int .i64 (n+1)] .live))[h.length]?=some (.cells (tc t) .live):=by rw[aE o_];exact hb0
 have e1:=NZ (_st:=.live) T0.2.2.1;have e2:=QD (n+1) T0.2.2.1;obtain⟨g1,hg1⟩:∃g,g=g0.set p (.cells [.int .i64 (n+1)] .live):=⟨_,rfl⟩
 rw[<-hg1]at T1 hb1 e2;have e3:=NZ (_st:=.live) T1.2.2.2;have e4:=QD (max d lvl) T1.2.2.2;have T2:Two h (g1.set q (.cells [.int .i64 (max d lvl)] .live)) p q (n+1) (max d lvl):=by have⟨a1,a2,a3,a4⟩:=T1;exact⟨by simpa using a1,λi hi h1 h2=>by rw[aE (λe=>h2 e.symm)];exact a2 i hi h1 h2,by rw[aE (λe=>hpq e.symm)];exact a3,aH o_⟩
 have hb2:(g1.set q (.cells [.int .i64 (max d lvl)] .live))[h.length]?=some (.cells (tc t) .live):=by rw[aE o_];exact hb1
 obtain⟨g2,hg2⟩:∃g,g=g1.set q (.cells [.int .i64 (max d lvl)] .live):=⟨_,rfl⟩
 rw[<-hg2]at T2 hb2 e4;have⟨l1,l2,l3,l4,_⟩:=aAu hb2;have c1:=SB t.name;have fin:∀e,jQ t=e->e≠0->dS t=e:=λe h1 h2=>by rw[hne,h1];simp[thn,h2]
 have out:∀(s:PT),(s.get 8=.int .i64 (dS t))->dS t≠0->R .ret s g2:=λs hs hz=>by refine hR _ _ _ (.inr rfl) ⟨.int .i64 (dS t),by simp[aY,cC,f247,hs],rfl,n+1,max d lvl,T2,o_,o_,o_,o_,λe=>absurd e hz⟩
 have kk:t.kind=1\/t.kind=2\/t.kind=3\/(t.kind≠1/\t.kind≠2/\t.kind≠3):=o_;have bad1:vg t=true->dS t=1:=λhb=>fin 1 (by simp[jQ,hb]) s_
 rcases kk with hk|hk|hk|⟨hk1,hk2,hk3⟩
 rotate_left 3
 ·have hb:=bad1 ((wq t).2 (.inl ⟨hk1,hk2,hk3⟩));simp +contextual [go_sem,bx,e1,e2,e3,e4,w1,DB,l1,hk1,hk2,hk3];exact out _ (by simp[go_sem,hb]) (by rw[hb];simp)
 all_goals
  simp +contextual [go_sem,bx,e1,e2,e3,e4,w1,DB,l1,l3,l4,dX,hk];refine Ife_iff.2 ⟨λh1=>?_,λh1=>?_⟩
  ·have hb:=bad1 ((wq t).2 o_);simp[go_sem];exact out _ (by simp[go_sem,hb]) (by rw[hb];simp)
  have hnb:=Lz (t:=t) (λhb=>by have:=(wq t).1 hb;omega);simp +contextual [go_sem,l2,c1];refine Ife_iff.2 ⟨λh2=>?_,λh2=>?_⟩
  ·have hb:=fin 2 (by simp[jQ,hnb,h2]) s_;simp[go_sem];exact out _ (by simp[go_sem,hb]) (by rw[hb];simp)
  simp at h2;simp +contextual [go_sem,l4,dX];refine Ife_iff.2 ⟨λh3=>?_,λh3=>?_⟩
  ·have hb:=fin 3 (by simp[jQ,hnb,h2,show 8<t.kids.length by omega]) s_;simp[go_sem];exact out _ (by simp[go_sem,hb]) (by rw[hb];simp)
  have hn0':jQ t=0:=by simp[jQ,hnb,h2,show ¬8<t.kids.length by omega]
  simp +contextual [go_sem,l4,dX];refine bL (ZU t h p q n d lvl) t.kids.length ⟨0,max d lvl,rfl,aN _,by simpa[sizes]using T2,g_,g_,g_,g_,g_,g_,by rw[hne,hn0'];rfl,o_,by simp only[dO];omega⟩ ?_;rintro m s hh ⟨k,cur,rfl,hkl,TT,g1',g2',g3',g57,g58,g59,hd,hcl,hcm⟩;by_cases hlt:k<t.kids.length
  ·have hlt':(k:Int)<t.kids.length:=o_;have hix:=kM t.kids k hlt .unk;have t1:=take_sizes hlt;have t2:=take_sizes_le t.kids (k+1);have ksz:=kid_size (aF hlt);have w2:=wS k o_;have w3:IntKind.i64.wrap (lvl+1)=lvl+1:=av o_;have TT':=TT.push hpl hql [.cells [.int .i64 t.kids[k].kind,.str t.kids[k].name,.int .i64 t.kids[k].sort,aM t.kids[k].kids] .live];obtain⟨hz,ehz⟩:∃g,g=hh++[.cells [.int .i64 t.kids[k].kind,.str t.kids[k].name,.int .i64 t.kids[k].sort,aM t.kids[k].kids] .live]:=⟨_,rfl⟩
   rw[<-ehz]at TT';have hpl':p<hz.length:=by have:=TT'.1;omega
   have hql':q<hz.length:=by have:=TT'.1;omega
   obtain⟨r,h',cc,rfl,n',d',T3,u1,u2,u3,u4,u5⟩:=hc _ (aF hlt) hz p q (n+1+sizes (t.kids.take k)) cur (lvl+1) hpq TT'.2.2.1 TT'.2.2.2 o_ o_ o_ o_ o_ o_;have cv:=(gQ (f:=247) k_ rfl).trans cc;rw[ehz]at cv;have T4:=Two.trans hpl hql TT' T3;rw[aI hlt,mV]at hd;rw[aI hlt,depths]at hcm;have kdl:=wW t.kids[k];by_cases h4:dS t.kids[k]=0
   ·rw[h4]at hd cv
    obtain⟨u6,u7⟩:=u5 h4
    simp[go_sem,g1',g2',g3',g57,g58,g59,hlt',hix,gd,Jt,CD,-Int.natCast_add,w2,w3,cv]
    exact⟨t.kids.length-(k+1),by omega,k+1,d',rfl,hlt,by rw[show n+1+sizes (t.kids.take (k+1))=n' by omega];exact T4,by simp[go_sem,g1'],by simp[go_sem,g2'],by simp[go_sem,g3'],by simp[go_sem,g57],by simp[go_sem,g58],by simp[go_sem],hd,by omega,by omega⟩
   have hne2:dS t.kids[k]=dS t:=by rw[<-hd];simp[thn,h4]
   simp[go_sem,g1',g2',g3',g57,g58,g59,hlt',hix,gd,Jt,CD,-Int.natCast_add,w3,cv,h4];refine hR _ _ _ (.inr rfl) ⟨.int .i64 (dS t),by simp[aY,cC,f247,go_sem,hne2],rfl,_,_,T4,o_,o_,o_,o_,λe=>absurd (hne2.trans e) h4⟩
  have:k=t.kids.length:=o_;subst this;rw[ah]at TT;rw[ae,depths]at hcm;rw[ae,mV]at hd;simp[go_sem,g58,g59];refine hR _ _ _ (.inr rfl) ⟨.int .i64 (dS t),by simp[aY,cC,f247,go_sem,<-hd],rfl,_,_,TT,o_,o_,o_,o_,λ_=>⟨o_,o_⟩⟩
theorem De(t:T):Chk t:=by
 induction t using T.ind with
 |_ t a=>exact Om t a
theorem yP(t:T) (l:List VObj):aW C.P (.cells [.int .i64 t.kind,.str t.name,.int .i64 t.sort,.isl (t.kids.map enc) .unk] .live::l) 39 (.ptr 0 0)=some (enc t):=by simp[aW,aZ,a25,s25];rw[bE];rfl
theorem Nf(x:VObj) (t:T) (l:List VObj):aW C.P (x::.cells [.int .i64 t.kind,.str t.name,.int .i64 t.sort,.isl (t.kids.map enc) .unk] .live::l) 39 (.ptr 1 0)=some (enc t):=by simp[aW,aZ,a25,s25];rw[bE];rfl
@[go_sem] theorem aCA (k s:Int) (n x:AV) (l:List VObj):aW C.P (.cells [.int .i64 k,n,.int .i64 s,x] .live::l) 3 (.ptr 0 0)=some (.int .i64 k):=by simp[aW,aZ,a3,s3]
@[go_sem] theorem aB9 (k s:Int) (n x:AV) (l:List VObj):aW C.P (.cells [.int .i64 k,n,.int .i64 s,x] .live::l) 3 (.ptr 0 2)=some (.int .i64 s):=by simp[aW,aZ,a3,s3]
@[go_sem] theorem aB8 (k s:Int) (n x:AV) (y:VObj) (l:List VObj):aW C.P (y::.cells [.int .i64 k,n,.int .i64 s,x] .live::l) 3 (.ptr 1 0)=some (.int .i64 k):=by simp[aW,aZ,a3,s3]
@[go_sem] theorem aB7 (k s:Int) (n x:AV) (y:VObj) (l:List VObj):aW C.P (y::.cells [.int .i64 k,n,.int .i64 s,x] .live::l) 3 (.ptr 1 2)=some (.int .i64 s):=by simp[aW,aZ,a3,s3]
@[go_sem] theorem zv3:iH C.P 3=some (.int .i64 0):=k_
@[go_sem] theorem Wf (v:Int):(AV.int .i64 v).cells=[.int .i64 v]:=(rfl)
theorem MM(t:T) (hs:t.size<4000000):az C 192 [enc t]=some (.int .i64 (bh t)):=by
 refine ay func192 rfl λR b=>?_
 obtain⟨r,o,i,rfl,q,s,c,u,v,w,y,j⟩:=De t [.cells (tc t) .live,.cells [.int .i64 0] .live,.cells [.int .i64 0] .live] 1 2 0 0 1 o_ rfl rfl o_ o_ o_ o_ o_ o_;have d:=(gQ (f:=247) k_ rfl).trans i;have k:=NZ (_st:=.live) c.2.2.1;have l:=NZ (_st:=.live) c.2.2.2;have m:=wW t;simp only[tc]at d;have e:=λx:VObj=>QD (h:=[x,.cells [.int .i64 0] .live,.cells [.int .i64 0] .live]) (p:=1) (x:=.int .i64 0) 0 rfl
 have g:=λx:VObj=>QD (h:=[x,.cells [.int .i64 0] .live,.cells [.int .i64 0] .live]) (p:=2) (x:=.int .i64 0) 0 rfl
 simp only[List.set]at e g;simp +contextual [go_sem,aM,yP,d,e,g];refine Ife_iff.2 ⟨λa=>?_,λa=>?_⟩
 ·simp[go_sem];refine b ⟨_,rfl,?_⟩;simp[go_sem,bh,thn,a];exact aK rfl rfl
 simp only[Decidable.not_not]at a;have⟨z,A⟩:=j a;simp +contextual [go_sem,k,l];refine Ife_iff.2 ⟨λn=>?_,λn=>?_⟩
 ·simp[go_sem];refine b ⟨_,rfl,?_⟩;simp[go_sem,bh,thn,a,show 400<t.size\/40<t.depth by omega];exact aK rfl rfl
 simp[go_sem];refine b ⟨_,rfl,?_⟩;simp[go_sem,bh,thn,a,show ¬(400<t.size\/40<t.depth) by omega];exact aK rfl rfl
theorem Du(t:T) (hs:t.size<4000000) (h:H):ak C h (.func 192 []) (some [enc t])=some (.int .i64 (bh t),h):=aX (cg _) (by simp[aq]) s_ (MM t hs)
theorem G9{t:T}(h:bh t=0):t.kind=1\/t.kind=2\/t.kind=3:=by
 by_cases a:t.kind=1\/t.kind=2\/t.kind=3
 ·exact a
 have b:vg t=true:=(wq t).2 (.inl o_);have c:dS t=1:=by rw[qk];simp[jQ,b,thn]
 simp[bh,c,thn]at h
def sT(a b:T):Bool:=decide (bh a=0)&&decide (bh b=0)&&decide (a.kind=1)&&(decide (a.sort=0)||(decide (b.kind≠3)&&decide (b.sort=a.sort)))
theorem Zr(a b:T) (hs:a.size<4000000) (hb:b.size<4000000):az C 219 [enc a,enc b]=some (.bool (sT a b)):=by
 refine ay func219 rfl λR d=>?_
 have e:=Du a hs;have f:=Du b hb;simp +contextual [go_sem,aM,yP,Nf,e,f];refine Ife_iff.2 ⟨λc=>?_,λc=>?_⟩
 ·simp +contextual [go_sem];refine d ⟨_,rfl,?_⟩;have:sT a b=false:=by simp only[sT,kJ,decide_eq_false_iff_not];omega
  simp[go_sem,this];exact aK rfl rfl
 simp +contextual [go_sem];refine d ⟨_,rfl,?_⟩;simp[go_sem];have:sT a b=(decide (a.sort=0) || !decide (b.kind=3)&&decide (b.sort=a.sort)):=by simp only[not_or,Decidable.not_not]at c;simp[sT,c]
 rw[this];exact aK rfl rfl
theorem Ah(t:T) (n:Int):jd [enc t,.int .i64 n]=some [enc t,.int .i64 n]:=by rw[bE];rfl
theorem mC(n:Int):short (.int .i64 n)=true:=rfl
theorem Qp(t:T) (n:Int):az C 77 [enc t,.int .i64 n]=some (.bool ((decide (t.kind=1)||decide (t.kind=2))&&decide (t.sort=n))):=by
 refine ay func77 rfl λR a=>?_
 simp +contextual [go_sem,kC,aM];refine a ⟨_,rfl,?_⟩;simp[go_sem];exact aK rfl rfl
theorem SA(t:T) (n:Int) (h:H):ak C h (.func 77 []) (some [enc t,.int .i64 n])=some (.bool ((decide (t.kind=1)||decide (t.kind=2))&&decide (t.sort=n)),h):=aX (Ah _ _) (by simp[aq,mC]) s_ (Qp t n)
theorem RJ(a b:T) (hs:a.size<4000000) (hb:b.size<4000000):az C 40 [enc a,enc b]=some (.bool (sT a b)):=by
 refine ay func40 rfl λR e=>?_
 have f:=lq a hs;have g:=lq b hb;simp +contextual [go_sem,aM,yP,Nf,f,g];refine Ife_iff.2 ⟨λc=>?_,λc=>?_⟩
 ·simp +contextual [go_sem];refine e ⟨_,rfl,?_⟩;have:sT a b=false:=by simp only[sT,kJ,decide_eq_false_iff_not];omega
  simp[go_sem,this];exact aK rfl rfl
 simp +contextual [go_sem,Nf,SA];refine e ⟨_,rfl,?_⟩;simp[go_sem];have d:bh b=0:=o_;have h:=G9 d;have:sT a b=(decide (a.sort=0)||(decide (b.kind=1)||decide (b.kind=2))&&decide (b.sort=a.sort)):=by simp only[not_or,Decidable.not_not]at c;rcases h with k|k|k<;>simp[sT,c,k]
 rw[this];exact aK rfl rfl
theorem SL(a b:T) (hs:a.size<4000000) (hb:b.size<4000000) (h:H):ak C h (.func 40 []) (some [enc a,enc b])=some (.bool (sT a b),h):=aX (jU _ _) (by simp[aq]) s_ (RJ a b hs hb)
mutual
def jE:T->Int->Int
 |.mk _ nm _ l,n=>if n<=0\/40<(nm.size:Int)then -1 else gU l (n-1)
def gU:Lq->Int->Int
 |[],n=>n
 |t::l,n=>if jE t n<0 then -1 else gU l (jE t n)
end
theorem xt(t:T) (n:Int):jE t n=if n<=0\/40<(t.name.size:Int)then -1 else gU t.kids (n-1):=by cases t;rw[jE];rfl
theorem Ay{l:Lq}(ih:∀t∈l,∀n:Int,-1<=jE t n/\(0<=jE t n->jE t n+t.size=n)):∀n:Int,-1<=n->-1<=gU l n/\(0<=gU l n->gU l n+sizes l=n):=by
 induction l with
 |nil=>intro n c;rw[gU,sizes];exact⟨c,λ_=>o_⟩
 |cons a l b=>
  intro n c;have d:=ih a s_ n;have e:=b (λt f=>ih t (by simp[f])) (jE a n) d.1;rw[gU,sizes];split
  ·exact⟨o_,λh=>o_⟩
  exact⟨e.1,λh=>by have:=e.2 h;have:=d.2 o_;omega⟩
theorem ve(t:T):∀n:Int,-1<=jE t n/\(0<=jE t n->jE t n+t.size=n):=by
 induction t using T.ind with
 |_ t b=>
  intro n;rw[xt];split
  ·exact⟨o_,λh=>o_⟩
  rename_i h;have a:=Ay b (n-1) o_;have:=size_kids t;exact⟨a.1,λh=>by have:=a.2 h;omega⟩
theorem nx(l:Lq) (n:Int) (hn:-1<=n):-1<=gU l n/\(0<=gU l n->gU l n+sizes l=n):=Ay (λt _=>ve t) n hn
def aBr(t:T) (n0:Int) (m:Nat) (s:PT) (h:H):Prop:=∃k:Nat,∃n:Int,m=t.kids.length-k/\k<=t.kids.length/\h=[.cells (tc t) .live]/\s.get 2=.ptr 0 0/\s.get 1=.int .i64 n/\s.get 5=.int .i64 k/\0<=n/\n+k<=n0/\gU (t.kids.drop k) n=jE t n0
def sX(l:Lq) (c n:Int):Bool:=decide ((l.length:Int)<=c)&&decide (0<=gU l n)
def NI9(l:Lq) (n0:Int) (m:Nat) (s:PT) (h:H):Prop:=∃k:Nat,∃n:Int,m=l.length-k/\k<=l.length/\h=[]/\s.get 0=aM l/\s.get 2=.int .i64 n/\s.get 7=.int .i64 k/\0<=n/\n+k<=n0/\gU (l.drop k) n=gU l n0
theorem Ro(l:Lq) (c n:Int):jd [aM l,.int .i64 c,.int .i64 n]=some [aM l,.int .i64 c,.int .i64 n]:=rfl
theorem EK(l:Lq):short (aM l)=true:=rfl
def bS(b:T × T):AV:=.agg [.int .i64 b.1.kind,.str b.1.name,.int .i64 b.1.sort,aM b.1.kids,.int .i64 b.2.kind,.str b.2.name,.int .i64 b.2.sort,aM b.2.kids]
def binds(l:Lb):AV:=.isl (l.map bS) .unk
theorem u46:C.P.underlying 45=some (.slice 84):=underlying45
theorem s86:cr C.P 84=some 8:=k_
theorem s46:cr C.P 45=some 1:=k_
theorem a86:fJ C.P 84=some true:=k_
theorem a46:fJ C.P 45=some false:=k_
attribute [go_sem] u46 s86 s46 a86 a46
theorem HR(i:Nat):bF C.P 84 (.ptr i 0) 0=some (.ptr i 0):=k_
theorem U8(i:Nat):bF C.P 84 (.ptr i 0) 1=some (.ptr i 4):=k_
theorem py(e:AV):bF C.P 84 (.iptr e 0) 0=some (.iptr e 0):=k_
theorem zN(e:AV):bF C.P 84 (.iptr e 0) 1=some (.iptr e 4):=k_
attribute [go_sem] HR U8 py zN
theorem aAJ:iH C.P 84=some (.agg [.int .i64 0,.str ⟨#[]⟩,.int .i64 0,.isl [] .full,.int .i64 0,.str ⟨#[]⟩,.int .i64 0,.isl [] .full]):=k_
attribute [go_sem] aAJ
theorem mW(es:LA) (x:Ext):fB C.P 45 (.isl es x)=some (.int .i64 es.length):=by simp[fB,u46]
theorem sS(l:Lb) (k:Nat) (hk:k<l.length) (x:Ext):bH C.P 45 (.isl (l.map bS) x) (.int .i64 k)=some (.iptr (bS l[k]) 0):=by simp[bH,u46,s86,bS,aV,hk]
theorem G8(b:T × T) (h:H):aW C.P h 84 (.iptr (bS b) 0)=some (bS b):=by simp[aW,aZ,a86,s86,bS,aV]
theorem kH(b:T × T) (h:H):aW C.P h 39 (.iptr (bS b) 0)=some (enc b.1):=by simp[aW,aZ,a25,s25,bS,aV];rw[bE]
theorem nI(b:T × T) (h:H):aW C.P h 39 (.iptr (bS b) 4)=some (enc b.2):=by simp[aW,aZ,a25,s25,bS,aV];rw[bE]
theorem PC(b:T × T) (h:H):nR C.P h 84 (bS b)=some (.ptr h.length 0,h++[.cells (bS b).cells .live]):=by simp[nR,bS,aV,s86,bf]
theorem lb0(b:T × T) (h:H):aW C.P (h++[.cells (bS b).cells .live]) 39 (.ptr h.length 0)=some (enc b.1):=by simp[aW,aZ,a25,s25,bS,aV];rw[bE]
theorem lb4(b:T × T) (h:H):aW C.P (h++[.cells (bS b).cells .live]) 39 (.ptr h.length 4)=some (enc b.2):=by simp[aW,aZ,a25,s25,bS,aV];rw[bE]
theorem lbk(b:T × T) (h:H):aW C.P (h++[.cells (bS b).cells .live]) 3 (.ptr h.length 0)=some (.int .i64 b.1.kind):=by simp[aW,aZ,a3,s3,bS,aV]
def tt(b:T × T):Int:=thn (bh b.1) (if b.1.kind≠1\/b.1.cmp b.2=0 then 1 else thn (bh b.2) (if sT b.1 b.2 then 0 else 10))
theorem Uy(b:T × T):aW C.P [.cells (bS b).cells .live] 39 (.ptr 0 0)=some (enc b.1):=lb0 b []
theorem Ux(b:T × T):aW C.P [.cells (bS b).cells .live] 39 (.ptr 0 4)=some (enc b.2):=lb4 b []
theorem aAy(b:T × T):aW C.P [.cells (bS b).cells .live] 3 (.ptr 0 0)=some (.int .i64 b.1.kind):=lbk b []
theorem OU(b:T × T):jd [bS b]=some [bS b]:=rfl
theorem Gc(b:T × T):short (bS b)=true:=rfl
def small(l:Lb):Prop:=∀b∈l,b.1.size<4000000/\b.2.size<4000000
def later:Option T->T->Bool
 |none,_=>false
 |some q,v=>decide (0<=q.cmp v)
def pk:Option T->Lb->Int
 |_,[]=>0
 |p,b::l=>thn (tt b) (if later p b.1=true then 5 else pk (some b.1) l)
def mR(l:Lb):Int:=if 200<l.length then 3 else pk none l
def prev(l:Lb) (k:Nat):Option T:=if k=0 then none else(l[k-1]?).map (·.1)
theorem Bv{l:Lb}{k:Nat}(hk:k<l.length):prev l (k+1)=some l[k].1:=by simp[prev,hk]
def aBp(l:Lb) (n:Nat) (s:PT) (h:H):Prop:=∃k:Nat,n=l.length-k/\k<=l.length/\h=[]/\s.get 0=binds l/\s.get 3=.int .i64 k/\pk (prev l k) (l.drop k)=pk none l
theorem LL(l:Lb):jd [binds l]=some [binds l]:=rfl
theorem np(l:Lb):short (binds l)=true:=rfl
theorem b25:hG C.P 39=some 56:=k_
theorem z25:gH C.P 39=true:=k_
@[go_sem] theorem aCQ:ii C.P 37=some 39:=k_
theorem sh(l:Lq):gn 4 (l.map enc)=true:=by cases l<;>simp[gn,au]
theorem eW{h:H}{v:AV}{xs ys:Lq}{x:Ext}(o:OwnR 39 h v (xs.map enc)) (hl:xs.length+ys.length<=100000000000) :
  ∃v' h',bu C.P false h 37 v (.isl (ys.map enc) x)=some (v',h')/\OwnR 39 h' v' ((xs++ys).map enc)/\Keep h h' (bv v)/\(bv v'=bv v\/bv v=none/\bv v'=some h.length):=by
 have:=jG (x:=x) u23 s25 b25 z25 rfl o (sh xs) (sh ys) (by simp only[aU];omega);rwa[<-br]at this
theorem CR(l:Lq):jd (l.map enc)=some (l.map enc):=by
 induction l with
 |nil=>rfl
 |cons a l b=>simp only[aS,jd,b,qx]
@[go_sem] theorem fi (a:T):bf (enc a)=true:=by rw[bE];rfl
theorem Lv(h:H) (a b:T):cI C.P h 37 2 [(0,enc a),(1,enc b)]=some (.isl [enc a,enc b] .full,h):=cG u23 s25 z25 rfl o_ rfl (CR [a,b]) (by simp[aq]) s_ (by simp[rn,au,fi])
theorem dp(h:H) (a:T):cI C.P h 37 1 [(0,enc a)]=some (.isl [enc a] .full,h):=cG u23 s25 z25 rfl o_ rfl (CR [a]) (by simp[aq]) s_ (by simp[rn,au,fi])
theorem OT(l:Lq) (x:Ext) (c n:Int):jd [.isl (l.map enc) x,.int .i64 c,.int .i64 n]=some [aM l,.int .i64 c,.int .i64 n]:=rfl
def uy(l:Lb):Lq:=l.flatMap λb=>[b.1,b.2]
theorem HL{l:Lb}{k:Nat}(hk:k<l.length):uy (l.take (k+1))=uy (l.take k)++[l[k].1,l[k].2]:=by rw[<-dL hk,uy,eP];simp[uy]
theorem K3(l:Lb):(uy l).length=2*l.length:=by
 induction l with
 |nil=>rfl
 |cons a l b=>simp only[uy,cF,aL]at b ⊢;rw[b];simp;omega
def HP(l:Lb) (c n:Int):Bool:=sX (uy l) (2*c) n
def aBs(l:Lb) (c n:Int) (m:Nat) (s:PT) (h:H):Prop:=∃k:Nat,m=l.length-k/\k<=l.length/\s.get 0=binds l/\s.get 1=.int .i64 c/\s.get 2=.int .i64 n/\s.get 8=.int .i64 k/\OwnR 39 h (s.get 7) ((uy (l.take k)).map enc)
def fk:Lb->T->T
 |[],v=>v
 |b::l,v=>if b.1.cmp v=0 then b.2 else fk l v
theorem rp(l:Lb) (t:T):jd [binds l,enc t]=some [binds l,enc t]:=by rw[bE];rfl
def zc:LA:=[.int .i64 0,.str ⟨#[]⟩,.int .i64 0,.isl [] .full]
def ZZ(l:Lb) (v:T) (m:Nat) (s:PT) (h:H):Prop:=∃k:Nat,m=l.length-k/\k<=l.length/\s.get 0=binds l/\s.get 3=.ptr 0 0/\s.get 4=.ptr 1 0/\s.get 5=.int .i64 k/\h=[.cells (tc v) .live,.cells zc .live]/\fk (l.drop k) v=fk l v
theorem Mb(t:T) (a b c d:AV) (x:VObj):cL C.P [x,.cells [a,b,c,d] .live] 39 (.ptr 1 0) (enc t)=some [x,.cells (enc t).cells .live]:=by simp[cL,s25,au];rw[bE];rfl
theorem U5(l:Lb) (v:T) (hs:small l) (hv:v.size<4000000) (hl:l.length<4000000):az C 86 [binds l,enc v]=some (enc (fk l v)):=by
 refine ay func86 rfl λR o=>?_
 simp[go_sem,aM];refine bL (ZZ l v) l.length ⟨0,rfl,aN _,g_,g_,g_,g_,rfl,rfl⟩ ?_;rintro m s h ⟨k,rfl,u,c,j,n,f,rfl,b⟩;simp only[binds]at c;have fin:∀(s:PT) (t:T) (x:VObj),s.get 4=.ptr 1 0->t=fk l v->R .ret s [x,.cells (enc t).cells .live]:=λs t x hs p=>by
  refine o ⟨enc t,?_,?_⟩
  ·simp[aY,cC,f86,hs,aW,aZ,a25,s25,au];rw[bE]
  rw[<-p];exact aK (qx t) (aq t)
 by_cases a:k<l.length
 ·have d:(k:Int)<l.length:=o_;have e:=sS l k a .unk;have g:=hs _ (aF a);have q:=wS k o_;have r:=lr l[k].1 v g.1 hv;rw[aI a,fk]at b;simp[go_sem,c,j,f,mW,d,e,kH,tc,zc,yP,r,-Int.natCast_add];refine Ife_iff.2 ⟨λi=>?_,λi=>?_⟩
  ·rw[if_pos i]at b;simp[go_sem,c,n,f,e,nI,Mb];exact fin _ _ _ g_ b
  rw[if_neg i]at b;simp[go_sem,f,-Int.natCast_add,q];exact⟨l.length-(k+1),o_,k+1,rfl,a,by simp[go_sem,c,binds],g_,g_,g_,rfl,b⟩
 have:k=l.length:=o_;subst this;rw[ae,fk]at b;simp[go_sem,c,j,n,f,mW,tc,zc,yP,Mb];exact fin _ _ _ g_ b
theorem SQ(l:Lb) (v:T) (hs:small l) (hv:v.size<4000000) (hl:l.length<4000000) (h:H):ak C h (.func 86 []) (some [binds l,enc v])=some (enc (fk l v),h):=aX (rp _ _) (by simp[np,aq]) s_ (U5 l v hs hv hl)
mutual
def dK(l:Lb):T->T
 |.mk k n s m=>if k=1 then fk l (.mk k n s m)else .mk k n s (Ie l m)
def Ie(l:Lb):Lq->Lq
 |[]=>[]
 |t::m=>dK l t::Ie l m
end
theorem Br(l:Lb):∀m,Ie l m=m.map (dK l)
 |[]=>rfl
 |t::m=>by rw[Ie,Br l m];rfl
theorem jM(l:Lb) (t:T):dK l t=if t.kind=1 then fk l t else .mk t.kind t.name t.sort (t.kids.map (dK l)):=by cases t;rw[dK,Br];rfl
def aBn(l:Lb) (t:T) (m:Nat) (s:PT) (h:H):Prop:=∃k:Nat,∃v:AV,m=t.kids.length-k/\k<=t.kids.length/\s.get 0=binds l/\s.get 3=.ptr 0 0/\s.get 4=.ptr 1 0/\s.get 5=.ptr 2 0/\s.get 6=.int .i64 k/\h[0]?=some (.cells (tc t) .live)/\h[1]?=some (.cells zc .live)/\h[2]?=some (.cells [.int .i64 t.kind,.str t.name,.int .i64 t.sort,v] .live) /\
 OwnR 39 h v (((t.kids.take k).map (dK l)).map enc)
theorem TE(t:T) (a b c d:AV) (x y:VObj):cL C.P [x,y,.cells [a,b,c,d] .live] 39 (.ptr 2 0) (enc t)=some [x,y,.cells (enc t).cells .live]:=by simp[cL,s25,au];rw[bE];rfl
theorem XJ(l:Lb) (t:T) (hs:small l) (hv:t.size<4000000) (hl:l.length<4000000) (hc:∀k∈t.kids,az C 50 [binds l,enc k]=some (enc (dK l k))):az C 50 [binds l,enc t]=some (enc (dK l t)):=by
 refine ay func50 rfl λR X=>?_
 have fin:∀(s:PT) (q:T) (h:H),s.get 4=.ptr 1 0->h[1]?=some (.cells (enc q).cells .live)->q=dK l t->R .ret s h:=λs q h hs hh ht=>by
  refine X ⟨enc q,?_,?_⟩
  ·simp[aY,cC,f50,hs,aW,hh,aZ,a25,s25,au];rw[bE]
  rw[<-ht];exact aK (qx q) (aq q)
 have c1:=SQ l t hs hv hl;have f:=jM l t;have q':=size_kids t;have Y:=len_sizes t.kids;simp[go_sem,aM];refine Ife_iff.2 ⟨λr=>?_,λr=>?_⟩
 ·rw[if_pos r]at f;simp[go_sem,yP,c1,Mb];exact fin _ _ _ g_ s_ f.symm
 rw[if_neg r]at f;have q1:∀(x y:VObj) (a b c:AV),cL C.P [x,y,.cells [a,b,c,.isl (t.kids.map enc) .unk] .live] 37 (.ptr 2 3) (.isl [] .full)=some [x,y,.cells [a,b,c,.isl [] .full] .live]:=λx y a b c=>by simp[cL,s23]
 simp[go_sem,yP,TE,au,aM,q1];refine bL (aBn l t) t.kids.length ⟨0,.isl [] .full,rfl,aN _,g_,g_,g_,g_,g_,rfl,rfl,rfl,.inl rfl⟩ ?_;rintro m s h ⟨k,v,rfl,hk,g0,F,Z,g5,G,I,E,w,u⟩;have J:aW C.P h 37 (.ptr 0 3)=some (.isl (t.kids.map enc) .unk):=by simp[aW,I,tc,aZ,a23,s23]
 have l2:aW C.P h 37 (.ptr 2 3)=some v:=by obtain⟨x,rfl⟩:=u.isl;simp[aW,w,aZ,a23,s23]
 by_cases g:k<t.kids.length
 ·have z:(k:Int)<t.kids.length:=o_;have K:=kM t.kids k g .unk;have w2:=wS k o_;have ck:∀h,ak C h (.func 50 []) (some [binds l,enc t.kids[k]])=some (enc (dK l t.kids[k]),h):=λh=>aX (rp _ _) (by simp[np,aq]) s_ (hc _ (aF g))
  have⟨A,L,ha,M,j,N⟩:=eW (ys:=[dK l t.kids[k]]) (x:=.full) u (by simp only[aU,ag,aG,aQ];omega);have O:(t.kids.take k).map (dK l)++[dK l t.kids[k]]=(t.kids.take (k+1)).map (dK l):=by rw[<-dL g,br];rfl
  rw[O]at M;simp only[aS,bD]at ha;have d:∀i,bv v=some i->i≠0/\i≠1/\i≠2:=λi n=>by
   rcases u with rfl|⟨id,rfl,o⟩
   ·cases n
   simp only[bv,aA]at n;subst n;exact⟨λe=>by(rw[e,I]at o;cases o),λe=>by(rw[e,E]at o;cases o),λe=>by(rw[e,w]at o;cases o)⟩
  have Q:=j.get I (λe=>(d _ e).1 rfl);have S:=j.get E (λe=>(d _ e).2.1 rfl);have B:=j.get w (λe=>(d _ e).2.2 rfl);have U:cL C.P L 37 (.ptr 2 3) A=some (L.set 2 (.cells [.int .i64 t.kind,.str t.name,.int .i64 t.sort,A] .live)):=by obtain⟨x,rfl⟩:=M.isl;simp[cL,B,s23]
  have V:OwnR 39 (L.set 2 (.cells [.int .i64 t.kind,.str t.name,.int .i64 t.sort,A] .live)) A (((t.kids.take (k+1)).map (dK l)).map enc):=M.keep (Keep.set _ _ _) (λi n e=>by
   rcases N with r|⟨r,h2⟩
   ·exact(d i (r▸n)).2.2 (by simpa using e.symm)
   have:=(aB.1 w).1;rw[h2]at n;simp only[aA]at n e;omega)
  have p:=(aB.1 B).1;simp[go_sem,F,G,J,dX,z,-Int.natCast_add];refine gS 8 _ (by simp[gM]) rfl ?_;simp[go_sem,g0,F,g5,G,J,l2,K,gd,ck,dp,ha,U,-Int.natCast_add,w2];refine⟨?_,t.kids.length-(k+1),o_,k+1,A,rfl,g,g_,g_,g_,g_,g_,?_,?_,?_,V⟩
  ·rcases u with rfl|⟨id,rfl,o⟩
   ·simp[go_sem,ij,iK,iO,kW,fL,ce]
   have:=d id rfl;simp[go_sem,ij,iK,iO,kW,fL,ce]
   (try omega)
  ·rw[aE o_];exact Q
  ·rw[aE o_];exact S
  rw[aH p]
 have:k=t.kids.length:=o_;subst this;rw[ah]at u;obtain⟨x,rfl⟩:=u.isl;have e5:aW C.P h 39 (.ptr 2 0)=some (.agg [.int .i64 t.kind,.str t.name,.int .i64 t.sort,.isl ((t.kids.map (dK l)).map enc) x]):=by simp[aW,w,aZ,a25,s25]
 have e6:cL C.P h 39 (.ptr 1 0) (.agg [.int .i64 t.kind,.str t.name,.int .i64 t.sort,.isl ((t.kids.map (dK l)).map enc) x])=some (h.set 1 (.cells [.int .i64 t.kind,.str t.name,.int .i64 t.sort,.isl ((t.kids.map (dK l)).map enc) x] .live)):=by simp[cL,E,s25,zc]
 have e7:=(aB.1 E).1;generalize D:AV.agg [.int .i64 t.kind,.str t.name,.int .i64 t.sort,.isl ((t.kids.map (dK l)).map enc) x]=zz at e5 e6;simp[go_sem,F,Z,g5,G,J,dX,e5,e6];refine X ⟨zz,?_,?_⟩
 ·simp[aY,cC,f50,go_sem,Z,aW,aH e7,aZ,a25,s25,<-D]
 rw[f,bE,<-D];exact aK rfl rfl
theorem KC(l:Lb) (hs:small l) (hl:l.length<4000000) (t:T):t.size<4000000->az C 50 [binds l,enc t]=some (enc (dK l t)):=by
 induction t using T.ind with
 |_ t b=>exact λc=>XJ l t hs c hl (λk a=>b k a (by have:=kid_size a;omega))
theorem Vd(l:Lb) (t:T) (hs:small l) (hv:t.size<4000000) (hl:l.length<4000000) (h:H):ak C h (.func 50 []) (some [binds l,enc t])=some (enc (dK l t),h):=aX (rp _ _) (by simp[np,aq]) s_ (KC l hs hl t hv)
def bQ(l:Lq):LA:=l.flatMap λt=>(enc t).cells
theorem ip(a:T) (l:Lq):bQ (a::l)=[.int .i64 a.kind,.str a.name,.int .i64 a.sort,aM a.kids]++bQ l:=by simp[bQ,au]
theorem eR(l:Lq):(bQ l).length=4*l.length:=by
 induction l with
 |nil=>rfl
 |cons a l b=>rw[ip,aL,b];simp;omega
theorem tf:∀ {a b a' b':LA},jd a=some a'->jd b=some b'->jd (a++b)=some (a'++b')
 |[],_,_,_,h1,h2=>by cases h1;exact h2
 |x::a,b,a',b',h1,h2=>by simp only[jd]at h1;cases hx:dat x<;>cases hy:jd a<;>simp only[hx,hy]at h1<;>cases h1;simp only[cP,jd,hx,tf hy h2]
theorem td(l:Lq):jd (bQ l)=some (bQ l):=by
 induction l with
 |nil=>rfl
 |cons a l b=>rw[ip];exact tf rfl b
theorem rI(l:Lq):(bQ l).all short=true:=by
 induction l with
 |nil=>rfl
 |cons a l b=>rw[ip,oM,b];rfl
def Row(h:H) (v:AV) (l:Lq):Prop:=(l=[]/\v=.isl [] .full)\/∃id,v=.msl id 0 4 l.length none/\h[id]?=some (.cells (bQ l) .live)
theorem Hr{f:FuncId}{h:H}{args args':LA}(hb:eE C.P f=true) (hm:C.mode f=.ownM) (hd:jd args=some args') (hs:args.all short=true) (hl:args.length<90000)
  {id len:Nat}{h1:H}{cs:LA}(hc:Go.V.Call C f args' []=some (.msl id 0 4 len none,h1)) (hid:h1[id]?=some (.cells cs .live)) (hcs:jd cs=some cs) (hsh:cs.all short=true) (hcl:cs.length<=90000) (hlen:len*4<=cs.length) :
  ak C h (.func f []) (some args)=some (.msl h.length 0 4 len none,h++[.cells cs .live]):=by
 have⟨a,b⟩:=eo (h:=h) hd hs dD (by unfold dD;omega);simp only[ak,hb,if_true,bm];unfold dM;rw[hm];dsimp only;rw[b];simp only[Go.V.freeze,a];rw[hc];dsimp only;unfold ky;dsimp only;have c:=(eo (h:=nJ h1 id) hcs hsh dD (by unfold dD;omega)).1;have d:ju C.P .ownM h1 h (.msl id 0 4 len none)=none:=by simp only[ju,oA,hid];rw[if_neg s_]
 rw[d];simp only[jZ,lF,hid,c];rw[if_pos ⟨o_,o_⟩]
theorem sD{l:Lq}{k:Nat}(hk:k<l.length):bQ l=bQ (l.take k)++(enc l[k]).cells++bQ (l.drop (k+1)):=by
 have e:l=l.take k++l[k]::l.drop (k+1):=by rw[<-aI hk,fF]
 have a:=congrArg bQ e;rw[a];unfold bQ;rw[eP,cF,List.append_assoc]
theorem AS{id n k:Nat}(hk:k<n):bH C.P 37 (.msl id 0 4 n none) (.int .i64 k)=some (.ptr id (4*k)):=by simp[bH,u23,s25,hk];omega
end Go.VZ
