/- A part of the proof. -/
import Derived.Test.YtclakfnjdnibeaaGreatDoorV9
set_option maxHeartbeats 1000000
namespace Go.V
open Go
section
variable {P:Program}{B:Nat}{A0:Nat->Nat->Prop}{σ:List (Option Nat)}{h:H}{w:World}
def er [DFlag] (P:Program) (B:Nat) (A0:Nat->Nat->Prop) (σ:List (Option Nat)) (h:H) (w:World) (r:AV) (h':H) (v:Value) (w':World):Prop:=
 ∃σ',HRel P B A0 σ' h' w'/\Step P B A0 σ h w σ' h' w'/\Rel P (Alw P B A0 σ' h') σ' h' w' r v
theorem vt{c:AV}{u:Value}(hh:cw c=some u):c.one=true:=by cases c<;>first|rfl|(simp[cw]at hh;done)
theorem iB{A:Nat->Nat->Prop}{c:AV}{u:Value}(hh:cw c=some u):IRel A w c u:=by cases c<;>simp only[cw,aA]at hh<;>first|(cases hh;done)|(subst hh;constructor)
theorem E9(hr:HRel P B A0 σ h w){x:AV}{ys:LA}{ux:Value}{sz:Nat}(hh:lp h x=some ys) (rx:Rel P (Alw P B A0 σ h) σ h w x ux) (hz:gn sz ys=true) (h0:0<sz) :
  ∃fl,Flat (Alw P B A0 σ h) w sz ys fl/\((ys=[]/\ux=.slice none 0 0)\/∃ad c,ux=.slice (some ad) ys.length c/\∀(j:Nat) v,fl[j]?=some v->w.cell? (ad.add j)=some v):=by
 unfold lp at hh;split at hh<;>try(cases hh;done)
 ·simp only[aA]at hh;subst hh;have⟨fl,Q,G⟩:=wQ (mT rx) hz h0;refine⟨fl,Q,?_⟩;rcases G with G|⟨a,s,S,_,_,U⟩
  ·exact .inl G
  exact .inr ⟨a,s,S,U⟩
 rename_i id f d len s;obtain⟨b,c,rfl,V,g2,E,g4,g5,g6,g7⟩:=kL rx;have t:∀l F,h[id]?=some (.cells l F)->F≠.dead->(if f+len*d<=l.length/\0<d/\oU l=true then some (io d len (l.drop f))else none)=some ys ->
   ∃fl,Flat (Alw P B A0 σ h) w sz ys fl/\((ys=[]/\Value.slice (some ⟨b,f,none⟩) len c=.slice none 0 0)\/∃ad y,Value.slice (some ⟨b,f,none⟩) len c=.slice (some ad) ys.length y/\∀(j:Nat) v,fl[j]?=some v->w.cell? (ad.add j)=some v):=by
  intro l F p I hh;split at hh<;>try(cases hh;done)
  rename_i X;simp only[aA]at hh;subst hh;have⟨b',z,Y,J,k2,Z,k4,k5,k6⟩:=hr.cells id l F p I;rw[V]at J;simp only[aA]at J;subst J;have g:∀c∈l.drop f,c.one=true:=λc A=>k5 c (dE A)
  have n:len*d<=(l.drop f).length:=by simp;omega
  have o:(io d len (l.drop f)).length=len:=rz _ _ _;have K:io d len (l.drop f)≠[]->d=sz:=λk=>by
   cases A:io d len (l.drop f)with
   |nil=>exact absurd A k
   |cons e es=>rw[A]at hz;simp only[gn,beq_iff_eq]at hz;rw[<-hz];exact((kc n E g (i:=0) (by rw[A];rfl)).2.1).symm
  by_cases k:io d len (l.drop f)=[]
  ·have:len=0:=by rw[k]at o;simpa using o.symm
   subst this;exact⟨[],⟨by simp[k],by simp[k],by simp[k],by simp[k]⟩,.inr ⟨_,c,by rw[o],s_⟩⟩
  have K:=K k;subst K;refine⟨(z.toList.drop f).take (len*d),⟨by simp[o];omega,λe r=>?_,λe r y m=>?_,λi j e y r m=>?_⟩,.inr ⟨_,c,by rw[o],λj v q=>?_⟩⟩
  ·obtain⟨i,D,rfl⟩:=bg r;exact(kc n E g (aC D)).2
  ·obtain⟨i,D,rfl⟩:=bg r;rw[(kc n E g (aC D)).1]at m;exact g y (dE (bW m))
  ·have⟨q1,q2,q3⟩:=kc n E g r;have D:i<len:=by have:=(aB.1 r).1;rwa[o]at this
   have hj:j<d:=by have:=(aB.1 m).1;rwa[q2]at this
   rw[q1,jo,if_pos hj,cE]at m;have L:i*d+j<len*d:=eG (by rw[gW];omega) (cQ d (show i+1<=len from D));have M:f+(i*d+j)<z.size:=o_;have N:=bI.1 X.2.2 y (ai m);have⟨u,O⟩:=dC.1 N;have q:z[f+(i*d+j)]?=some (z[f+(i*d+j)]):=aT M;have:=el O (k6 _ _ _ m q);refine⟨u,?_,iB O⟩;rw[cS,if_pos L,cE,bM,q,this]
  rw[cS]at q;split at q<;>try(cases q;done)
  rw[cE,bM]at q;rw[fV,cell_of_row w b _ z Y _ Z];exact q
 split at hh<;>try(cases hh;done)
 ·rename_i l p;exact t l _ p s_ hh
 rename_i l p;exact t l _ p s_ hh
theorem nh{t:TypeId}(hh:gH P t=true):∃i z,P.info? t=some i/\i.zero=some z/\z.cells.size=i.size:=by
 unfold gH at hh;split at hh<;>try(cases hh;done)
 rename_i i a;split at hh<;>try(cases hh;done)
 rename_i z b;exact⟨i,z,a,b,by simpa using hh⟩
theorem vK{t ty e:TypeId}{i:TypeInfo}(ht:P.underlying t=some (.slice e)) (hi:P.info? e=some i) (base bx:Option Addr) (n cap c:Nat) (hc:n<=cap) :
  (Builtin.append_ #[t,t] ty #[.slice base n cap,.slice bx 0 c]).run P w=.ok (.slice base n cap) w:=by
 cases base<;>cases bx<;>simp[Builtin.append_,bd ht,sizeOf,typeInfo,hi,Builtin.lenOf,Builtin.firstCells,loadCells,loadCellsFrom,hc,storeCells]
theorem qh{t ty e te:TypeId}{i:TypeInfo}(ht:P.underlying t=some (.slice e)) (hi:P.info? e=some i)
  (g o sLen sCap:Nat) (cur:Array Value) (hg:w.heap[g]?=some (.cells cur te (0,0)))
  (a:Addr) (m c:Nat) (news:List Value) (hl:news.length=m*i.size) (hnews:∀(j:Nat) u,news[j]?=some u->w.cell? (a.add j)=some u) (h1:∀u∈news,u.oneCell'=true)
  (hroom:sLen+m<=sCap) (hfit:o+sLen*i.size+news.length<=cur.size) :
  (Builtin.append_ #[t,t] ty #[.slice (some ⟨g,o,none⟩) sLen sCap,.slice (some a) m c]).run P w =
   .ok (.slice (some ⟨g,o,none⟩) (sLen+m) sCap) (w.setRow g (cur.toList.take (o+sLen*i.size)++news++cur.toList.drop (o+sLen*i.size+news.length)).toArray):=by
 have d:=run_firstCells_some (P:=P) w i.size m a m c news hl hnews;have b:=run_storeCells_at P g (o+sLen*i.size) te news 0 cur w hg (by simpa using hfit) h1;simp only[df]at b;simp[Builtin.append_,bd ht,sizeOf,typeInfo,hi,Builtin.lenOf,hroom,d,fV,b]
theorem uS{A:Nat->Nat->Prop}{σ':List (Option Nat)}{h':H}{w':World}{fl:List Value}{es:LA}{e:TypeId}{sz b cap t:Nat}{vs:Array Value}(f:Flat A w' sz es fl) (h0:0<sz) (hsz:cr P e=some sz)
  (hb:w'.heap[b]?=some (.cells vs e (0,0))) (hv:∀(k:Nat) x,fl[k]?=some x->vs[k]?=some x) (hcap:vs.size=cap*sz) (hc:es.length<=cap) (hm:cap<=maxLen)
  (hA:∀o,o<es.length*sz->A b o) (ht:h'[t]?=some (.tok es.length e)) (hs:σ'[t]?=some (some b)):Rel P A σ' h' w' (.isl es (.tok t)) (.slice (some ⟨b,0,none⟩) es.length cap):=by
 refine .tok (Cw f h0 hc hm (λk x a=>?_)) ⟨es.length,e,ht,aR _,λ_=>.inr ⟨b,cap,vs,sz,hs,rfl,⟨_,hb⟩,hsz,hcap,hc,hm⟩⟩;have c:k<fl.length:=(aB.1 a).1;rw[f.1]at c;rw[cH];exact⟨hA k c,by rw[cell_of_row w' b k vs e _ hb];exact hv k x a⟩
theorem kP(z:Array Value) (n:Nat):(Builtin.zeroCells z n).size=n*z.size:=by simp[Builtin.zeroCells]
theorem xp{n by_:Nat}(hb:n*(by_+1)<=35184372088832):n<=35184372088832/\n*by_<=140737488355328:=by rw[qH]at hb;have:0<=n*by_:=aN _;constructor<;>omega
theorem A5 [DFlag] (_:HRel P B A0 σ h w){t ty e:TypeId}{i:TypeInfo}{z:Value}(ht:P.underlying t=some (.slice e)) (hi:P.info? e=some i) (hz:i.zero=some z) (hzs:z.cells.size=i.size) (_:0<i.size)
  {xs ys:LA}{ux:Value}{u:Value}{fx fy:List Value}(fX:Flat (Alw P B A0 σ h) w i.size xs fx) (fY:Flat (Alw P B A0 σ h) w i.size ys fy) (hy:0<ys.length)
  (hu:(xs=[]/\u=.slice none 0 0)\/∃a cap,u=.slice (some a) xs.length cap/\cap<xs.length+ys.length/\∀(j:Nat) x,fx[j]?=some x->w.cell? (a.add j)=some x)
  (hx:∃ad c,ux=.slice (some ad) ys.length c/\∀(j:Nat) v,fy[j]?=some v->w.cell? (ad.add j)=some v)
  (hfit:(xs.length+ys.length)*(i.bytes+1)<=35184372088832) :
  ∃cap vs w',(Builtin.append_ #[t,t] ty #[u,ux]).run P w=.ok (.slice (some ⟨w.heap.size,0,none⟩) (xs.length+ys.length) cap) w'/\Grows w w'/\w'.heap[w.heap.size]?=some (.cells vs e (0,0)) /\
   vs.size=cap*i.size/\xs.length+ys.length<=cap/\cap<=maxLen/\∀(k:Nat) x,(fx++fy)[k]?=some x->vs[k]?=some x:=by
 have⟨G,D⟩:=xp hfit;have b:xs.length+ys.length<=maxLen:=by simp only[maxLen];omega
 obtain⟨ad,c,rfl,E⟩:=hx;have fin:∀d,d<xs.length+ys.length->∃cap vs,cap=grownCap w (xs.length+ys.length) d e/\vs=fx.toArray++fy.toArray++Builtin.zeroCells z.cells (cap-(xs.length+ys.length)) /\
   vs.size=cap*i.size/\xs.length+ys.length<=cap/\cap<=maxLen/\∀(k:Nat) x,(fx++fy)[k]?=some x->vs[k]?=some x:=by
  intro d I;have p:=grownCap_ge w (xs.length+ys.length) d e;refine⟨_,_,rfl,rfl,?_,p,grownCap_le_maxLen w _ d e b,λk x hx=>?_⟩
  ·simp only[mj,eX,kP,hzs,fX.1,fY.1,<-fD];congr 1;omega
  have F:=(aB.1 hx).1;rw[cT (by simpa using F)];simpa using hx
 rcases hu with⟨rfl,rfl⟩|⟨a,cap,rfl,f,l⟩
 ·have q:fx=[]:=bt (by simpa using fX.1);subst q;have⟨cap,vs,n,o,r,s,y,A⟩:=fin 0 (by simpa using hy);have g:=run_append_nil (P:=P) w t ty e i z ht hi hz ad ys.length c fy fY.1 E hy (by simp only[maxLen]at b;omega) (by simp at D;omega);simp only[aQ,cH,jz]at n o;refine⟨cap,vs,w.drew.alloc (.cells vs e),?_,(Grows.drew w).trans (Grows.alloc _ _),heap_alloc_new w.drew _,r,s,y,A⟩;rw[o,n,g];simp only[aQ,cH]
 have⟨m,vs,n,o,r,s,y,A⟩:=fin cap f;have g:=run_append_grow (P:=P) w t ty e i z ht hi hz a xs.length cap fx fX.1 l ad ys.length c fy fY.1 E f (by simp only[maxLen]at b;omega) (growslice_fits f D);refine⟨m,vs,w.drew.alloc (.cells vs e),?_,(Grows.drew w).trans (Grows.alloc _ _),heap_alloc_new w.drew _,r,s,y,A⟩;rw[o,n,g]
theorem vz{α:Type}{l:List α}{x:α}{i:Nat}(hi:l[i]?=some x):l.set i x=l:=by
 apply cU;intro j;by_cases e:i=j
 ·subst e;rw[aH (aB.1 hi).1,hi]
 rw[aE e]
theorem eU{α:Type}(l m:List α) (off:Nat) (hoff:off+m.length<=l.length) (k:Nat) :
  (l.take off++m++l.drop (off+m.length))[k]?=if off<=k/\k<off+m.length then m[k-off]? else l[k]?:=by
 by_cases a:k<off
 ·rw[if_neg o_,List.append_assoc,aP (by simp;omega),cS,if_pos a]
 by_cases b:k<off+m.length
 ·rw[if_pos ⟨o_,b⟩,aP (by simp;omega),aj (by simp;omega)];simp;congr 1;omega
 rw[if_neg o_,aj (by simp;omega),cE];congr 1;simp;omega
theorem qV [DFlag] (hr:HRel P B A0 σ h w){t ty:TypeId}{s x r:AV}{h':H}{u ux:Value}(hh:eV P h t s x=some (r,h')) (rs:Rel P (Alw P B A0 σ h) σ h w s u) (rx:Rel P (Alw P B A0 σ h) σ h w x ux) :
  ∃v w',(Builtin.append_ #[t,t] ty #[u,ux]).run P w=.ok v w'/\er P B A0 σ h w r h' v w':=by
 unfold eV at hh;split at hh<;>try(cases hh;done)
 rename_i e ht;split at hh<;>try(cases hh;done)
 rename_i sz y6 d J y7 y8;split at hh<;>try(cases hh;done)
 rename_i hg;simp only[bo,cN,beq_iff_eq,not_or,iy]at hg;have⟨⟨y9,x5⟩,x'⟩:=hg;have h0:0<sz:=o_;have⟨i,z,q,hz,y'⟩:=nh y9;have y0:i.size=sz:=by simpa[cr,q]using J
 have y1:i.bytes=y6:=by simpa[hG,q]using y7
 subst y0 y1;have⟨Z,fY,hY⟩:=E9 hr y8 rx x' h0;have y2:d=[]->∃bx c,ux=.slice bx 0 c:=λe=>by
  rcases hY with⟨_,rfl⟩|⟨ad,c,rfl,_⟩
  ·exact⟨_,_,rfl⟩
  subst e;exact⟨_,_,rfl⟩
 have X:0<d.length->∃ad c,ux=.slice (some ad) d.length c/\∀(j:Nat) v,Z[j]?=some v->w.cell? (ad.add j)=some v:=λhp=>by
  rcases hY with⟨rfl,_⟩|h
  ·simp at hp
  exact h
 have D:∀base n y,u=.slice base n y->n<=y->d=[]->(Builtin.append_ #[t,t] ty #[u,ux]).run P w=.ok u w:=λbase n y O e2 e3=>by obtain⟨bx,c,rfl⟩:=y2 e3;subst O;exact vK ht q base bx n y c e2
 split at hh<;>try(cases hh;done)
 ·rename_i m ext;split at hh<;>try(cases hh;done)
  rename_i z7;have z7:gn i.size m=true:=by simpa using z7
  split at hh<;>try(cases hh;done)
  rename_i Y;have Y:(m.length+d.length)*(i.bytes+1)<=35184372088832:=by simpa using Y
  have⟨fx,fX,hX⟩:=wQ (mT rs) z7 h0;have z2:∃base y,u=.slice base m.length y/\m.length<=y:=by
   rcases hX with⟨rfl,rfl⟩|⟨a,y,rfl,h1,_⟩
   ·exact⟨_,_,rfl,aR _⟩
   exact⟨_,_,rfl,h1⟩
  have⟨base,y,z8,q'⟩:=z2;split at hh
  ·
   split at hh
   ·simp only[aA,aD]at hh;obtain⟨rfl,rfl⟩:=hh;exact⟨u,w,D _ _ _ z8 q' rfl,σ,hr,.refl _ _ _,rs⟩
   rename_i x0;have E:0<d.length:=by cases d with|nil=>exact absurd rfl x0|cons=>simp
   simp only[aA,aD]at hh;obtain⟨rfl,rfl⟩:=hh;have z9:(m=[]/\u=.slice none 0 0)\/∃a y,u=.slice (some a) m.length y/\y<m.length+d.length/\∀(j:Nat) x,fx[j]?=some x->w.cell? (a.add j)=some x:=by
    rcases hX with h|⟨a,M,O,h1,h2,h3⟩
    ·exact .inl h
    have⟨b2,n2,e2,_⟩:=qj rs;rw[O]at e2;simp only[Value.slice.injEq]at e2;exact .inr ⟨a,M,O,o_,h3⟩
   have⟨M,L,w',O,g,e2,e3,e4,e5,e6⟩:=A5 (ty:=ty) hr ht q hz y' h0 fX fY E z9 (X E) Y;have st:=Step.push hr g (.tok (m.length+d.length) e) (some w.heap.size) (λb hb=>by simp at hb;omega);have hR:=HRel.push hr g (.tok (m.length+d.length) e) (some w.heap.size) (λb hb=>by simp at hb;omega) (λQ st e=>by cases e)
    (λu2 z3 e=>by simp only[VObj.tok.injEq]at e;obtain⟨rfl,rfl⟩:=e;exact .inr ⟨_,L,i.size,M,rfl,e2,J,e3,e4,e5⟩)
   refine⟨_,w',O,_,hR,st,?_⟩;have p:(m++d).length=m.length+d.length:=s_;have:=uS (t:=h.length) ((fX.append fY).mono st.kept) h0 J e2 e6 e3 o_ e5 (λo ho=>by
    have hB:B<=w.heap.size:=hr.base;unfold Alw;rw[if_neg o_];refine⟨λi Q q S=>?_,λi u2 t2 q S=>?_⟩
    ·rcases bX q with⟨c,q⟩|⟨_,e⟩
     ·rw[getElem?_push_lt σ _ (by rw[hr.len];exact c)]at S;have:=hr.lt q rfl S;omega
     cases e
    rcases bX q with⟨c,q⟩|⟨_,e⟩
    ·rw[getElem?_push_lt σ _ (by rw[hr.len];exact c)]at S;have:=hr.lt q rfl S;omega
    simp only[VObj.tok.injEq]at e;obtain⟨rfl,rfl⟩:=e;exact⟨_,J,by rw[<-p];exact ho⟩) (by rw[ar,p]) (by rw[<-hr.len,ar])
   rw[p]at this;exact this
  ·
   rename_i tk;split at hh<;>try(cases hh;done)
   rename_i x6 z3 F;split at hh<;>try(cases hh;done)
   rename_i U;obtain⟨rfl,rfl⟩:=U;simp only[aA,aD]at hh;obtain⟨rfl,rfl⟩:=hh;have x1:=rs;cases rs with
   |data r=>cases r
   |tok hd hk=>
    have⟨u2,x7,k1,k2,k3⟩:=hk;rw[F]at k1;simp only[aA,VObj.tok.injEq]at k1;obtain⟨rfl,rfl⟩:=k1;have k3:=k3 rfl;by_cases E:d=[]
    ·subst E;have O:h.set tk (.tok (m.length+([]:LA).length) z3)=h:=by simp only[aQ,df];exact vz F
     rw[O];simp only[bm];exact⟨u,w,D _ _ _ z8 q' rfl,σ,hr,.refl _ _ _,x1⟩
    have E:0<d.length:=by cases d with|nil=>exact absurd rfl E|cons=>simp
    have p:(m++d).length=m.length+d.length:=s_;have x2:tk<σ.length:=by rw[hr.len];exact(aB.1 F).1
    have q0:∀(_:(m=[]/\u=.slice none 0 0)\/∃a y,u=.slice (some a) m.length y/\y<m.length+d.length/\∀(j:Nat) x,fx[j]?=some x->w.cell? (a.add j)=some x),
      ∃v w',(Builtin.append_ #[t,t] ty #[u,ux]).run P w=.ok v w'/\er P B A0 σ h w (.isl (m++d) (.tok tk)) (h.set tk (.tok (m.length+d.length) z3)) v w':=by
     intro z9;have⟨M,L,w',O,g,e2,e3,e4,e5,e6⟩:=A5 (ty:=ty) hr ht q hz y' h0 fX fY E z9 (X E) Y;have st:=Step.tokMove (u':=m.length+d.length) hr g F (aR _) o_;have hR:=HRel.tokMove (u':=m.length+d.length) hr g F (aR _) o_ e2 J e3 e4 e5;refine⟨_,w',O,_,hR,st,?_⟩;have:=uS (t:=tk) ((fX.append fY).mono st.kept) h0 J e2 e6 e3 o_ e5 (λo ho=>by
      have hB:B<=w.heap.size:=hr.base;unfold Alw;rw[if_neg o_];refine⟨λi Q q S=>?_,λi u2 t2 q S=>?_⟩
      ·rcases aa q with⟨_,e,_⟩|⟨c,q⟩
       ·cases e
       rw[aE (λk=>c k.symm)]at S;have:=hr.lt q rfl S;omega
      rcases aa q with⟨_,e,_⟩|⟨c,q⟩
      ·simp only[VObj.tok.injEq]at e;obtain⟨rfl,rfl⟩:=e;exact⟨_,J,by rw[<-p];exact ho⟩
      rw[aE (λk=>c k.symm)]at S;have:=hr.lt q rfl S;omega) (by rw[aH (aB.1 F).1,p]) (by rw[aH x2])
     rw[p]at this;exact this
    rcases k3 with⟨q1,q2,q3⟩|⟨b,q8,L,x8,q1,q2,x3,q4,q5,q6,q7⟩
    ·have:m=[]:=bt q3;exact q0 (.inl ⟨this,q1⟩)
    have q3:=hr.tok00 F q1 x3;rw[J]at q4;simp only[aA]at q4;subst q4;have z4:∀(j:Nat) x,fx[j]?=some x->w.cell? ((⟨b,0,none⟩:Addr).add j)=some x:=by
     rcases hX with⟨_,e⟩|⟨a,M,O,h1,h2,h3⟩
     ·rw[e]at q2;cases q2
     rw[O]at q2;simp only[Value.slice.injEq,aA]at q2;obtain⟨rfl,_⟩:=q2;exact h3
    by_cases V:m.length+d.length<=q8
    ·obtain⟨ad,c,rfl,G⟩:=X E;have N:=fY.1;have I:0+m.length*i.size+Z.length<=L.size:=by rw[N,q5,cH,<-fD];exact cQ _ V
     have q9:=qh (w:=w) (ty:=ty) ht q b 0 m.length q8 L q3 ad d.length c Z N G (fY.one h0) V I;have K:(L.toList.take (0+m.length*i.size)++Z++L.toList.drop (0+m.length*i.size+Z.length)).toArray.size=L.size:=by simp;omega
     have z':∀o,o<m.length*i.size->(L.toList.take (0+m.length*i.size)++Z++L.toList.drop (0+m.length*i.size+Z.length)).toArray[o]?=L[o]?:=λo ho=>by rw[dB,eU _ _ _ (by simpa using I),if_neg o_,bM]
     have st:=Step.tokWrite (u':=m.length+d.length) hr F q1 q3 J K o_ z';have hR:=HRel.tokWrite (u':=m.length+d.length) hr F q1 q3 J K o_ z' q5 V q7;refine⟨_,_,by rw[q2];exact q9,σ,hR,st,?_⟩;have:=uS (t:=tk) ((fX.append fY).mono st.kept) h0 J (setRow_heap w b L _ _ _ q3) (λk x hx=>by
       rw[dB,eU _ _ _ (by simpa using I)];rw[cH];by_cases hk:k<fx.length
       ·rw[aP hk]at hx;have:=z4 k x hx;rw[fV,cH,cell_of_row w b k L z3 _ q3]at this;rw[fX.1]at hk;rw[if_neg o_,bM];exact this
       rw[aj o_]at hx;have x4:=(aB.1 hx).1;rw[fX.1]at hx hk x4;rw[if_pos o_];exact hx) (by rw[K,q5]) o_ q7 (λo ho=>by
      have hB:=(hr.lt F rfl q1).2;unfold Alw;rw[if_neg o_];refine⟨λi Q q S=>?_,λi u2 t2 q S=>?_⟩
      ·rcases aa q with⟨_,e,_⟩|⟨c,q⟩
       ·cases e
       exact c (hr.uniq i tk b _ _ q F S q1 rfl rfl)
      rcases aa q with⟨_,e,_⟩|⟨c,q⟩
      ·simp only[VObj.tok.injEq]at e;obtain⟨rfl,rfl⟩:=e;exact⟨_,J,by rw[<-p];exact ho⟩
      exact(c (hr.uniq i tk b _ _ q F S q1 rfl rfl)).elim) (by rw[aH (aB.1 F).1,p]) q1
     rw[p]at this;exact this
    exact q0 (.inr ⟨_,q8,q2,o_,z4⟩)
  split at hh<;>try(cases hh;done)
  simp only[aA,aD]at hh;obtain⟨rfl,rfl⟩:=hh;exact⟨u,w,D _ _ _ z8 q' rfl,σ,hr,.refl _ _ _,rs⟩
 rename_i id A x9 len c;split at hh<;>try(cases hh;done)
 rename_i Q z0;split at hh<;>try(cases hh;done)
 rename_i U;obtain⟨rfl,y3,w0⟩:=U;simp only[aA,aD]at hh;obtain⟨rfl,rfl⟩:=hh;obtain⟨b,c',rfl,g1,g2,g3,g4,g5,g6,vw,tw,fw,g7,g8⟩:=kL rs;have:=g6 _ rfl;subst this;have⟨b',L,tb,k1,k2,k3,k4,k5,k6⟩:=hr.cells id Q _ z0 s_;rw[g1]at k1;simp only[aA]at k1;subst k1;have N:=fY.1;have z1:(d.flatMap AV.cells).length=d.length*i.size:=by
  have:∀(l:LA),(∀e∈l,e.cells.length=i.size)->(l.flatMap AV.cells).length=l.length*i.size:=by
   intro l;induction l with
   |nil=>intro _;simp
   |cons e l ih=>intro hl;simp only[cF,aL,aG];rw[hl e s_,ih (λe he=>hl e (by simp[he])),gW];omega
  exact this d (λe he=>(fY.2.1 e he).1)
 have z5:∀(k:Nat) c,(d.flatMap AV.cells)[k]?=some c->c.one=true/\∃x,Z[k]?=some x/\IRel (Alw P B A0 σ h) w c x:=by
  have:∀(l:LA) (fl:List Value),Flat (Alw P B A0 σ h) w i.size l fl->∀(k:Nat) c,(l.flatMap AV.cells)[k]?=some c->c.one=true/\∃x,fl[k]?=some x/\IRel (Alw P B A0 σ h) w c x:=by
   intro l;induction l with
   |nil=>intro fl _ k c G;simp at G
   |cons e l ih=>
    intro fl f k c G;have⟨f1,f2,f3,f4⟩:=f;have he:=f2 e s_;simp only[cF]at G;by_cases hk:k<e.cells.length
    ·rw[aP hk]at G;refine⟨f3 e s_ c (ai G),?_⟩;have:=f4 0 k e c s_ G;simpa using this
    rw[aj o_]at G;have hf:Flat (Alw P B A0 σ h) w i.size l (fl.drop i.size):=⟨by rw[dJ,f1,aG,gW];omega,λe he=>f2 e (by simp[he]),λe he=>f3 e (by simp[he]),λa j e c he G=>by have⟨x,O,e2⟩:=f4 (a+1) j e c (by simpa using he) G;refine⟨x,?_,e2⟩;rw[cE,<-O,gW];congr 1;omega⟩
    have⟨q1,x,q2,q3⟩:=ih _ hf _ c G;refine⟨q1,x,?_,q3⟩;rw[cE,he.1]at q2;rw[<-q2];congr 1;omega
  exact this d Z fY
 by_cases E:d=[]
 ·subst E;have O:h.set id (.cells (Q.take (A+len*i.size)++([]:LA).flatMap AV.cells++Q.drop (A+(len+([]:LA).length)*i.size)) .live)=h:=by simp only[List.flatMap_nil,bm,aQ,df,fF];exact vz z0
  rw[O];exact⟨_,w,D _ _ _ rfl g4 rfl,σ,hr,.refl _ _ _,rs⟩
 have E:0<d.length:=by cases d with|nil=>exact absurd rfl E|cons=>simp
 obtain⟨ad,cx,rfl,G⟩:=X E;have y4:(len+d.length)*i.size=len*i.size+d.length*i.size:=fD _ _ _;have I:A+len*i.size+Z.length<=L.size:=o_;have q9:=qh (w:=w) (ty:=ty) ht q b A len c' L k3 ad d.length cx Z N G (fY.one h0) y3 I;have K:(L.toList.take (A+len*i.size)++Z++L.toList.drop (A+len*i.size+Z.length)).toArray.size=L.size:=by simp;omega
 have z6:A+len*i.size+(d.flatMap AV.cells).length<=Q.length:=o_;have y5:Q.take (A+len*i.size)++d.flatMap AV.cells++Q.drop (A+(len+d.length)*i.size)=Q.take (A+len*i.size)++d.flatMap AV.cells++Q.drop (A+len*i.size+(d.flatMap AV.cells).length):=by rw[z1,y4,fe]
 rw[y5];have hR:=HRel.write hr (cs':=Q.take (A+len*i.size)++d.flatMap AV.cells++Q.drop (A+len*i.size+(d.flatMap AV.cells).length)) z0 g1 k3 K (by simp only[aL,ag,dJ];omega) (λc G=>by
   obtain⟨k,hk,rfl⟩:=bg G;have G:=aC hk;rw[eU _ _ _ z6]at G;split at G
   ·exact(z5 _ _ G).1
   exact k5 _ (ai G))
  (λk c v G hv=>by
   rw[eU _ _ _ z6]at G;rw[dB,eU _ _ _ (by simpa using I)]at hv;rw[z1]at G;rw[N]at hv;split at G
   ·rename_i hk;rw[if_pos hk]at hv;have⟨_,x,q2,q3⟩:=z5 _ _ G;rw[q2]at hv;simp only[aA]at hv;subst hv;exact .data q3
   rename_i hk;rw[if_neg hk,bM]at hv;exact k6 k c v G hv)
 have st:=Step.write (cs':=Q.take (A+len*i.size)++d.flatMap AV.cells++Q.drop (A+len*i.size+(d.flatMap AV.cells).length)) hr z0 g1 k3 K;exact⟨_,_,q9,σ,hR,st,.msl g1 ⟨_,_,aH (aB.1 z0).1⟩ g3 y3 g5 (λn hn=>by simpa using hn)
  ⟨_,_,_,setRow_heap w b L _ _ _ k3,by rw[k3]at g7;simp only[aA,Obj.cells.injEq]at g7;rw[K,g7.1];exact g8⟩⟩
theorem AY{A:Nat->Nat->Prop}{sz:Nat}:∀(l:LA) (fl:List Value),Flat A w sz l fl->(l.flatMap AV.cells).length=l.length*sz/\∀(k:Nat) c,(l.flatMap AV.cells)[k]?=some c->c.one=true/\∃x,fl[k]?=some x/\IRel A w c x:=by
 intro l;induction l with
 |nil=>intro fl _;exact⟨s_,λk c b=>by simp at b⟩
 |cons e l n=>
  intro fl f;have⟨o,g,h,i⟩:=f;have d:=g e s_;have p:Flat A w sz l (fl.drop sz):=⟨by rw[dJ,o,aG,gW];omega,λe d=>g e (by simp[d]),λe d=>h e (by simp[d]),λa j e c d b=>by have⟨x,q,r⟩:=i (a+1) j e c (by simpa using d) b;refine⟨x,?_,r⟩;rw[cE,<-q,gW];congr 1;omega⟩
  have⟨s,t⟩:=n _ p;refine⟨by simp only[cF,aL,aG];rw[d.1,s,gW];omega,λk c b=>?_⟩;simp only[cF]at b;by_cases u:k<e.cells.length
  ·rw[aP u]at b;refine⟨h e s_ c (ai b),?_⟩;have:=i 0 k e c s_ b;simpa using this
  rw[aj o_]at b;have⟨v,x,m,y⟩:=t _ c b;refine⟨v,x,?_,y⟩;rw[cE,d.1]at m;rw[<-m];congr 1;omega
end
end Go.V
