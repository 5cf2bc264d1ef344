/- A part of the proof. -/
import Derived.Test.YtclakfnjdnibeaaGreatDoorV28
import Derived.RangeFuncLeaves
import Derived.RangeFuncRecord
import Derived.RangeFuncCalls
import Derived.OrdersIn
namespace Go.V
open Go
structure Ok [DFlag] (P:Program) (run:FuncId->LA->H->Option (AV × H)):Prop where
 fn:∀f args h r h',eE P f=true->run f args h=some (r,h')->∀(B:Nat) (A0:Nat->Nat->Prop) (σ:List (Option Nat)) (w:World) (vs:Array Value),HRel P B A0 σ h w->vs.size=args.length ->
  (∀(i:Nat) a v,args[i]?=some a->vs[i]?=some v->Rel P (Alw P B A0 σ h) σ h w a v) ->
  Calls P f vs w (λe w'=>∃v,e=.returned v/\er P B A0 σ h w r h' v w')
 yl:∀i args h r h',run (yb P+i) args h=some (r,h')->∀(B:Nat) (A0:Nat->Nat->Prop) (σ:List (Option Nat)) (w:World) (vs:Array Value),HRel P B A0 σ h w->vs.size=args.length ->
  (∀(i:Nat) a v,args[i]?=some a->vs[i]?=some v->Rel P (Alw P B A0 σ h) σ h w a v)->∀l,σ[i]?=some (some l) ->
  ∃fn tmps assign body,(Instr.yield l vs).run P w=.ok (.round l fn tmps assign body) w /\
   ∀k,RoundIn Fence.wide k P l fn tmps assign body w (λe w'=>∃v,e=.returned v/\er P B A0 σ h w r h' v w')
section
variable {P:Program}{B:Nat}{A0:Nat->Nat->Prop}{σ:List (Option Nat)}{h:H}{w:World}
theorem pp{A A':Nat->Nat->Prop}{w w':World}{c:AV}{v:Value}(hs:pq c=true) (r:IRel A w c v):IRel A' w' c v:=by
 unfold pq at hs;have⟨u,b⟩:=dC.1 hs;unfold fH at b;split at b
 ·rename_i o;split at b<;>try(cases b;done)
  rename_i l e;cases r with
  |agg f g h=>
   refine .agg f g (λi a v d j=>?_);have⟨k,m⟩:=pi _ _ e;have n:i<l.length:=by rw[k];exact(aB.1 d).1
   have:=m i a _ d (aC n);rw[lJ this (h i a v d j)];exact iB this
 rw[lJ b r];exact iB b
theorem Mm{A A':Nat->Nat->Prop}{w w':World}{c:AV}{v:Value}(hs:Gg c=true) (r:IRel A w c v):IRel A' w' c v:=by
 unfold Gg at hs;split at hs
 ·cases r with
  |tuple d e=>exact .tuple d (λi a v b f=>pp (bI.1 hs a (ai b)) (e i a v b f))
 exact pp hs r
theorem tC [DFlag] {w w':World}(hb:RowKit.Below w.heap.size w w') (hd:DFlag.D->w.drawn<=w'.drawn):Grows w w':=⟨hb.os,hb.tape,hb.output,hb.size,hb.block,hd⟩
theorem F6(hr:HRel P B A0 σ h w){σ1:List (Option Nat)}{h1:H}{b o:Nat}(ha:Alw P w.heap.size (Alw P B A0 σ h) σ1 h1 b o):Alw P B A0 σ h b o:=by
 unfold Alw at ha;split at ha
 ·exact ha
 rename_i d;have:=hr.base;unfold Alw;rw[if_neg o_];refine⟨λi e a c=>?_,λi u f a c=>?_⟩
 ·have:=hr.lt a rfl c;omega
 have:=hr.lt a rfl c;omega
theorem F8 [DFlag] (hr:HRel P B A0 σ h w){m:Mode}{A1:Nat->Nat->Prop}{σ1:List (Option Nat)}{h1:H}{w1:World}{r r':AV}{h':H}{v:Value}(hg:Grows w w1) (hr1:HRel P w.heap.size A1 σ1 h1 w1)
  (rr:Rel P (Alw P w.heap.size A1 σ1 h1) σ1 h1 w1 r v) (hh:oA P m h1 h r=some (r',h')):er P B A0 σ h w r' h' v w1:=by
 unfold oA at hh;split at hh
 ·rename_i es t;split at hh<;>try(cases hh;done)
  rename_i z5 U ht;split at hh<;>try(cases hh;done)
  rename_i g;obtain⟨rfl,J,M⟩:=g;cases rr with
  |data rr=>cases rr
  |tok hd hk=>
   have⟨u2,z7,k1,k2,k3⟩:=hk;rw[ht]at k1;simp only[aA,VObj.tok.injEq]at k1;obtain⟨rfl,rfl⟩:=k1;have k3:=k3 rfl;have N:∀(k:Nat) c,es[k]?=some c->∃u,cw c=some u:=λk c g=>dC.1 (bI.1 J c (ai g))
   have a:∀c∈es,c.cells=[c]/\c.one=true/\bf c=true:=λc g=>by obtain⟨k,hk,rfl⟩:=bg g;have⟨u,y⟩:=N k _ (aC hk);have h1:=vt y;generalize es[k]=c at *;cases c<;>simp_all [AV.cells,AV.one,bf]
   have O:∀b cap z,v=.slice (some ⟨b,0,none⟩) es.length cap->w1.heap[b]?=some (.cells z U (0,0))->∀(k:Nat) c,es[k]?=some c->∃u,cw c=some u/\z[k]?=some u:=by
    intro b cap z q V k c g;have⟨u,y⟩:=N k c g;refine⟨u,y,?_⟩;rcases nw hd with⟨rfl,_⟩|⟨z',K,o,z6,f,e1,g1,g2,g3,g4,g5,g6,g7⟩
    ·simp at g
    rw[q]at e1;simp only[Value.slice.injEq,aA,Addr.mk.injEq]at e1;obtain⟨⟨rfl,rfl,_⟩,_,rfl⟩:=e1;have hm:=ai g;have z0:z'=1:=by have:=(g4 c hm).1;rw[(a c hm).1]at this;simpa using this.symm
    subst z0;have h0:c.cells[0]?=some c:=by rw[(a c hm).1];rfl
    have e2:=(g6 k 0 c c g h0).2;have e3:=lJ y (g7 k 0 c c g h0);rw[cell_of_row w1 b _ z U _ V]at e2;simp only[cH,oC,df]at e2;rw[e2,e3]
   split at hh<;>try(cases hh;done)
   ·
    simp only[aA,aD]at hh;obtain⟨rfl,rfl⟩:=hh;rcases k3 with⟨Y,E,L⟩|⟨b,cap,z,sz,Y,E,q',X,q5,q6,q7⟩
    ·have:es=[]:=bt L;subst this;have Q:∀b,(none:Option Nat)=some b->w.heap.size<=b:=λb V=>by cases V
     exact⟨σ++[none],HRel.push hr hg _ _ Q (λF st e=>by cases e) (λu q0 e=>by simp only[VObj.tok.injEq]at e;exact .inl ⟨rfl,by simpa using e.1.symm⟩),
      Step.push hr hg _ _ Q,by rw[Y];exact .tok .islNil ⟨0,U,s_,aR _,λ_=>.inl ⟨rfl,by rw[<-hr.len,ar],rfl⟩⟩⟩
    have L:=hr1.tok00 ht Y q';rw[M]at X;simp only[aA]at X;subst X;have z1:=(hr1.lt ht rfl Y).2;have Q:∀K,some b=some K->w.heap.size<=K:=λK V=>by simp only[aA]at V;omega
    have hR:=HRel.push hr hg (.tok es.length U) (some b) Q (λF st e=>by cases e) (λu q0 e=>by simp only[VObj.tok.injEq]at e;obtain⟨rfl,rfl⟩:=e;exact .inr ⟨b,z,1,cap,rfl,L,M,q5,q6,q7⟩)
    refine⟨_,hR,Step.push hr hg _ _ Q,?_⟩;have z2:Flat (Alw P B A0 (σ++[some b]) (h++[.tok es.length U])) w1 1 es (z.toList.take es.length):=⟨by simp;omega,λe d=>⟨by rw[(a e d).1];rfl,(a e d).2.2⟩,λe d c g=>by
      rw[(a e d).1]at g;simp at g;subst g;exact(a c d).2.1,λi j e c d g=>by
      have G:=(aB.1 d).1;rw[(a e (ai d)).1]at g;cases j with
      |succ j=>simp at g
      |zero=>simp at g;subst g;have⟨u,y,q⟩:=O b cap z E L i e d;refine⟨u,?_,iB y⟩;simp only[oC,df];rw[cS,if_pos G,bM,q]⟩
    rw[E];exact uS z2 o_ M L (λk x l=>by
     rw[cS]at l;split at l<;>try(cases l;done)
     rwa[bM]at l) q5 q6 q7 (λo ho=>by
      have:=hr.base;unfold Alw;rw[if_neg o_];refine⟨λi F G hs=>?_,λi u2 t2 G hs=>?_⟩
      ·rcases bX G with⟨c,G⟩|⟨_,e⟩
       ·rw[getElem?_push_lt σ _ (by rw[hr.len];exact c)]at hs;have:=hr.lt G rfl hs;omega
       cases e
      rcases bX G with⟨c,G⟩|⟨_,e⟩
      ·rw[getElem?_push_lt σ _ (by rw[hr.len];exact c)]at hs;have:=hr.lt G rfl hs;omega
      simp only[VObj.tok.injEq]at e;obtain⟨rfl,rfl⟩:=e;exact⟨1,M,ho⟩) (ar h _) (by rw[<-hr.len,ar])
   split at hh
   ·simp only[aA,aD]at hh;obtain⟨rfl,rfl⟩:=hh;refine⟨σ,hr.grows hg,.grows hr hg,.data ?_⟩;exact AR hd
   rename_i z3;simp only[aA,aD]at hh;obtain⟨rfl,rfl⟩:=hh;rcases k3 with⟨Y,E,L⟩|⟨b,cap,z,sz,Y,E,q',X,q5,q6,q7⟩
   ·exact absurd (bt L) z3
   have L:=hr1.tok00 ht Y q';rw[M]at X;simp only[aA]at X;subst X;have z1:=(hr1.lt ht rfl Y).2;have Q:∀K,some b=some K->w.heap.size<=K:=λK V=>by simp only[aA]at V;omega
   have hR:=HRel.push hr hg (.cells es .live) (some b) Q (λF st e=>by simp only[VObj.cells.injEq]at e;obtain⟨rfl,rfl⟩:=e;refine⟨b,z,U,rfl,L,o_,λc g=>(a c g).2.1,λk c x g l=>?_⟩;have⟨u,y,q⟩:=O b cap z E L k c g;rw[q]at l;simp only[aA]at l;subst l;exact .data (iB y)) (λu q0 e=>by cases e)
   refine⟨_,hR,Step.push hr hg _ _ Q,?_⟩;rw[E];exact .msl (by rw[<-hr.len,ar]) ⟨_,_,ar h _⟩ o_ q6 q7 (λn hn=>by cases hn) ⟨_,_,_,L,o_⟩
 ·simp only[aA,aD]at hh;obtain⟨rfl,rfl⟩:=hh;refine⟨σ,hr.grows hg,.grows hr hg,?_⟩;obtain⟨base,n,rfl,hd⟩:=qj rr;exact .full (AR hd)
 ·rename_i id s sz len cap;split at hh<;>try(cases hh;done)
  rename_i F z4;split at hh<;>try(cases hh;done)
  rename_i g;obtain⟨a,rfl,z8⟩:=g;obtain⟨b,c,rfl,g1,g2,g3,g4,g5,g6,g7⟩:=kL rr;have⟨K,z,U,k1,k2,k3,k4,k5,k6⟩:=hr1.cells id F _ z4 s_;rw[g1]at k1;simp only[aA]at k1;subst k1;have J:∀(k:Nat) x v,F[k]?=some x->z[k]?=some v->IRel A1 w1 x v/\x.cells=[x]/\x.one=true/\bf x=true:=λk x v l q=>by
   have D:x∈F:=ai l;have:(cw x).isSome=true:=by simp only[oU,bI]at a;exact a x D
   have⟨u,y⟩:=dC.1 this;have S:=el y (k6 k x v l q);subst S;refine⟨iB y,?_,vt y,?_⟩<;>cases x<;>first|rfl|(cases y;done)|simp[cw]at y
  split at hh<;>try(cases hh;done)
  ·simp only[aA,aD]at hh;obtain⟨rfl,rfl⟩:=hh;have Q:∀K,some b=some K->w.heap.size<=K:=λK V=>by simp only[aA]at V;omega
   have hR:=HRel.push hr hg (.cells F .live) (some b) Q (λz9 st e=>by
    simp only[VObj.cells.injEq]at e;obtain⟨rfl,rfl⟩:=e;refine⟨b,z,U,rfl,k3,k4,k5,λk x v l q=>?_⟩;have D:x∈F:=ai l;have:(cw x).isSome=true:=by simp only[oU,bI]at a;exact a x D
    have⟨u,y⟩:=dC.1 this;have S:=el y (k6 k x v l q);subst S;exact .data (iB y)) (λu q0 e=>by cases e)
   refine⟨_,hR,Step.push hr hg _ _ Q,?_⟩;exact .msl (by rw[<-hr.len,ar]) ⟨_,_,ar h _⟩ o_ g4 g5 (λn hn=>by cases hn) g7
  simp only[aA,aD]at hh;obtain⟨rfl,rfl⟩:=hh;refine⟨σ,hr.grows hg,.grows hr hg,.data ?_⟩;have Z:((F.drop s).take len).length=len:=by simp;omega
  have p:∀(i:Nat) e,((F.drop s).take len)[i]?=some e->F[s+i]?=some e:=λi e d=>by
   rw[cS]at d;split at d
   ·rwa[cE]at d
   cases d
  have I:∀(i:Nat) e,((F.drop s).take len)[i]?=some e->∃v,z[s+i]?=some v:=λi e d=>by have:=(aB.1 (p i e d)).1;exact⟨_,aT o_⟩
  have:=IRel.isl (A:=Alw P B A0 σ h) (w:=w1) (es:=(F.drop s).take len) (sz:=1) (b:=b) (o:=s) (cap:=c) (λi j=>z.getD (s+i) undef) o_ (by rw[Z];exact g4) g5
   (λe d=>by have⟨i,G⟩:=List.getElem?_of_mem d;have⟨v,q⟩:=I i e G;have⟨_,E,_,X⟩:=J _ _ _ (p i e G) q;exact⟨by rw[E];rfl,X⟩)
   (λe d x l=>by have⟨i,G⟩:=List.getElem?_of_mem d;have⟨v,q⟩:=I i e G;have⟨_,E,L,_⟩:=J _ _ _ (p i e G) q;rw[E]at l;simp at l;subst l;exact L)
   (λi j e x d l=>by
    have⟨v,q⟩:=I i e d;have⟨_,E,_,_⟩:=J _ _ _ (p i e d) q;rw[E]at l;have hj:j=0:=by have:=(aB.1 l).1;simp at this;exact this
    subst hj;refine⟨?_,?_⟩
    ·have:=hr.base;unfold Alw;rw[if_neg o_];refine⟨λi2 y' q8 q9=>?_,λi2 u2 t2 q8 q9=>?_⟩
     ·have:=hr.lt q8 rfl q9;omega
     have:=hr.lt q8 rfl q9;omega
    rw[cell_of_row w1 b _ z U _ k3,show s+i*1+0=s+i by omega,q];simp[q])
   (λi j e x d l=>by
    have⟨v,q⟩:=I i e d;have⟨_,E,_,_⟩:=J _ _ _ (p i e d) q;rw[E]at l;have hj:j=0:=by have:=(aB.1 l).1;simp at this;exact this
    subst hj;simp at l;subst l;have D:e∈F:=ai (p i e d);have:(cw e).isSome=true:=by simp only[oU,bI]at a;exact a e D
    have⟨u,y⟩:=dC.1 this;have S:=el y (k6 _ e v (p i e d) q);subst S;simp only[bA,q,nT];exact iB y)
  rw[Z]at this;exact this
 cases hh
theorem wP(h:H) (i:Nat):Stiller h (nJ h i):=by
 unfold nJ;cases b:h[i]? with
 |none=>exact⟨rfl,λj=>.inl rfl⟩
 |some x=>
  have a:=da h;refine⟨by simpa using a.len,λj=>?_⟩;by_cases e:i=j
  ·subst e;have c:i<(bj h).length:=by rw[a.len];exact(aB.1 b).1
   exact .inl (by rw[aH c,b])
  rw[aE e];exact a.at_ j
theorem AX{h:H}{i:Nat}{x:VObj}(hi:h[i]?=some x):(nJ h i)[i]?=some x:=by
 have a:=da h;have b:i<(bj h).length:=by rw[a.len];exact(aB.1 hi).1
 unfold nJ;rw[hi];exact aH b
theorem EN{A A':Nat->Nat->Prop}{σ:List (Option Nat)}{h:H}{w w':World}{c:AV}{v:Value}(hs:pq c=true) (r:Rel P A σ h w c v):IRel A' w' c v:=by
 have d:=hs;unfold pq at d;have⟨q,b⟩:=dC.1 d;cases r with
 |data r=>exact pp hs r
 |agg g j k=>
  unfold fH at b;dsimp at b;split at b<;>try(cases b;done)
  rename_i l e;refine .agg g j (λi a v f m=>?_);have⟨n,o⟩:=pi _ _ e;have p:i<l.length:=by rw[n];exact(aB.1 f).1
  have:=o i a _ f (aC p);rw[el this (k i a v f m)];exact iB this
 |_=>simp[fH,cw]at b
theorem wt [DFlag] (hr:HRel P B A0 σ h w){σ1:List (Option Nat)}{h1:H}{w1:World}{r r':AV}{h':H}{v:Value}(hg:Grows w w1) (hr1:HRel P w.heap.size (Alw P B A0 σ h) σ1 h1 w1)
  (rr:Rel P (Alw P w.heap.size (Alw P B A0 σ h) σ1 h1) σ1 h1 w1 r v) (hh:lF h1 h r=some (r',h')):er P B A0 σ h w r' h' v w1:=by
 unfold lF at hh;split at hh<;>try(cases hh;done)
 rename_i id S sz len U;split at hh<;>try(cases hh;done)
 rename_i s j;split at hh<;>try(cases hh;done)
 rename_i l D;split at hh<;>try(cases hh;done)
 rename_i E;have⟨V,X⟩:=E;simp only[aA,aD]at hh;obtain⟨rfl,rfl⟩:=hh;obtain⟨b,c,rfl,N,g2,Y,Z,g5,g6,g7⟩:=kL rr;have⟨t,O,ty,F,k2,k3,k4,k5,k6⟩:=hr1.cells id s _ j s_;rw[N]at F;simp only[aA]at F;subst F;have m:=wP h1 id;have p:=AX j;have G:=hr1.stiller m;have⟨q1,q2,q3⟩:=ia G _ _ _ D;have Q:∀t,some b=some t->w.heap.size<=t:=λt hb=>by simp only[aA]at hb;omega
 have f:∀(k:Nat) y u,l[k]?=some y->O[k]?=some u->IRel (Alw P w.heap.size (Alw P B A0 σ h) σ1 (nJ h1 id)) w1 y u:=λk y u z I=>by
  have q:k<s.length:=by rw[<-q1];exact(aB.1 z).1
  exact q2 k s[k] y u (aC q) z ((k6 k _ u (aC q) I).step (.stiller hr1 m))
 have hR:=HRel.pushF hr hg (.cells l .live) (some b) Q rfl ⟨b,O,ty,rfl,k3,o_,λc E=>q3 c E k5,λk c u z I=>.data ((f k c u z I).mono λbb o x A hx=>⟨?_,hx⟩)⟩
 ·refine⟨_,hR,Step.push hr hg _ _ Q,?_⟩;exact .msl (by rw[<-hr.len,ar]) ⟨_,_,ar h _⟩ Y Z g5 (λn hn=>by cases hn) g7
 have J:bb≠b:=by intro e;subst e;unfold Alw at A;rw[if_neg o_]at A;exact A.1 id s p N
 have a:=F6 hr A;unfold Alw at a ⊢;split
 ·rename_i K;rw[if_pos K]at a;exact a
 rename_i K;rw[if_neg K]at a;refine⟨λi L g d=>?_,λi u2 M g d=>?_⟩
 ·rcases bX g with⟨c,g⟩|⟨rfl,_⟩
  ·rw[getElem?_push_lt σ _ (by rw[hr.len];exact c)]at d;exact a.1 i L g d
  rw[<-hr.len,ar]at d;simp only[aA]at d;exact J d.symm
 rcases bX g with⟨c,g⟩|⟨_,e⟩
 ·rw[getElem?_push_lt σ _ (by rw[hr.len];exact c)]at d;exact a.2 i u2 M g d
 cases e
theorem D5 [DFlag] (hr:HRel P B A0 σ h w){m:Mode}{σ1:List (Option Nat)}{h1:H}{w1:World}{r r':AV}{h':H}{v:Value}(hg:Grows w w1) (hr1:HRel P w.heap.size (Alw P B A0 σ h) σ1 h1 w1)
  (rr:Rel P (Alw P w.heap.size (Alw P B A0 σ h) σ1 h1) σ1 h1 w1 r v) (hh:jZ m h1 h r=some (r',h')):er P B A0 σ h w r' h' v w1:=by
 unfold jZ at hh;split at hh<;>try(cases hh;done)
 ·rename_i x y;split at hh<;>try(cases hh;done)
  rename_i j;split at hh<;>try(cases hh;done)
  rename_i q s k;simp only[aA,aD]at hh;obtain⟨rfl,rfl⟩:=hh;obtain⟨d,rfl,f,g⟩:=uG rr;have b:d[0]?=some (d[0]'(by simp at f;omega)):=aT _;have l:d[1]?=some (d[1]'(by simp at f;omega)):=aT _;have⟨σ',n,o,p⟩:=wt hr hg hr1 (g 0 x _ rfl b) k;refine⟨σ',n,o,.tuple (by simpa using f) λi a u c e=>?_⟩;cases i with
  |zero=>simp only[be,aA]at c;subst c;rw[b]at e;simp only[aA]at e;subst e;exact p
  |succ i=>
   cases i with
   |zero=>simp only[dH,be,aA]at c;subst c;exact .data (EN j (g 1 y u rfl e))
   |succ i=>simp at c
 exact wt hr hg hr1 rr hh
theorem BM [DFlag] (hr:HRel P B A0 σ h w){h2:H}(hst:Stiller h h2){m:Mode}{σ1:List (Option Nat)}{h1:H}{w1:World}{r r':AV}{h':H}{v:Value}(hg:Grows w w1)
  (hr1:HRel P w.heap.size (Alw P B A0 σ h2) σ1 h1 w1) (rr:Rel P (Alw P w.heap.size (Alw P B A0 σ h2) σ1 h1) σ1 h1 w1 r v) (hh:ky P m r h1 h h2=some (r',h')):er P B A0 σ h w r' h' v w1:=by
 have g:=hr.stiller hst;have d:∀r' h',lg r h1 h h2=some (r',h')->er P B A0 σ h w r' h' v w1:=by
  intro r' h' hh;unfold lg at hh;split at hh<;>try(cases hh;done)
  rename_i S G;simp only[aA,aD]at hh;obtain⟨rfl,rfl⟩:=hh;have y:=da h1;have K:=ji (hr1.stiller y) _ _ _ _ G (rr.step (.stiller hr1 y));by_cases q:Gg S=true
  ·rw[if_pos q];exact⟨σ,hr.grows hg,.grows hr hg,.data (Mm q K)⟩
  rw[if_neg q];exact⟨σ,g.grows hg,(Step.stiller hr hst).trans (.grows g hg),.data (K.mono λb o x j U=>⟨F6 g j,U⟩)⟩
 have one:∀(m:Mode) x A t v,Rel P (Alw P w.heap.size (Alw P B A0 σ h2) σ1 h1) σ1 h1 w1 x v->oA P m h1 h x=some (A,t)->er P B A0 σ h w A t v w1:=
  λm x A t v V j=>F8 hr hg hr1 V j
 have n:∀(m:Mode) z,ju P m h1 h r=some z->er P B A0 σ h w z.1 z.2 v w1:=by
  intro m z c;unfold ju at c;split at c
  ·rename_i x L;split at c<;>try(cases c;done)
   rename_i A t j;split at c<;>try(cases c;done)
   rename_i s;simp only[aA]at c;subst c;obtain⟨M,rfl,N,O⟩:=uG rr;have D:M[0]?=some (M[0]'(by rw[N];simp)):=aT _;have⟨σ',E,F,I⟩:=one m x A t _ (O 0 x _ s_ D) j;refine⟨σ',E,F,.tuple (by simpa using N) (λi a u e k=>?_)⟩;cases i with
   |zero=>simp only[be,aA]at e;subst e;rw[D]at k;simp only[aA]at k;subst k;exact I
   |succ i=>
    simp only[dH]at e;have Q:=bI.1 s a (ai e);have:=O (i+1) a u (by simpa using e) k;have⟨u',f⟩:=dC.1 Q;have:IRel (Alw P B A0 σ' t) w1 a u:=by
     cases this with
     |data r=>exact pp Q r
     |agg h1 X Y=>
      unfold fH at f;dsimp at f;split at f<;>try(cases f;done)
      rename_i l J;refine .agg h1 X (λi a v j Z=>?_);have⟨E,F⟩:=pi _ _ J;have hi:i<l.length:=by rw[E];exact(aB.1 j).1
      have:=F i a _ j (aC hi);rw[el this (Y i a v j Z)];exact iB this
     |_=>simp[fH,cw]at f
    exact .data this
  exact one m _ _ _ v rr c
 have p:∀m z,jZ m h1 h2 r=some z->er P B A0 σ h w z.1 z.2 v w1:=λm z c=>by have⟨σ',E,F,I⟩:=D5 g hg hr1 rr c;exact⟨σ',E,(Step.stiller hr hst).trans F,I⟩
 unfold ky at hh;split at hh
 ·split at hh
  ·rename_i z c;simp only[aA]at hh;subst hh;exact n _ _ c
  split at hh
  ·rename_i z c;simp only[aA]at hh;subst hh;exact p _ _ c
  exact d _ _ hh
 ·split at hh
  ·rename_i z c;simp only[aA]at hh;subst hh;exact n _ _ c
  split at hh
  ·rename_i z c;simp only[aA]at hh;subst hh;exact p _ _ c
  exact d _ _ hh
 exact d _ _ hh
theorem HRel.start{A:Nat->Nat->Prop}(hg:lS A w):HRel P w.heap.size A [] [] w:=
 ⟨aR _,rfl,λi r k c=>by simp at c,λi u d c=>by simp at c,λi L k c=>by simp at c,λi s c=>by simp at c,λi j b x y c=>by simp at c,
  λg a h=>(hg.1 g a h).mono λb o x l e=>⟨⟨World.block_lt_of_cell? w _ e,l⟩,e⟩,λg n h=>by have⟨m,d,p,f,q⟩:=hg.2 g n h;exact⟨(aO.1 f).1,m,d,p,f,q⟩⟩
theorem lj{A:Nat->Nat->Prop}{a:AV}{v:Value}(r:IRel A w a v):IRel (Alw P w.heap.size A [] []) w a v:=
 r.mono λb o x c d=>⟨by
  have e:=World.block_lt_of_cell? w _ d;unfold Alw;rw[if_pos e];exact c,d⟩
theorem BV [DFlag] (hr:HRel P B A0 σ h w){wr:Bool}{t ty:TypeId}{s x r:AV}{h':H}{u ux:Value}(hh:bu P wr h t s x=some (r,h')) (rs:Rel P (Alw P B A0 σ h) σ h w s u) (rx:Rel P (Alw P B A0 σ h) σ h w x ux) :
  ∃v w',(Builtin.append_ #[t,t] ty #[u,ux]).run P w=.ok v w'/\er P B A0 σ h w r h' v w':=by
 unfold bu at hh;split at hh
 ·exact qV hr hh rs rx
 split at hh
 ·split at hh
  ·rename_i z a;simp only[aA]at hh;subst hh;exact qV hr a rs rx
  exact qW hr (.inl rfl) hh rs rx
 split at hh
 ·rename_i z a;simp only[aA]at hh;subst hh;exact qW hr (.inl rfl) a rs rx
 exact qV hr hh rs rx
theorem zA [DFlag] {C:Cfg}(hC:C.P=P){run:FuncId->LA->H->Option (AV × H)}(hrun:Ok P run) (hr:HRel P B A0 σ h w){f:FuncId}(hbo:eE P f=true){args:LA}{r:AV}{h':H}{vs:Array Value}
  (hh:dM C run f args h=some (r,h')) (hl:vs.size=args.length) (ha:∀(i:Nat) a v,args[i]?=some a->vs[i]?=some v->Rel P (Alw P B A0 σ h) σ h w a v) :
  Calls P f vs w (λe w'=>∃v,e=.returned v/\er P B A0 σ h w r h' v w'):=by
 subst hC;unfold dM at hh;split at hh
 ·exact hrun.fn f args h r h' hbo hh B A0 σ w vs hr hl ha
 ·split at hh<;>try(cases hh;done)
  rename_i q k l;split at hh<;>try(cases hh;done)
  simp only[aA,aD]at hh;obtain⟨rfl,rfl⟩:=hh;exact hrun.fn f args h q k hbo l B A0 σ w vs hr hl ha
 ·split at hh<;>try(cases hh;done)
  rename_i q k l;split at hh<;>try(cases hh;done)
  split at hh<;>try(cases hh;done)
  rename_i M j;simp only[aA,aD]at hh;obtain⟨rfl,rfl⟩:=hh;refine(hrun.fn f args h q k hbo l B A0 σ w vs hr hl ha).mono (λe E ⟨v,s,σ1,m,p,t⟩=>⟨v,s,?_⟩);have c:=iM k (news h k);have d:=m.stiller c;exact⟨σ1,d,p.trans (.stiller m c),.data (ji d _ _ _ _ j (t.step (.stiller m c)))⟩
 split at hh<;>try(cases hh;done)
 rename_i F j;split at hh<;>try(cases hh;done)
 rename_i G I l;have c:=iM h (cY h dD args);have d:=hr.stiller c;have⟨A,J,_⟩:=ia d _ _ _ j;have u:HRel C.P w.heap.size (Alw C.P B A0 σ (freeze h (cY h dD args))) [] [] w:=.start d.gr;refine(hrun.fn f F [] G I hbo l _ _ [] w vs u (by rw[hl,A]) (λi a v n y=>?_)).mono (λe E ⟨v,s,σ1,m,p,t⟩=>⟨v,s,?_⟩)
 ·have K:i<args.length:=by rw[<-A];exact(aB.1 n).1
  have g:=aC K;have:=J i _ a v g n ((ha i _ v g y).step (.stiller hr c));refine .data (this.mono λb o x z D=>⟨?_,D⟩);have L:=World.block_lt_of_cell? w _ D;unfold Alw;rw[if_pos L];exact z
 exact BM hr c (tC p.below p.drawn) m t hh
end
end Go.V
