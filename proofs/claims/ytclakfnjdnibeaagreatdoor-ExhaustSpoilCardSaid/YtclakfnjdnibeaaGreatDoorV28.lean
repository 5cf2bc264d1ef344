/- A part of the proof. -/
import Derived.Test.YtclakfnjdnibeaaGreatDoorV11
namespace Go.V
open Go
section
variable {P:Program}{B:Nat}{A0:Nat->Nat->Prop}{σ:List (Option Nat)}{h:H}{w:World}
theorem Step.kill [DFlag] (_:HRel P B A0 σ h w){id:Nat}{cs:LA}{st:OSt}(hid:h[id]?=some (.cells cs st)):Step P B A0 σ h w σ (h.set id (.cells cs .dead)) w where
 below:=.refl _ _
 shapes:=.refl _
 kept:=λb o x f l=>⟨by
  unfold Alw at *;split
  ·rename_i g;simpa[g]using f
  rename_i g;rw[if_neg g]at f;refine⟨λi c a=>?_,λi m n a j=>?_⟩
  ·rcases aa a with⟨_,e,_⟩|⟨_,a⟩
   ·cases e
   exact f.1 i c a
  rcases aa a with⟨_,e,_⟩|⟨_,a⟩
  ·cases e
  exact f.2 i m n a j,l⟩
 cells:=λi c d a=>⟨rfl,by
  by_cases e:i=id
  ·subst e;exact⟨cs,.dead,aH (aB.1 hid).1⟩
  exact⟨c,d,by rw[aE (λk=>e k.symm)];exact a⟩⟩
 toks:=λi u r a=>⟨u,by rw[aE (λk=>by subst k;rw[hid]at a;cases a)];exact a,aR _,λ_=>rfl⟩
 loops:=λi L d a=>⟨rfl,d,by rw[aE (λk=>by subst k;rw[hid]at a;cases a)];exact a⟩
 maps:=λi p a=>⟨rfl,p,by rw[aE (λk=>by subst k;rw[hid]at a;cases a)];exact a⟩
 marks:=λ_ q=>q
 drawn:=λ_=>aR _
theorem HRel.kill(hr:HRel P B A0 σ h w){id:Nat}{cs:LA}{st:OSt}(hid:h[id]?=some (.cells cs st)):HRel P B A0 σ (h.set id (.cells cs .dead)) w:=by
 have d:=Step.kill hr hid;refine⟨hr.base,by simpa using hr.len,λi G f a z=>?_,λi u t a=>?_,λi L f a z=>?_,λi I a=>?_,λi j k p q a J K M A F=>?_,hr.globBelow d.below,hr.tabBelow d.below⟩
 ·rcases aa a with⟨_,e,_⟩|⟨_,a⟩
  ·simp only[VObj.cells.injEq]at e;exact absurd e.2 z
  have⟨b,N,O,n,o,r,s,x,Q⟩:=hr.cells i G f a z;exact⟨b,N,O,n,o,r,s,x,λk c v S U=>(Q k c v S U).step d⟩
 ·rcases aa a with⟨_,e,_⟩|⟨_,a⟩
  ·cases e
  exact hr.tok i u t a
 ·rcases aa a with⟨_,e,_⟩|⟨_,a⟩
  ·cases e
  have⟨l,V,X,D,n,o,r,s,x⟩:=hr.loop i L f a z;exact⟨l,V,X,D,n,o,r,s,λt=>(x t).step d⟩
 ·rcases aa a with⟨_,e,_⟩|⟨_,a⟩
  ·cases e
  have⟨Y,E,g,n,o,r,s,x⟩:=hr.map i I a;exact⟨Y,E,g,n,o,r,s,λk e m Z hm=>let q:=x k e m Z hm;⟨q.1,q.2.1,q.2.2.step d⟩⟩
 have y:∀(i:Nat) p,(h.set id (.cells cs .dead))[i]?=some p->p.gone=false->h[i]?=some p:=λi p a A=>by
  rcases aa a with⟨_,e,_⟩|⟨_,a⟩
  ·subst e;cases A
  exact a
 exact hr.uniq i j k p q (y i p a A) (y j q J F) K M A F
theorem Step.move [DFlag] (hr:HRel P B A0 σ h w){id b:Nat}{cs cs':LA}{vs vs':Array Value}{ty:TypeId}(hid:h[id]?=some (.cells cs .live)) (hs:σ[id]?=some (some b))
  (hb:w.heap[b]?=some (.cells vs ty (0,0))) (hsz:vs'.size=vs.size):Step P B A0 σ h w (σ++[some b]) (h.set id (.cells cs .dead)++[.cells cs' .live]) (w.setRow b vs'):=by
 have r:=hr.lt hid rfl hs;have d:(h.set id (.cells cs .dead)).length=h.length:=s_;have m:∀ {i:Nat}{x:VObj},h[i]?=some x->i≠id->(h.set id (.cells cs .dead)++[.cells cs' .live])[i]?=some x:=fun {i x} a g=>by rw[aP (by rw[d];exact(aB.1 a).1),aE (λk=>g k.symm)];exact a
 have n:∀ {i:Nat}{x:VObj},h[i]?=some x->(σ++[some b])[i]?=σ[i]?:=fun {i x} a=>getElem?_push_lt σ _ (by rw[hr.len];exact(aB.1 a).1)
 refine⟨rJ r.2,qN hb hsz,λk o x j s=>?_,λi l p a=>⟨n a,?_⟩,λi u ty a=>⟨u,m a (λe=>by subst e;rw[hid]at a;cases a),aR _,λ_=>n a⟩,
  λi L p a=>⟨n a,p,m a (λe=>by subst e;rw[hid]at a;cases a)⟩,λi v a=>⟨n a,v,m a (λe=>by subst e;rw[hid]at a;cases a)⟩,λk y=>ib hb y s_,λ_=>aR _⟩
 ·have g:k≠b:=by intro e;subst e;unfold Alw at j;rw[if_neg o_]at j;exact j.1 id cs hid hs
  refine⟨?_,by rw[sv g];exact s⟩;unfold Alw at *;split
  ·rename_i q;simpa[q]using j
  rename_i q;rw[if_neg q]at j;refine⟨λi l a f=>?_,λi u t a f=>?_⟩
  ·rcases bX a with⟨c,a⟩|⟨rfl,_⟩
   ·rw[d]at c;rw[getElem?_push_lt σ _ (by rw[hr.len];exact c)]at f;rcases aa a with⟨_,e,_⟩|⟨_,a⟩
    ·cases e
    exact j.1 i l a f
   rw[d,<-hr.len,ar]at f;simp only[aA]at f;exact g f.symm
  rcases bX a with⟨c,a⟩|⟨_,e⟩
  ·rw[d]at c;rw[getElem?_push_lt σ _ (by rw[hr.len];exact c)]at f;rcases aa a with⟨_,e,_⟩|⟨_,a⟩
   ·cases e
   exact j.2 i u t a f
  cases e
 by_cases e:i=id
 ·subst e;exact⟨cs,.dead,by rw[aP (by rw[d];exact(aB.1 hid).1)];exact aH (aB.1 hid).1⟩
 exact⟨l,p,m a e⟩
theorem HRel.move(hr:HRel P B A0 σ h w){id b:Nat}{cs cs':LA}{vs vs':Array Value}{ty:TypeId}(hid:h[id]?=some (.cells cs .live)) (hs:σ[id]?=some (some b))
  (hb:w.heap[b]?=some (.cells vs ty (0,0))) (hsz:vs'.size=vs.size) (hl':cs'.length<=vs.size) (h1:∀c∈cs',c.one=true)
  (hrel:∀(k:Nat) c v,cs'[k]?=some c->vs'[k]?=some v->Rel P (Alw P B A0 σ h) σ h w c v):HRel P B A0 (σ++[some b]) (h.set id (.cells cs .dead)++[.cells cs' .live]) (w.setRow b vs'):=by
 have f:=Step.move (cs':=cs') hr hid hs hb hsz;have N:=hr.lt hid rfl hs;have o:(h.set id (.cells cs .dead)).length=h.length:=s_;have I:∀ {i:Nat}{x:VObj},(h.set id (.cells cs .dead)++[.cells cs' .live])[i]?=some x->x.gone=false->(i<h.length/\i≠id/\h[i]?=some x/\(σ++[some b])[i]?=σ[i]?)\/(i=h.length/\x=.cells cs' .live):=fun {i x} a hg=>by
  rcases bX a with⟨c,a⟩|⟨e,e2⟩
  ·rw[o]at c;rcases aa a with⟨_,e,_⟩|⟨d,a⟩
   ·subst e;cases hg
   exact .inl ⟨c,d,a,getElem?_push_lt σ _ (by rw[hr.len];exact c)⟩
  exact .inr ⟨by rw[e,o],e2⟩
 refine⟨by simpa using hr.base,by simp[hr.len],λi c2 O a J=>?_,λi u t a=>?_,λi L O a J=>?_,λi r a=>?_,λi j k p q a M s y Q S=>?_,hr.globBelow f.below,hr.tabBelow f.below⟩
 ·rcases I a (rh J)with⟨_,d,a,r⟩|⟨rfl,e⟩
  ·have⟨g,U,t2,n,z,A,E,K,k6⟩:=hr.cells i c2 O a J;have F:g≠b:=λe=>d (hr.uniq i id b _ _ a hid (by rw[n,e]) hs (rh J) rfl)
   exact⟨g,U,t2,by rw[r];exact n,z,by rw[setRow_other w b g vs' F];exact A,E,K,λk c v V X=>(k6 k c v V X).step f⟩
  simp only[VObj.cells.injEq]at e;obtain⟨rfl,rfl⟩:=e;exact⟨b,vs',ty,by rw[<-hr.len,ar],N.2,setRow_heap w b vs vs' _ _ hb,o_,h1,λk c v V X=>(hrel k c v V X).step f⟩
 ·rcases I a rfl with⟨_,d,a,r⟩|⟨_,e⟩
  ·rcases hr.tok i u t a with k|⟨g,U,sz,Y,n,z,A,E⟩
   ·exact .inl (by rw[r];exact k)
   have F:g≠b:=λe=>d (hr.uniq i id b _ _ a hid (by rw[n,e]) hs rfl rfl)
   exact .inr ⟨g,U,sz,Y,by rw[r];exact n,z,by rw[setRow_other w b g vs' F];exact A,E⟩
  cases e
 ·rcases I a (uT J)with⟨_,d,a,r⟩|⟨_,e⟩
  ·have⟨l,fn,tm,D,n,z,A,E,K⟩:=hr.loop i L O a J;exact⟨l,fn,tm,D,by rw[r];exact n,z,ib hb A s_,E,λt=>(K t).step f⟩
  cases e
 ·rcases I a rfl with⟨_,d,a,Z⟩|⟨_,e⟩
  ·have⟨g,q',G,n,z,A,E,K⟩:=hr.map i r a;exact⟨g,q',G,by rw[Z];exact n,z,ib hb A s_,E,λk e m he hm=>let q:=K k e m he hm;⟨q.1,q.2.1,q.2.2.step f⟩⟩
  cases e
 rcases I a Q with⟨_,ni,a,ei⟩|⟨rfl,ei⟩<;>rcases I M S with⟨_,nj,M,ej⟩|⟨rfl,ej⟩
 ·rw[ei]at s;rw[ej]at y;exact hr.uniq i j k p q a M s y Q S
 ·rw[<-hr.len,ar]at y;simp only[aA]at y;rw[ei]at s;exact absurd (hr.uniq i id k _ _ a hid s (by rw[hs,y]) Q rfl) ni
 ·rw[<-hr.len,ar]at s;simp only[aA]at s;rw[ej]at y;exact absurd (hr.uniq j id k _ _ M hid y (by rw[hs,s]) S rfl) nj
 rfl
structure SrcRun (P:Program) (w:World) (sz m:Nat) (u:TypeId) (ux:Value) (fy:List Value):Prop where
 type:(∃e,P.underlying u=some (.slice e))\/P.underlying u=some .string
 len:Builtin.lenOf ux=pure m
 cells:∀w',(∀a v,w.cell? a=some v->w'.cell? a=some v)->(Builtin.firstCells sz m ux).run P w'=.ok fy.toArray w'
 short:∀n,n<=m->∀w',(∀a v,w.cell? a=some v->w'.cell? a=some v)->(Builtin.firstCells sz n ux).run P w'=.ok (fy.take (n*sz)).toArray w'
 size:fy.length=m*sz
theorem Bl(hr:HRel P B A0 σ h w){sz m:Nat}{x:AV}{ys:LA}{ux:Value}{u:TypeId}(hh:qM h sz x=some (ys,m)) (rx:Rel P (Alw P B A0 σ h) σ h w x ux) (h0:0<sz)
  (hu:(∃e,P.underlying u=some (.slice e))\/P.underlying u=some .string) :
  ys.length=m*sz/\(∀c∈ys,c.one=true)/\∃fy:List Value,SrcRun P w sz m u ux fy/\∀(k:Nat) c v,ys[k]?=some c->fy[k]?=some v->Rel P (Alw P B A0 σ h) σ h w c v:=by
 have slice:∀(r:Addr) (n c:Nat) (fy:List Value),fy.length=n*sz->(∀(j:Nat) v,fy[j]?=some v->w.cell? (r.add j)=some v)->SrcRun P w sz n u (.slice (some r) n c) fy:=λr n c fy L f=>
  ⟨hu,rfl,λp M=>run_firstCells_some (P:=P) p sz n r n c fy L (λj v d=>M _ _ (f j v d)),λk t p M=>by
   have:=run_firstCells_some (P:=P) p sz k r n c (fy.take (k*sz)) (by rw[ag,L,oJ (cQ _ t)]) (λj v d=>by
    rw[cS]at d;split at d<;>try(cases d;done)
    exact M _ _ (f j v d))
   exact this,L⟩
 unfold qM at hh;split at hh<;>try(cases hh;done)
 ·rename_i Y e;split at hh<;>try(cases hh;done)
  rename_i Z;simp only[aA,aD]at hh;obtain⟨rfl,rfl⟩:=hh;have⟨G,N,h2⟩:=wQ (mT rx) Z h0;have⟨z,O⟩:=AY Y G N;refine⟨z,λc f=>?_,G,?_,λk c v f d=>?_⟩
  ·obtain⟨k,t,rfl⟩:=bg f;exact(O k _ (aC t)).1
  ·rcases h2 with⟨rfl,rfl⟩|⟨a,A,rfl,_,_,e2⟩
   ·have q:G=[]:=bt (by simpa using N.1);subst q;exact⟨hu,rfl,λp _=>by simp[Builtin.firstCells],λn I p _=>by simp[Builtin.firstCells],s_⟩
   exact slice a _ A G N.1 e2
  have⟨_,y,Q,y2⟩:=O k c f;rw[d]at Q;simp only[aA]at Q;subst Q;exact .data y2
 ·rename_i id g l n A;obtain⟨b,c,rfl,g1,g2,g3,g4,g5,g6,g7⟩:=kL rx;have D:∀o J,h[id]?=some (.cells o J)->J≠.dead->(if l=sz/\g+n*sz<=o.length then some ((o.drop g).take (n*sz),n)else none)=some (ys,m) ->
    ys.length=m*sz/\(∀c∈ys,c.one=true)/\∃fy:List Value,SrcRun P w sz m u (.slice (some ⟨b,g,none⟩) n c) fy/\∀(k:Nat) c v,ys[k]?=some c->fy[k]?=some v->Rel P (Alw P B A0 σ h) σ h w c v:=by
   intro o J i S hh;split at hh<;>try(cases hh;done)
   rename_i K;obtain⟨rfl,K⟩:=K;simp only[aA,aD]at hh;obtain⟨rfl,rfl⟩:=hh;have⟨b',U,ty,z,O,k3,k4,k5,k6⟩:=hr.cells id o J i S;rw[g1]at z;simp only[aA]at z;subst z;have q:((U.toList.drop g).take (n*l)).length=n*l:=by simp;omega
   refine⟨by simp;omega,λc f=>k5 c (dE (bW f)),(U.toList.drop g).take (n*l),slice _ n c _ q (λj v d=>?_),λk c v f d=>?_⟩
   ·rw[cS]at d;split at d<;>try(cases d;done)
    rw[cE,bM]at d;rw[fV,cell_of_row w b _ U ty _ k3];exact d
   rw[cS]at f d;split at f<;>try(cases f;done)
   rename_i t;rw[if_pos t]at d;rw[cE]at f d;rw[bM]at d;exact k6 _ c v f d
  split at hh<;>try(cases hh;done)
  ·rename_i o i;exact D o _ i s_ hh
  rename_i o i;exact D o _ i s_ hh
 rename_i s;split at hh<;>try(cases hh;done)
 rename_i V;subst V;simp only[aA,aD]at hh;obtain⟨rfl,rfl⟩:=hh;rw[zE rx];have E:s.data.toList.length=s.size:=dR;have F:(s.data.toList.map λb=>Value.int .u8 b.toNat).length=s.size:=by rw[aU,E]
 have X:(s.data.toList.map λb=>AV.int .u8 b.toNat).length=s.size:=by rw[aU,E]
 have short:∀n,n<=s.size->((s.extract 0 n).data.map λb=>Value.int .u8 b.toNat)=((s.data.toList.map λb=>Value.int .u8 b.toNat).take n).toArray:=λn I=>by apply Array.ext';have q':n<=s.data.size:=I;simp[List.extract_eq_take_drop]
 refine⟨by rw[X,oC],λc f=>?_,s.data.toList.map (λb=>Value.int .u8 b.toNat),⟨hu,rfl,λp _=>?_,λn I p _=>?_,by rw[F,oC]⟩,λk c v f d=>?_⟩
 ·obtain⟨b,_,rfl⟩:=bV.1 f;rfl
 ·have:=short s.size (aR _);rw[cq (by rw[F];exact aR _)]at this;simp only[Builtin.firstCells,Sem.run_pure,this]
 ·have:=short n I;simp only[Builtin.firstCells,Sem.run_pure,this,oC]
 rw[ba]at f d;obtain⟨b,K,rfl⟩:=cV.1 f;rw[K]at d;simp only[bq,aA]at d;subst d;exact .data (.int _ _)
theorem Cq{t u ty e te:TypeId}{i:TypeInfo}(ht:P.underlying t=some (.slice e)) (hi:P.info? e=some i){m:Nat}{ux:Value}{fy:List Value}(S:SrcRun P w i.size m u ux fy)
  (g o sLen sCap:Nat) (cur:Array Value) (hg:w.heap[g]?=some (.cells cur te (0,0))) (h1:∀u∈fy,u.oneCell'=true)
  (hroom:sLen+m<=sCap) (hfit:o+sLen*i.size+fy.length<=cur.size) :
  (Builtin.append_ #[t,u] ty #[.slice (some ⟨g,o,none⟩) sLen sCap,ux]).run P w =
   .ok (.slice (some ⟨g,o,none⟩) (sLen+m) sCap) (w.setRow g (cur.toList.take (o+sLen*i.size)++fy++cur.toList.drop (o+sLen*i.size+fy.length)).toArray):=by
 have c:=S.cells w (λ_ _ h=>h);have a:=run_storeCells_at P g (o+sLen*i.size) te fy 0 cur w hg (by simpa using hfit) h1;simp only[df]at a;rcases S.type with⟨d,b⟩|b<;>simp[Builtin.append_,bd ht,bd b,sizeOf,typeInfo,hi,S.len,hroom,c,fV,a]
theorem sQ{t u ty e:TypeId}{i:TypeInfo}(ht:P.underlying t=some (.slice e)) (hi:P.info? e=some i){ux:Value}{fy:List Value}(S:SrcRun P w i.size 0 u ux fy)
  (base:Option Addr) (n cap:Nat) (hc:n<=cap):(Builtin.append_ #[t,u] ty #[.slice base n cap,ux]).run P w=.ok (.slice base n cap) w:=by
 have c:=S.cells w (λ_ _ h=>h);have a:fy=[]:=bt (by rw[S.size];simp);subst a;rcases S.type with⟨d,b⟩|b<;>cases base<;>simp[Builtin.append_,bd ht,bd b,sizeOf,typeInfo,hi,S.len,hc,c,storeCells]
theorem un [DFlag] {t u ty e:TypeId}{i:TypeInfo}{z:Value}(ht:P.underlying t=some (.slice e)) (hi:P.info? e=some i) (hz:i.zero=some z) (hzs:z.cells.size=i.size)
  {m n cap:Nat}{base:Option Addr}{ux:Value}{fx fy:List Value}(S:SrcRun P w i.size m u ux fy) (hfx:fx.length=n*i.size)
  (hb:∀a,base=some a->∀(j:Nat) x,fx[j]?=some x->w.cell? (a.add j)=some x) (hb0:base=none->n=0) (hroom:cap<n+m) (hfit:(n+m)*(i.bytes+1)<=35184372088832) :
  ∃cap' vs w',(Builtin.append_ #[t,u] ty #[.slice base n cap,ux]).run P w=.ok (.slice (some ⟨w.heap.size,0,none⟩) (n+m) cap') w'/\Grows w w'/\w'.heap[w.heap.size]?=some (.cells vs e (0,0)) /\
   vs.size=cap'*i.size/\n+m<=cap'/\cap'<=maxLen/\∀(k:Nat) x,(fx++fy)[k]?=some x->vs[k]?=some x:=by
 have⟨A,q⟩:=xp hfit;have b:n+m<=maxLen:=by simp only[maxLen];omega
 have l:=grownCap_ge w (n+m) cap e;have c:∀a v,w.cell? a=some v->w.drew.cell? a=some v:=λ_ _ h=>h
 have r:=S.cells w.drew c;have o:(Builtin.firstCells i.size n (.slice base n cap)).run P w.drew=.ok fx.toArray w.drew:=by
  cases base with
  |none=>have:fx=[]:=bt (by rw[hfx,hb0 rfl];simp);subst this;simp[Builtin.firstCells]
  |some a=>exact run_firstCells_some (P:=P) w.drew i.size n a n cap fx hfx (λj x g=>c _ _ (hb a rfl j x g))
 have s:¬(n+m<=cap):=o_;have d:¬(9223372036854775807<((n:Int)+(m:Int))):=by simp only[maxLen]at b;omega
 have B:=growslice_fits hroom q;have f:¬(281474976710656<Builtin.nextslicecap (n+m) cap*i.bytes):=o_;refine⟨grownCap w (n+m) cap e,fx.toArray++fy.toArray++Builtin.zeroCells z.cells (grownCap w (n+m) cap e-(n+m)),w.drew.alloc (.cells (fx.toArray++fy.toArray++Builtin.zeroCells z.cells (grownCap w (n+m) cap e-(n+m))) e),?_,
  (Grows.drew w).trans (Grows.alloc _ _),heap_alloc_new w.drew _,?_,l,grownCap_le_maxLen w _ cap e b,λk x g=>?_⟩
 ·rcases S.type with⟨D,p⟩|p<;>simp[Builtin.append_,bd ht,bd p,sizeOf,typeInfo,zeroValue,hi,hz,S.len,s,d,f,Question.forced,r,o,newRow,grownCap]<;>(congr 2;apply Array.ext';simp)
 ·simp only[mj,eX,kP,hzs,hfx,S.size,<-fD];congr 1;omega
 have y:=(aB.1 g).1;rw[cT (by simpa using y)];simpa using g
theorem qW [DFlag] (hr:HRel P B A0 σ h w){t u ty:TypeId}{s x r:AV}{h':H}{us ux:Value}(hu:u=t\/AP P u=true) (hh:fM P h t s x=some (r,h')) (rs:Rel P (Alw P B A0 σ h) σ h w s us) (rx:Rel P (Alw P B A0 σ h) σ h w x ux) :
  ∃v w',(Builtin.append_ #[t,u] ty #[us,ux]).run P w=.ok v w'/\er P B A0 σ h w r h' v w':=by
 unfold fM at hh;split at hh<;>try(cases hh;done)
 rename_i e ht;split at hh<;>try(cases hh;done)
 rename_i sz z7 z8 z9;split at hh<;>try(cases hh;done)
 rename_i hg;simp only[bo,cN,beq_iff_eq,not_or,iy]at hg;have⟨y',y7⟩:=hg;have h0:0<sz:=o_;have⟨i,z,X,hz,q5⟩:=nh y';have q6:i.size=sz:=by simpa[cr,X]using z8
 have q7:i.bytes=z7:=by simpa[hG,X]using z9
 subst q6 q7;have y0:(∃e,P.underlying u=some (.slice e))\/P.underlying u=some .string:=by
  rcases hu with rfl|hu
  ·exact .inl ⟨e,ht⟩
  right;unfold AP at hu;split at hu
  ·assumption
  cases hu
 split at hh<;>try(cases hh;done)
 rename_i p m q8;have⟨q1,q2,M,S,q3⟩:=Bl (u:=u) hr q8 rx h0 y0;have U:=S.size;have q9:∀y∈M,y.oneCell'=true:=λy Y=>by obtain⟨k,q,rfl⟩:=bg Y;have d:p[k]?=some (p[k]' o_):=aC _;exact zF (q3 k _ _ d (aC q)) (q2 _ (aF _))
 split at hh<;>try(cases hh;done)
 ·rename_i N;obtain⟨base,n,rfl,hd⟩:=qj rs;split at hh
  ·rename_i A;subst A;simp only[aA,aD]at hh;obtain⟨rfl,rfl⟩:=hh;exact⟨_,w,sQ ht X S base n n (aR _),σ,hr,.refl _ _ _,rs⟩
  rename_i A;split at hh<;>try(cases hh;done)
  rename_i d;have⟨y3,D⟩:=d;simp only[aA,aD]at hh;obtain⟨rfl,rfl⟩:=hh;have⟨fx,fX,hX⟩:=wQ hd y3 h0;have⟨V,k2⟩:=AY N fx fX;obtain⟨Z,q',y4⟩:n=N.length/\(∀a,base=some a->∀(j:Nat) x,fx[j]?=some x->w.cell? (a.add j)=some x)/\(base=none->n=0):=by
   rcases hX with⟨rfl,O⟩|⟨a,cap,O,_,_,e3⟩
   ·simp only[Value.slice.injEq]at O;exact⟨O.2.1,(λa Q=>by rw[O.1]at Q;cases Q),λ_=>O.2.1⟩
   simp only[Value.slice.injEq]at O;exact⟨O.2.1,λa' Q=>by rw[O.1]at Q;simp only[aA]at Q;subst Q;exact e3,λe=>by rw[O.1]at e;cases e⟩
  subst Z;have⟨z',g,w',p1,p2,p3,p4,p5,p6,p7⟩:=un (ty:=ty) (cap:=N.length) ht X hz q5 S fX.1 q' y4 o_ D;have Y:∀b,some w.heap.size=some b->w.heap.size<=b:=λb hb=>by simp only[aA]at hb;omega
  have z0:(N.flatMap AV.cells++p).length<=g.size:=by rw[aL,V,q1,p4,<-fD];exact cQ _ p5
  have hR:=HRel.push hr p2 (.cells (N.flatMap AV.cells++p) .live) (some w.heap.size) Y (λE st e=>by
   simp only[VObj.cells.injEq]at e;obtain⟨rfl,rfl⟩:=e;refine⟨_,g,_,rfl,p3,z0,λc d=>?_,λk c x d f=>?_⟩
   ·rcases ac.1 d with d|d
    ·obtain⟨k,q,rfl⟩:=bg d;exact(k2 k _ (aC q)).1
    exact q2 c d
   by_cases q:k<(N.flatMap AV.cells).length
   ·rw[aP q]at d;have⟨_,y,y1,y2⟩:=k2 k c d;have:=p7 k y (by rw[aP (by rw[fX.1,<-V];exact q)];exact y1);rw[this]at f;simp only[aA]at f;subst f;exact .data y2
   rw[aj o_]at d;have q0:k-(N.flatMap AV.cells).length<M.length:=by rw[U,<-q1];exact(aB.1 d).1
   have F:M[k-(N.flatMap AV.cells).length]?=some (M[k-(N.flatMap AV.cells).length]'q0):=aC _;have:=p7 k _ (by rw[aj (by rw[fX.1,<-V];omega),fX.1,<-V];exact F);rw[this]at f;simp only[aA]at f;subst f;exact q3 _ c _ d F) (λ_ _ e=>by cases e)
  refine⟨_,w',p1,_,hR,Step.push hr p2 _ _ Y,?_⟩;exact .msl (by rw[<-hr.len,ar]) ⟨_,_,ar h _⟩ h0 p5 p6 (λn Z=>by cases Z) ⟨g,e,_,p3,by rw[p4];omega⟩
 rename_i id y8 y9 n cap;obtain⟨b,c,rfl,g1,g2,g3,g4,g5,g6,vw,tw,fw,g7,g8⟩:=kL rs;split at hh
 ·rename_i A;subst A;simp only[aA,aD]at hh;obtain⟨rfl,rfl⟩:=hh;exact⟨_,w,sQ ht X S _ n c g4,σ,hr,.refl _ _ _,rs⟩
 rename_i A;split at hh<;>try(cases hh;done)
 rename_i E G;split at hh<;>try(cases hh;done)
 rename_i d;obtain⟨rfl,rfl,z1,D⟩:=d;simp only[aA,aD]at hh;obtain⟨rfl,rfl⟩:=hh;have⟨b',g,tb,V,k2,k3,k4,k5,k6⟩:=hr.cells id E _ G s_;rw[g1]at V;simp only[aA]at V;subst V;rw[k3]at g7;simp only[aA,Obj.cells.injEq]at g7;obtain⟨rfl,rfl,rfl⟩:=g7;have z2:(E.take (n*i.size)++p).length=n*i.size+m*i.size:=by rw[aL,ag,q1];omega
 have I:∀c∈E.take (n*i.size)++p,c.one=true:=λc d=>by
  rcases ac.1 d with d|d
  ·exact k5 c (bW d)
  exact q2 c d
 by_cases l:n+m<=c
 ·have x':n*i.size+m*i.size<=c*i.size:=by rw[<-fD];exact cQ _ l
  have J:0+n*i.size+M.length<=g.size:=o_;have z3:=Cq (ty:=ty) ht X S b 0 n c g k3 q9 l J;have K:(g.toList.take (0+n*i.size)++M++g.toList.drop (0+n*i.size+M.length)).toArray.size=g.size:=by simp;omega
  have hR:=HRel.move (cs':=E.take (n*i.size)++p) hr G g1 k3 K o_ I (λk x v f o=>by
   rw[dB,eU _ _ _ (by simpa using J)]at o;rw[cH]at o;by_cases q:k<n*i.size
   ·rw[aP (by rw[ag];omega),cS,if_pos q]at f;rw[if_neg o_,bM]at o;exact k6 k x v f o
   rw[aj (by rw[ag];omega),ag,oJ z1]at f;have:=(aB.1 f).1;rw[if_pos ⟨o_,o_⟩]at o;exact q3 _ x v f o)
  have st:=Step.move (cs':=E.take (n*i.size)++p) hr G g1 k3 K;refine⟨_,_,z3,_,hR,st,?_⟩;have L:=ar (h.set id (.cells E .dead)) (VObj.cells (E.take (n*i.size)++p) .live);rw[ld]at L;exact .msl (by rw[<-hr.len,ar]) ⟨_,_,L⟩ h0 l g5 (λn Z=>by cases Z) ⟨_,_,_,setRow_heap w b g _ _ _ k3,by rw[K];exact g8⟩
 have⟨z',z4,w',p1,p2,p3,p4,p5,p6,p7⟩:=un (ty:=ty) (cap:=c) (fx:=g.toList.take (n*i.size)) (base:=some ⟨b,0,none⟩) ht X hz q5 S (by simp;omega) (λa Q j x f=>by
  simp only[aA]at Q;subst Q;rw[cS]at f;split at f<;>try(cases f;done)
  rw[fV,cH,cell_of_row w b j g tb _ k3,<-bM];exact f) (λe=>by cases e) o_ D
 have q4:=Step.kill hr G;have z5:=HRel.kill hr G;have Y:∀b,some w.heap.size=some b->w.heap.size<=b:=λb hb=>by simp only[aA]at hb;omega
 have hR:=HRel.push z5 p2 (.cells (E.take (n*i.size)++p) .live) (some w.heap.size) Y (λx0 st e=>by
  simp only[VObj.cells.injEq]at e;obtain⟨rfl,rfl⟩:=e;refine⟨_,z4,_,rfl,p3,by rw[z2,p4,<-fD];exact cQ _ p5,I,λk x v f o=>?_⟩;by_cases q:k<n*i.size
  ·rw[aP (by rw[ag];omega),cS,if_pos q]at f;have y5:k<g.size:=o_;have z6:g[k]?=some g[k]:=aT y5;have:=p7 k g[k] (by rw[aP (by simp;omega),cS,if_pos q,bM];exact z6);rw[this]at o;simp only[aA]at o;subst o;exact(k6 k x _ f z6).step q4
  rw[aj (by rw[ag];omega),ag,oJ z1]at f;have q0:k-n*i.size<M.length:=by rw[U,<-q1];exact(aB.1 f).1
  have F:M[k-n*i.size]?=some (M[k-n*i.size]'q0):=aC _;have y6:(g.toList.take (n*i.size)).length=n*i.size:=by simp;omega
  have:=p7 k _ (by rw[aj o_,y6];exact F);rw[this]at o;simp only[aA]at o;subst o;exact(q3 _ x _ f F).step q4) (λ_ _ e=>by cases e)
 refine⟨_,w',p1,_,hR,q4.trans (Step.push z5 p2 _ _ Y),?_⟩;have L:=ar (h.set id (.cells E .dead)) (VObj.cells (E.take (n*i.size)++p) .live);rw[ld]at L;exact .msl (by rw[<-hr.len,ar]) ⟨_,_,L⟩ h0 p5 p6 (λn Z=>by cases Z) ⟨z4,e,_,p3,by rw[p4];omega⟩
theorem BU [DFlag] (hr:HRel P B A0 σ h w){t u ty:TypeId}{s r:AV}{h':H}{us:Value}{nn:Int}(hu:P.underlying u=some (.int .i64)) (hh:ob P h t s nn=some (r,h')) (rs:Rel P (Alw P B A0 σ h) σ h w s us) :
  ∃v w',(Builtin.append_ #[t,u] ty #[us,.int .i64 nn]).run P w=.ok v w'/\er P B A0 σ h w r h' v w':=by
 unfold ob at hh;split at hh<;>try(cases hh;done)
 rename_i e d ht;split at hh<;>try(cases hh;done)
 rename_i sz z' z z1 z2 hz;split at hh<;>try(cases hh;done)
 rename_i g;have⟨z3,h0,z4,y7,X⟩:=g;have⟨i,z0,Q,z5,y8⟩:=nh z3;have Y:i.size=sz:=by simpa[cr,Q]using z1
 have Z:i.bytes=z':=by simpa[hG,Q]using z2
 subst Y Z;have⟨v,e1,p,i2,e3,e4⟩:=lf (A:=Alw P B A0 σ h) (σ:=σ) (h:=h) (w:=w) hz;rw[Q]at e3;simp only[aA]at e3;subst e3;have⟨y1,y2,y3⟩:=oh p (mM hz);have D:v.cells.size=i.size:=o_;have z6:(zeroValue e).run P w.drew=.ok v w.drew:=by simp only[zeroValue,Sem.run_bind,typeInfo,run_program,Q,Result.andThen_ok,z5,Sem.run_pure]at e1 ⊢;simpa using e1
 obtain⟨f,n,rfl,hd⟩:=qj rs;have⟨b1,b2⟩:=xp X;obtain⟨m,rfl⟩:∃m:Nat,nn=m:=⟨nn.toNat,o_⟩
 simp only[fE]at *;have⟨E,S,hX⟩:=wQ hd z4 h0;have⟨k1,k2⟩:=AY d E S;obtain⟨hn,I,z7⟩:n=d.length/\(∀a,f=some a->∀(j:Nat) x,E[j]?=some x->w.cell? (a.add j)=some x)/\(f=none->n=0):=by
  rcases hX with⟨rfl,p⟩|⟨a,y9,p,_,_,e3⟩
  ·simp only[Value.slice.injEq]at p;exact⟨p.2.1,(λa U=>by rw[p.1]at U;cases U),λ_=>p.2.1⟩
  simp only[Value.slice.injEq]at p;exact⟨p.2.1,λa' U=>by rw[p.1]at U;simp only[aA]at U;subst U;exact e3,λe=>by rw[p.1]at e;cases e⟩
 subst hn;have hw:IntKind.i64.wrap (m:Int)=m:=IntWalk.i64_in _ o_;have x':m*i.bytes<=140737488355328:=by have:=cQ i.bytes (show m<=d.length+m by omega);omega
 have y6:¬((m:Int)*i.bytes>2 ^ 48):=by have:((m*i.bytes:Nat):Int)=(m:Int)*i.bytes:=s_;omega
 split at hh
 ·rename_i q;have q:m=0:=o_;subst q;simp only[aA,aD]at hh;obtain⟨rfl,rfl⟩:=hh;refine⟨_,w,?_,σ,hr,.refl _ _ _,rs⟩;have z8:IntKind.i64.wrap 0=0:=by simpa using hw
  cases f<;>simp[Builtin.append_,bd ht,bd hu,sizeOf,typeInfo,Q,asInt,asIntOf,z8,storeCells]
 rename_i q;have q:m≠0:=o_;simp only[aA,aD]at hh;obtain⟨rfl,rfl⟩:=hh;have F:d.length+m<=maxLen:=by simp only[maxLen];omega
 have J:=grownCap_ge w (d.length+m) d.length e;have z9:(Builtin.firstCells i.size d.length (.slice f d.length d.length)).run P w.drew=.ok E.toArray w.drew:=by
  cases f with
  |none=>have hz:d.length=0:=z7 rfl;have:E=[]:=bt (by rw[S.1,hz];simp);subst this;simp[Builtin.firstCells]
  |some a=>exact run_firstCells_some (P:=P) w.drew i.size d.length a d.length d.length E S.1 (λj x o=>I a rfl j x o)
 have y':¬(d.length+m<=d.length):=o_;have q':¬(9223372036854775807<((d.length:Int)+(m:Int))):=by simp only[maxLen]at F;omega
 have hg:=growslice_fits (show d.length<d.length+m by omega) b2;have q0:¬(281474976710656<Builtin.nextslicecap (d.length+m) d.length*i.bytes):=o_;have y0:m*i.size≠0:=Nat.mul_ne_zero q o_;have hZ:(Builtin.zeroCells v.cells m).size=m*i.size:=by rw[kP,D]
 have K:∀k,k<m*i.size->(Builtin.zeroCells v.cells m)[k]?=v.cells[k%v.cells.size]?:=λk V=>vC v.cells m o_ k (by rw[D];exact V)
 have q3:((List.replicate m z.cells).flatten).length=m*i.size:=by simp[e4]
 generalize G:grownCap w (d.length+m) d.length e=cap' at J;have y4:cap'<=maxLen:=by rw[<-G];exact grownCap_le_maxLen w _ d.length e F
 let vs:=E.toArray++Builtin.zeroCells v.cells m++Builtin.zeroCells v.cells (cap'-(d.length+m))
 have q4:vs.size=cap'*i.size:=by simp only[vs,mj,eX,kP,D,S.1,<-fD];congr 1;omega
 have q5:(Builtin.append_ #[t,u] ty #[.slice f d.length d.length,.int .i64 m]).run P w=.ok (.slice (some ⟨w.heap.size,0,none⟩) (d.length+m) cap') (w.drew.alloc (.cells vs e)):=by
  have L:(Question.appendCap (d.length+m) d.length e).cut (w.tape w.drawn (Question.appendCap (d.length+m) d.length e))=cap':=by rw[<-G];rfl
  have q6:¬((m:Int)<0):=o_;have M:¬(281474976710656<(m:Int)*i.bytes):=o_;simp[Builtin.append_,bd ht,bd hu,sizeOf,typeInfo,Q,asInt,asIntOf,hw,q6,y',q',q0,M,y0,Question.forced,z9,z6,newRow,L,vs]
 have q7:Grows w (w.drew.alloc (.cells vs e)):=(Grows.drew w).trans (Grows.alloc _ _);have q8:(w.drew.alloc (.cells vs e)).heap[w.heap.size]?=some (.cells vs e (0,0)):=heap_alloc_new w.drew _;have hy:∀b,some w.heap.size=some b->w.heap.size<=b:=λb hb=>by simp only[aA]at hb;omega
 have q9:(d.flatMap AV.cells++(List.replicate m z.cells).flatten).length<=vs.size:=by rw[aL,k1,q3,q4,<-fD];exact cQ _ J
 have hR:=HRel.push hr q7 (.cells (d.flatMap AV.cells++(List.replicate m z.cells).flatten) .live) (some w.heap.size) hy (λcs st e=>by
  simp only[VObj.cells.injEq]at e;obtain⟨rfl,rfl⟩:=e;refine⟨_,vs,_,rfl,q8,q9,λc g=>?_,λk c x g o=>?_⟩
  ·rcases ac.1 g with g|g
   ·obtain⟨k,V,rfl⟩:=bg g;exact(k2 k _ (aC V)).1
   have⟨l,hl,g⟩:=List.mem_flatten.1 g;rw[(pX.1 hl).2]at g;exact y2 c g
  by_cases V:k<(d.flatMap AV.cells).length
  ·rw[aP V]at g;have⟨_,y,q1,q2⟩:=k2 k c g;have y5:k<E.length:=by rw[S.1,<-k1];exact V
   simp only[vs]at o;rw[Array.append_assoc,cT (by simpa using y5)]at o;rw[dB,q1]at o;simp only[aA]at o;subst o;exact .data q2
  rw[aj o_]at g;have N:=(aB.1 g).1;rw[q3]at N;rw[iT z.cells m _ (by rw[e4];exact N)]at g;simp only[vs]at o;have O:E.length=(d.flatMap AV.cells).length:=by rw[S.1,k1]
  rw[Array.append_assoc,iA (by rw[eX,O];omega),cT (by rw[eX,O,hZ];omega)]at o;simp only[eX,O]at o;rw[K _ N,D]at o;rw[e4]at g;exact y3 _ c x g o) (λ_ _ e=>by cases e)
 refine⟨_,_,q5,_,hR,Step.push hr q7 _ _ hy,?_⟩;exact .msl (by rw[<-hr.len,ar]) ⟨_,_,ar h _⟩ h0 J y4 (λn hn=>by cases hn) ⟨vs,e,_,q8,by rw[q4];omega⟩
theorem Dc [DFlag] (hr:HRel P B A0 σ h w){t ty:TypeId}{x:AV}{h':H}{ux:Value}(hh:vc P h t x=some h') (rx:Rel P (Alw P B A0 σ h) σ h w x ux) :
  ∃w',(Builtin.clear_ #[t] ty #[ux]).run P w=.ok (.tuple #[]) w'/\HRel P B A0 σ h' w'/\Step P B A0 σ h w σ h' w':=by
 unfold vc at hh;split at hh<;>try(cases hh;done)
 ·rename_i e ext E;simp only[aA]at hh;subst hh;refine⟨w,?_,hr,.refl _ _ _⟩;rcases nw (mT rx)with⟨_,F,G,rfl,_⟩|⟨q',b,o,G,f,rfl,_⟩
  ·cases F<;>simp[Builtin.clear_,bd E]
  simp[Builtin.clear_,bd E]
 rename_i X id a q len G E;split at hh<;>try(cases hh;done)
 rename_i r z n Y;split at hh<;>try(cases hh;done)
 rename_i d;have⟨N,d⟩:=d;simp only[aA]at hh;subst hh;obtain⟨b,c,rfl,O,g2,g3,g4,g5,g6,vw,tw,fw,g7,g8⟩:=kL rx;have⟨b',u,tb,Q,k2,S,k4,k5,k6⟩:=hr.cells id r _ n s_;rw[O]at Q;simp only[aA]at Q;subst Q;have⟨v,e1,e2,i2,e3,e4⟩:=lf (A:=Alw P B A0 σ h) (σ:=σ) (h:=h) (w:=w) Y;have⟨y1,Z,y3⟩:=oh e2 (mM Y);have q0:i2.size=q:=by have:=N;simp only[cr,e3,bq,aA]at this;exact this
 have p:z.cells.length=q:=o_;have D:v.cells.size=q:=o_;have U:(Builtin.zeroCells v.cells len).toList.length=len*q:=by rw[dR,kP,D]
 have I:((List.replicate len z.cells).flatten).length=len*q:=by simp[p]
 have g:∀k,k<len*q->(Builtin.zeroCells v.cells len).toList[k]?=v.cells[k%v.cells.size]?:=λk i=>by have:=vC v.cells len o_ k (by rw[D];exact i);rw[bM];exact this
 by_cases h0:len=0
 ·subst h0;refine⟨w,by simp[Builtin.clear_,bd E],?_⟩;have e5:h.set id (.cells (r.take a++(List.replicate 0 z.cells).flatten++r.drop (a+0*q)) .live)=h:=by simp only[List.replicate_zero,List.flatten_nil,bm,Nat.zero_mul,df,fF];exact vz n
  rw[e5];exact⟨hr,.refl _ _ _⟩
 have J:∀y∈(Builtin.zeroCells v.cells len).toList,y.oneCell'=true:=λy l=>by obtain⟨k,i,rfl⟩:=bg l;rw[U]at i;have hm:k%v.cells.size<v.cells.size:=gq _ o_;have V:=g k i;rw[aC (by rw[U];exact i),aT hm]at V;simp only[aA]at V;rw[V];exact zF (y3 (k%v.cells.size) _ _ (aC o_) (aT hm)) (Z _ (aF o_))
 have j:a+0+(Builtin.zeroCells v.cells len).toList.length<=u.size:=o_;have K:=run_storeCells_at P b a tb (Builtin.zeroCells v.cells len).toList 0 u w S j J;simp only[df]at K;have s:(u.toList.take a++(Builtin.zeroCells v.cells len).toList++u.toList.drop (a+(Builtin.zeroCells v.cells len).toList.length)).toArray.size=u.size:=by simp only[eX,aL,ag,dJ,dR]at j ⊢;omega
 have L:r.take a++(List.replicate len z.cells).flatten++r.drop (a+len*q)=r.take a++(List.replicate len z.cells).flatten++r.drop (a+((List.replicate len z.cells).flatten).length):=by rw[I]
 have M:a+((List.replicate len z.cells).flatten).length<=r.length:=o_;rw[L];refine⟨w.setRow b (u.toList.take a++(Builtin.zeroCells v.cells len).toList++u.toList.drop (a+(Builtin.zeroCells v.cells len).toList.length)).toArray,?_,
  HRel.write hr n O S s (by simp only[aL,ag,dJ];omega) (λc d=>?_) (λk c y d l=>?_),Step.write hr n O S s⟩
 ·have:∃m,len=m+1:=⟨len-1,o_⟩
  obtain⟨m,rfl⟩:=this;simp only[Builtin.clear_,dB,be,Sem.run_bind,bd E,Result.andThen_ok,e1,Sem.run_pure];rw[K];rfl
 ·obtain⟨k,i,rfl⟩:=bg d;have d:=aC i;rw[eU _ _ _ M]at d;split at d
  ·rename_i q1;rw[iT z.cells len _ (by rw[p];omega)]at d;exact Z _ (ai d)
  exact k5 _ (ai d)
 rw[eU _ _ _ M]at d;rw[dB,eU _ _ _ (by simpa using j)]at l;rw[I]at d;rw[U]at l;split at d
 ·rename_i i;rw[if_pos i]at l;rw[iT z.cells len _ (by rw[p];omega)]at d;rw[g _ o_]at l;rw[D]at l;rw[p]at d;exact y3 _ c y d l
 rename_i i;rw[if_neg i,bM]at l;exact k6 k c y d l
theorem FI [DFlag] (hr:HRel P B A0 σ h w){t u ty:TypeId}{d x r:AV}{h':H}{ud ux:Value}(hu:(∃e,P.underlying u=some (.slice e))\/P.underlying u=some .string) (hh:JF P h t d x=some (r,h'))
  (rd:Rel P (Alw P B A0 σ h) σ h w d ud) (rx:Rel P (Alw P B A0 σ h) σ h w x ux) :
  ∃v w',(Builtin.copy_ #[t,u] ty #[ud,ux]).run P w=.ok v w'/\er P B A0 σ h w r h' v w':=by
 unfold JF at hh;split at hh<;>try(cases hh;done)
 rename_i Z id a f len q' ht;split at hh<;>try(cases hh;done)
 rename_i G s m z I;split at hh<;>try(cases hh;done)
 rename_i g;have⟨O,g⟩:=g;simp only[aA,aD]at hh;obtain⟨rfl,rfl⟩:=hh;obtain⟨b,c,rfl,Q,g2,g3,g4,g5,g6,vw,tw,fw,g7,g8⟩:=kL rd;have⟨b',A,tb,U,k2,V,k4,k5,k6⟩:=hr.cells id G _ z s_;rw[Q]at U;simp only[aA]at U;subst U;have⟨q1,q2,l,S,q3⟩:=Bl (u:=u) hr I rx g3 hu;have o:Nat.min m len<=m:=Nat.min_le_left _ _;have D:Nat.min m len<=len:=Nat.min_le_right _ _;generalize X:Nat.min m len=n at *;have q0:n*f<=len*f:=cQ _ D;have q4:n*f<=m*f:=cQ _ o;have J:(l.take (n*f)).length=n*f:=by rw[ag,S.size];omega
 have K:(s.take (n*f)).length=n*f:=by rw[ag,q1];omega
 have L:∀y∈l.take (n*f),y.oneCell'=true:=λy i=>by obtain⟨k,E,rfl⟩:=bg (bW i);have q5:=S.size;have g:s[k]?=some (s[k]' o_):=aC _;exact zF (q3 k _ _ g (aC E)) (q2 _ (aF _))
 have p:a+0+(l.take (n*f)).length<=A.size:=o_;have M:=run_storeCells_at P b a tb (l.take (n*f)) 0 A w V p L;simp only[df]at M;have q:(A.toList.take a++l.take (n*f)++A.toList.drop (a+(l.take (n*f)).length)).toArray.size=A.size:=by simp only[eX,aL,ag,dJ,dR]at J ⊢;omega
 have N:G.take a++s.take (n*f)++G.drop (a+n*f)=G.take a++s.take (n*f)++G.drop (a+(s.take (n*f)).length):=by rw[K]
 have F:a+(s.take (n*f)).length<=G.length:=o_;rw[N];refine⟨.int .i64 n,w.setRow b (A.toList.take a++l.take (n*f)++A.toList.drop (a+(l.take (n*f)).length)).toArray,?_,σ,
  HRel.write hr z Q V q (by simp only[aL,ag,dJ]at F ⊢;omega) (λc g=>?_) (λk c y g i=>?_),Step.write hr z Q V q,.data (.int _ _)⟩
 ·have j:=S.short n o w (λ_ _ h=>h);simp only[Builtin.copy_,dB,be,dH,Sem.run_bind,bd ht,Result.andThen_ok,S.len,Sem.run_pure,fQ O,X,j];rw[M];rfl
 ·obtain⟨k,E,rfl⟩:=bg g;have g:=aC E;rw[eU _ _ _ F]at g;split at g
  ·exact q2 _ (bW (ai g))
  exact k5 _ (ai g)
 rw[eU _ _ _ F]at g;rw[dB,eU _ _ _ (by simpa using p)]at i;rw[K]at g;rw[J]at i;split at g
 ·rename_i E;rw[if_pos E]at i;rw[cS]at g i;split at g<;>try(cases g;done)
  rename_i Y;rw[if_pos Y]at i;exact q3 _ c y g i
 rename_i E;rw[if_neg E,bM]at i;exact k6 k c y g i
end
end Go.V
