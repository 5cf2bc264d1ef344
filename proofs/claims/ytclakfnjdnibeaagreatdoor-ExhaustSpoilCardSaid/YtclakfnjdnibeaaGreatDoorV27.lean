/- A part of the proof. -/
import Derived.Test.YtclakfnjdnibeaaGreatDoorV12
import Derived.MapKept
namespace Go.V
open Go
section
variable {P:Program}{B:Nat}{A0:Nat->Nat->Prop}{σ:List (Option Nat)}{h:H}{w:World}
theorem ie{α β:Type}:∀(m:Sem α) (f:α->Sem β),dI P (m >>= f)=(dI P m).bind λa=>dI P (f a):=by
 intro m;induction m with
 |pure a=>intro f;rfl
 |program k b=>intro f;exact b P f
 |_=>intro f;rfl
theorem ic{α:Type}(a:α):dI P (pure a:Sem α)=some a:=rfl
theorem DQ(d:TypeDesc) (k:Value):∀(l l':List MapEntry) (i:Nat),l.map (·.key)=l'.map (·.key) ->
  (match Instr.findNow d k l i with
  |none=>Instr.findNow d k l' i=none
  |some none=>Instr.findNow d k l' i=some none
  |some (some (j,_))=>∃e,i<=j/\l'[j-i]?=some e/\Instr.findNow d k l' i=some (some (j,e.val))):=by
 intro l;induction l with
 |nil=>intro l' i a;cases l' with
  |nil=>simp[Instr.findNow]
  |cons _ _=>simp at a
 |cons e l c=>
  intro l' i a;cases l' with
  |nil=>simp at a
  |cons h l'=>
   simp only[aS,bw]at a;simp only[Instr.findNow,<-a.1];cases m:Instr.sameNow d k e.key with
   |none=>simp
   |some b=>
    cases b with
    |true=>simp
    |false=>
     have:=c l' (i+1) a.2;dsimp only;generalize Instr.findNow d k l (i+1)=r at this ⊢;match r with
     |none=>simpa using this
     |some none=>simpa using this
     |some (some (j,v))=>have⟨x,n,f,g⟩:=this;refine⟨x,o_,?_,g⟩;rw[show j-i=(j-(i+1))+1 by omega];exact f
theorem yu(kt:TypeId) (k:Value):∀(l l':List MapEntry) (i:Nat) (r:Option (Nat × Value)),l.map (·.key)=l'.map (·.key)->dI P (Instr.findAsking kt k l i)=some r ->
  (match r with
  |none=>dI P (Instr.findAsking kt k l' i)=some none
  |some (j,_)=>∃e,i<=j/\l'[j-i]?=some e/\dI P (Instr.findAsking kt k l' i)=some (some (j,e.val))):=by
 intro l;induction l with
 |nil=>intro l' i r c a;cases l' with
  |nil=>simp only[Instr.findAsking,ic,aA]at a;subst a;rfl
  |cons _ _=>simp at c
 |cons e l f=>
  intro l' i r c a;cases l' with
  |nil=>simp at c
  |cons g l'=>
   simp only[aS,bw]at c;simp only[Instr.findAsking,ie,<-c.1]at a ⊢;cases d:dI P (Op.equal kt k e.key)with
   |none=>rw[d]at a;cases a
   |some b=>
    rw[d]at a;cases b with
    |true=>simp only[cn,if_true,ic,aA]at a;subst a;exact⟨g,aR _,s_,by simp[ic]⟩
    |false=>
     simp only[cn,aw,if_false]at a ⊢;have:=f l' (i+1) r c.2 a;match r with
     |none=>exact this
     |some (j,v)=>have⟨x,n,h,m⟩:=this;refine⟨x,o_,?_,m⟩;rw[show j-i=(j-(i+1))+1 by omega];exact h
theorem DR(kt:TypeId) (k:Value) (l l':List MapEntry) (r:Option (Nat × Value)) (hk:l.map (·.key)=l'.map (·.key)) (hr:dI P (Instr.findKey kt k l)=some r) :
  (match r with
  |none=>dI P (Instr.findKey kt k l')=some none
  |some (j,_)=>∃e,l'[j]?=some e/\dI P (Instr.findKey kt k l')=some (some (j,e.val))):=by
 simp only[Instr.findKey,ie]at hr ⊢;cases f:dI P (underlying kt)with
 |none=>rw[f]at hr;cases hr
 |some d=>
  rw[f]at hr;simp only[cn]at hr ⊢;have a:=DQ d k l l' 0 hk;generalize Instr.findNow d k l 0=q at a hr;match q with
  |none=>
   simp only at a;rw[a];have:=yu kt k l l' 0 r hk hr;match r with
   |none=>exact this
   |some (j,v)=>have⟨e,_,b,c⟩:=this;exact⟨e,by simpa using b,c⟩
  |some none=>simp only at a;rw[a];simp only[ic,aA]at hr ⊢;subst hr;trivial
  |some (some (j,v))=>have⟨e,_,b,c⟩:=a;simp only[ic,aA]at hr;subst hr;exact⟨e,by simpa using b,by rw[c];rfl⟩
theorem yo:∀(es:List (AV × AV)) (i:Nat) (l:List MapEntry),li es i=some l->l.length=es.length/\∀(k:Nat) e,es[k]?=some e->∃m,l[k]?=some m/\fH e.1=some m.key:=by
 intro es;induction es with
 |nil=>intro i l h;simp only[li,aA]at h;subst h;simp
 |cons e es b=>
  intro i l h;have⟨k,v⟩:=e;simp only[li]at h;split at h<;>try(cases h;done)
  rename_i n o c d;simp only[aA]at h;subst h;have⟨f,g⟩:=b _ _ d;refine⟨by simp[f],λj x a=>?_⟩;cases j with
  |zero=>simp only[be,aA]at a;subst a;exact⟨_,rfl,c⟩
  |succ j=>simp only[dH]at a ⊢;exact g j x a
theorem rm{empty:Bool}{kt:TypeId}{key:AV}{es:List (AV × AV)}{r:Option Nat}(hh:wR P empty kt key es=some r){mes:Array MapEntry}(hl:mes.size=es.length)
  (hk:∀(k:Nat) e m,es[k]?=some e->mes[k]?=some m->fH e.1=some m.key) :
  ∃kv,fH key=some kv/\(Instr.checkKey empty 10000 kt kv).run P w=.ok () w /\
   (match r with
   |none=>(Instr.findKey kt kv mes.toList).run P w=.ok none w
   |some j=>∃m,mes[j]?=some m/\(Instr.findKey kt kv mes.toList).run P w=.ok (some (j,m.val)) w):=by
 unfold wR at hh;split at hh<;>try(cases hh;done)
 rename_i kv l n o;have⟨z,p⟩:=yo _ _ _ o;have a:l.map (·.key)=mes.toList.map (·.key):=by
  apply cU;intro i;rw[ba,ba,show mes.toList[i]?=mes[i]? by simp];by_cases d:i<es.length
  ·have⟨m,s,t⟩:=p i es[i] (aC d);have f:mes[i]?=some (mes[i]' o_):=aT _;have g:=hk i es[i] _ (aC d) f;rw[t]at g;rw[s,f];exact g
  rw[cK o_,fq o_]
 simp only[cV]at hh;obtain⟨q,b,rfl⟩:=hh;simp only[PK,ie]at b;cases c:dI P (Instr.checkKey empty 10000 kt kv)with
 |none=>rw[c]at b;cases b
 |some u=>
  rw[c]at b;simp only[cn]at b;have h:=DR kt kv l mes.toList q a b;refine⟨kv,n,jf _ _ c,?_⟩;match q with
  |none=>exact jf _ _ h
  |some (j,v)=>have⟨e,x,y⟩:=h;exact⟨e,by simpa using x,jf _ _ y⟩
theorem BJ [DFlag] (hr:HRel P B A0 σ h w) (t:TypeId):∃v w',(Instr.makeMap t none).run P w=.ok v w'/\er P B A0 σ h w (.mp h.length) (h++[.map []]) v w':=by
 have g:=Grows.alloc w (.map #[] 0);have a:∀b,(some w.heap.size:Option Nat)=some b->w.heap.size<=b:=λb e=>by simp only[aA]at e;omega
 refine⟨.map (some w.heap.size),w.alloc (.map #[] 0),rfl,σ++[some w.heap.size],HRel.push hr g (.map []) _ a (λ_ _ e=>by cases e) (λ_ _ e=>by cases e) (λ_ _ e=>by cases e) (λd e=>?_),Step.push hr g _ _ a,
  .mp (by rw[<-hr.len,ar]) ⟨[],ar h _⟩⟩
 simp only[VObj.map.injEq]at e;subst e;exact⟨w.heap.size,#[],0,rfl,heap_alloc_new w _,rfl,λk e m c _=>by simp at c⟩
theorem Mw{A:Nat->Nat->Prop}{id:Nat}{v:Value}(r:Rel P A σ h w (.mp id) v):∃b,v=.map (some b)/\σ[id]?=some (some b):=by
 cases r with
 |data a=>cases a
 |mp c d=>exact⟨_,rfl,c⟩
theorem Gn{A:Nat->Nat->Prop}{v:Value}(r:Rel P A σ h w .nilmap v):v=.map none:=by
 cases r with
 |data a=>cases a;rfl
theorem BK(hr:HRel P B A0 σ h w){t:TypeId}{x k:AV}{ok:Bool}{r:AV}{u v:Value}(hh:nX P h t x k ok=some r) (rx:Rel P (Alw P B A0 σ h) σ h w x u) (rk:Rel P (Alw P B A0 σ h) σ h w k v) :
  ∃z,(Instr.lookup t u v ok).run P w=.ok z w/\Rel P (Alw P B A0 σ h) σ h w r z:=by
 unfold nX at hh;split at hh<;>try(cases hh;done)
 rename_i kt et y;split at hh<;>try(cases hh;done)
 rename_i G f;obtain⟨g,n,F,J⟩:∃g:Array MapEntry,((u=.map none/\g = #[])\/∃b l,u=.map (some b)/\w.heap[b]?=some (.map g l))/\g.size=G.length /\
   ∀(i:Nat) e m,G[i]?=some e->g[i]?=some m->fH e.1=some m.key/\bf e.2=true/\Rel P (Alw P B A0 σ h) σ h w e.2 m.val:=by
  split at f<;>try(cases f;done)
  ·simp only[aA]at f;subst f;have:=Gn rx;subst this;exact⟨#[],.inl ⟨rfl,rfl⟩,rfl,λi e m D _=>by simp at D⟩
  rename_i id;split at f<;>try(cases f;done)
  rename_i K L;simp only[aA]at f;subst f;obtain⟨b,rfl,Y⟩:=Mw rx;have⟨b',g,l,M,k2,Z,k4,k5⟩:=hr.map id K L;rw[Y]at M;simp only[aA]at M;subst M;exact⟨g,.inr ⟨b,l,rfl,Z⟩,k4,k5⟩
 have d:g.isEmpty=G.isEmpty:=by
  cases G with
  |nil=>simp only[aQ]at F;simp[Array.isEmpty,F]
  |cons e G=>simp only[aG]at F;simp[Array.isEmpty,F]
 split at hh
 ·rename_i i N;split at hh<;>try(cases hh;done)
  rename_i e D;simp only[aA]at hh;subst hh;have⟨kv,O,q,m,e3,s⟩:=rm (w:=w) N F λk e m D Q=>(J k e m D Q).1
  have S:=km O rk;subst S;have⟨q1,q2,U⟩:=J i e m D e3;cases ok with
  |true=>
   refine⟨.tuple #[m.val,.bool true],?_,?_⟩
   ·rcases n with⟨rfl,rfl⟩|⟨b,c,rfl,E⟩
    ·simp only[Instr.lookup,Sem.run_bind,bd y,Result.andThen_ok,d,q,s,Sem.run_pure,if_true]
    simp only[Instr.lookup,Sem.run_bind,bd y,Result.andThen_ok,MapKept.run_getObj_map E,d,q,s,Sem.run_pure,if_true]
   refine .tuple rfl λj a z o p=>?_
   match j with
   |0=>simp at o p;subst o p;exact U
   |1=>simp at o p;subst o p;exact .data (.bool _)
   |j+2=>simp at o
  |false=>
   refine⟨m.val,?_,U⟩;rcases n with⟨rfl,rfl⟩|⟨b,c,rfl,E⟩
   ·simp only[Instr.lookup,Sem.run_bind,bd y,Result.andThen_ok,d,q,s,Sem.run_pure,aw,if_false]
   simp only[Instr.lookup,Sem.run_bind,bd y,Result.andThen_ok,MapKept.run_getObj_map E,d,q,s,Sem.run_pure,aw,if_false]
 ·rename_i N;split at hh<;>try(cases hh;done)
  rename_i z p;simp only[aA]at hh;subst hh;have⟨kv,O,q,s⟩:=rm (w:=w) N F λk e m D Q=>(J k e m D Q).1
  have S:=km O rk;subst S;have⟨V,I,X,_⟩:=lf (A:=Alw P B A0 σ h) (σ:=σ) (h:=h) (w:=w) p;cases ok with
  |true=>
   refine⟨.tuple #[V,.bool false],?_,?_⟩
   ·rcases n with⟨rfl,rfl⟩|⟨b,c,rfl,E⟩
    ·simp only[Instr.lookup,Sem.run_bind,bd y,Result.andThen_ok,d,q,s,I,Sem.run_pure,if_true]
    simp only[Instr.lookup,Sem.run_bind,bd y,Result.andThen_ok,MapKept.run_getObj_map E,d,q,s,I,Sem.run_pure,if_true]
   refine .tuple rfl λj a z o p=>?_
   match j with
   |0=>simp at o p;subst o p;exact X
   |1=>simp at o p;subst o p;exact .data (.bool _)
   |j+2=>simp at o
  |false=>
   refine⟨V,?_,X⟩;rcases n with⟨rfl,rfl⟩|⟨b,c,rfl,E⟩
   ·simp only[Instr.lookup,Sem.run_bind,bd y,Result.andThen_ok,d,q,s,I,Sem.run_pure,aw,if_false]
   simp only[Instr.lookup,Sem.run_bind,bd y,Result.andThen_ok,MapKept.run_getObj_map E,d,q,s,I,Sem.run_pure,aw,if_false]
 cases hh
theorem kT{l:Nat}{o o':Obj}(hl:w.heap[l]?=some o) (ho:∀vs ty fr,o≠.cells vs ty fr) (_ho':∀vs ty fr,o'≠.cells vs ty fr){b k:Nat}{x:Value}(hc:w.cell? ⟨b,k,none⟩=some x):(w.putObj l o').cell? ⟨b,k,none⟩=some x:=by
 by_cases e:b=l
 ·subst e;unfold World.cell? at hc;simp only[hl]at hc;cases o<;>first|(cases hc;done)|exact absurd rfl (ho _ _ _)
 rw[World.cell?_of_block (w:=w) (World.putObj_heap_other e)];exact hc
theorem jC{l:Nat}{o o':Obj}(hl:w.heap[l]?=some o) (ho:∀vs ty fr,o≠.cells vs ty fr){b:Nat}{vs:Array Value}{ty:TypeId}{fr:Nat × Nat}(hb:w.heap[b]?=some (.cells vs ty fr)):(w.putObj l o').heap[b]?=some (.cells vs ty fr):=by rw[World.putObj_heap_other (λe=>by subst e;rw[hl]at hb;exact ho _ _ _ (Option.some.inj hb))];exact hb
theorem qP{l:Nat}{o o':Obj}(hl:w.heap[l]?=some o) (ho:∀vs ty fr,o≠.cells vs ty fr):Shapes w (w.putObj l o'):=λ_b vs _ty fr a=>⟨vs,fr,jC hl ho a,rfl⟩
theorem rL{l:Nat}{o':Obj}(hB:B<=l):RowKit.Below B w (w.putObj l o'):=
 ⟨rfl,rfl,rfl,s_,λk a=>World.putObj_heap_other o_⟩
theorem Step.mapSet [DFlag] (_:HRel P B A0 σ h w){i b:Nat}{es es':List (AV × AV)}{mes mes':Array MapEntry}{clock clock':Nat}(hi:h[i]?=some (.map es)) (hb:w.heap[b]?=some (.map mes clock)) (hB:B<=b) :
  Step P B A0 σ h w σ (h.set i (.map es')) (w.putObj b (.map mes' clock')) where
 below:=rL hB
 shapes:=qP hb s_
 kept:=λb o x c m=>by
  refine⟨?_,kT hb s_ s_ m⟩;unfold Alw at *;split
  ·rename_i hb;simpa[hb]using c
  rename_i hb;rw[if_neg hb]at c;refine⟨λj d a=>?_,λj u t a=>?_⟩
  ·rcases aa a with⟨_,e,_⟩|⟨_,a⟩
   ·cases e
   exact c.1 j d a
  rcases aa a with⟨_,e,_⟩|⟨_,a⟩
  ·cases e
  exact c.2 j u t a
 cells:=λj d f a=>⟨rfl,d,f,by rw[aE (λe=>by subst e;rw[hi]at a;cases a)];exact a⟩
 toks:=λj u p a=>⟨u,by rw[aE (λe=>by subst e;rw[hi]at a;cases a)];exact a,aR _,λ_=>rfl⟩
 loops:=λj L n a=>⟨rfl,n,by rw[aE (λe=>by subst e;rw[hi]at a;cases a)];exact a⟩
 maps:=λj g a=>⟨rfl,by
  by_cases e:j=i
  ·subst e;exact⟨es',aH (aB.1 hi).1⟩
  exact⟨g,by rw[aE (λk=>e k.symm)];exact a⟩⟩
 marks:=λk l=>by rw[World.putObj_heap_other (λe=>by subst e;rw[hb]at l;cases l)];exact l
 drawn:=λ_=>aR _
theorem HRel.mapSet(hr:HRel P B A0 σ h w){i b:Nat}{es es':List (AV × AV)}{mes mes':Array MapEntry}{clock clock':Nat}(hi:h[i]?=some (.map es)) (hs:σ[i]?=some (some b)) (hb:w.heap[b]?=some (.map mes clock))
  (hsz:mes'.size=es'.length) (hrel:∀(k:Nat) e m,es'[k]?=some e->mes'[k]?=some m->fH e.1=some m.key/\bf e.2=true/\Rel P (Alw P B A0 σ h) σ h w e.2 m.val) :
  HRel P B A0 σ (h.set i (.map es')) (w.putObj b (.map mes' clock')):=by
 have⟨b',q7,E,G,k2,k3,_⟩:=hr.map i es hi;rw[hs]at G;simp only[aA]at G;subst G;have d:=Step.mapSet (es':=es') (mes':=mes') (clock':=clock') hr hi hb k2;refine⟨by simpa using hr.base,by simpa using hr.len,λj cs n a I=>?_,λj u J a=>?_,λj L2 n a I=>?_,λj K a=>?_,λj1 j2 b x y L M s1 s2 g1 g2=>?_,hr.globBelow d.below,hr.tabBelow d.below⟩
 ·rcases aa a with⟨_,e,_⟩|⟨_,a⟩
  ·cases e
  have⟨b,N,J,l,o,f,r,s,q6⟩:=hr.cells j cs n a I;exact⟨b,N,J,l,o,jC hb s_ f,r,s,λk c v hc hv=>(q6 k c v hc hv).step d⟩
 ·rcases aa a with⟨_,e,_⟩|⟨_,a⟩
  ·cases e
  rcases hr.tok j u J a with k|⟨b,N,sz,O,l,o,f,q⟩
  ·exact .inl k
  exact .inr ⟨b,N,sz,O,l,o,jC hb s_ f,q⟩
 ·rcases aa a with⟨_,e,_⟩|⟨z,a⟩
  ·cases e
  have⟨l2,Q,S,D2,l,o,f,r,s⟩:=hr.loop j L2 n a I;exact⟨l2,Q,S,D2,l,o,by rw[World.putObj_heap_other (λe=>by subst e;rw[hb]at f;cases f)];exact f,r,λt=>(s t).step d⟩
 ·rcases aa a with⟨rfl,e,_⟩|⟨z,a⟩
  ·simp only[VObj.map.injEq]at e;subst e;exact⟨b,mes',clock',hs,k2,World.putObj_heap_same (aO.1 hb).1,hsz,λk e m U V=>let q:=hrel k e m U V;⟨q.1,q.2.1,q.2.2.step d⟩⟩
  have⟨b2,A,g,l,o,f,r,s⟩:=hr.map j K a;have D:b2≠b:=λe=>z (hr.uniq j i b _ _ a hi (e▸l) hs rfl rfl)
  exact⟨b2,A,g,l,o,by rw[World.putObj_heap_other D];exact f,r,λk e m U V=>let q:=s k e m U V;⟨q.1,q.2.1,q.2.2.step d⟩⟩
 have key:∀(j:Nat) p,(h.set i (.map es'))[j]?=some p->p.gone=false->∃F,h[j]?=some F/\F.gone=false:=λj p a dj=>by
  rcases aa a with⟨rfl,_,_⟩|⟨_,a⟩
  ·exact⟨_,hi,rfl⟩
  exact⟨p,a,dj⟩
 have⟨F,X,Y⟩:=key j1 x L g1;have⟨q',Z,q0⟩:=key j2 y M g2;exact hr.uniq j1 j2 b F q' X Z s1 s2 Y q0
theorem qp [DFlag] (hr:HRel P B A0 σ h w){t:TypeId}{x k v:AV}{h':H}{ux uk uv:Value}(hh:fS P h t x k v=some h') (rx:Rel P (Alw P B A0 σ h) σ h w x ux) (rk:Rel P (Alw P B A0 σ h) σ h w k uk) (rv:Rel P (Alw P B A0 σ h) σ h w v uv) :
  ∃w',(Instr.mapUpdate t ux uk uv).run P w=.ok () w'/\HRel P B A0 σ h' w'/\Step P B A0 σ h w σ h' w':=by
 unfold fS at hh;split at hh<;>try(cases hh;done)
 rename_i kt et id ht;split at hh<;>try(cases hh;done)
 rename_i G l;split at hh<;>try(cases hh;done)
 rename_i q;simp only[cN,iy]at q;obtain⟨b,rfl,I⟩:=Mw rx;have⟨b',g,c,J,k2,s,u,y⟩:=hr.map id G l;rw[I]at J;simp only[aA]at J;subst J;have n:(getObj b).run P w=.ok (.map g c) w:=MapKept.run_getObj_map s;have p:∀o,(setObj b o).run P w=.ok () (w.putObj b o):=λo=>MapKept.run_setObj_map o s
 split at hh
 ·rename_i i K;split at hh<;>try(cases hh;done)
  rename_i e kv z d;split at hh<;>try(cases hh;done)
  rename_i ov L;split at hh<;>try(cases hh;done)
  rename_i M;simp only[aA]at hh;subst hh;have⟨N,r,O,m,F,Q⟩:=rm (w:=w) K u λk e m z S=>(y k e m z S).1
  rw[d]at r;simp only[aA]at r;subst r;have U:=km d rk;subst U;have⟨V,q2,q3⟩:=y i e m z F;rw[L]at V;simp only[aA]at V;have q0:i<g.size:=(aO.1 F).1;have A:(Instr.keyThatStays (((g[i]?).map (·.key)).getD uk) uk).run P w=.ok uk w:=by rw[F];simp only[bq,nT,Instr.keyThatStays];rw[<-V,if_pos M];rfl
  have D:∀(j:Nat),(g.modify i λe=>{e with key:=uk,val:=uv})[j]?=if j=i then some {m with key:=uk,val:=uv}else g[j]?:=λj=>by
   rw[my];by_cases E:i=j
   ·subst E;rw[if_pos rfl,if_pos rfl,F];rfl
   rw[if_neg E,if_neg (λe=>E e.symm)]
  refine⟨w.putObj b (.map (g.modify i λe=>{e with key:=uk,val:=uv}) c),?_,?_,Step.mapSet hr l s k2⟩
  ·simp only[Instr.mapUpdate,Sem.run_bind,bd ht,Result.andThen_ok,n,O,Q,A,p]
  refine HRel.mapSet hr l I s (by simp[u]) λj X Y f a=>?_
  rw[D]at a;rcases aa f with⟨rfl,rfl,_⟩|⟨Z,f⟩
  ·rw[if_pos rfl]at a;simp only[aA]at a;subst a;exact⟨d,q,rv⟩
  rw[if_neg Z]at a;exact y j X Y f a
 ·rename_i K;split at hh<;>try(cases hh;done)
  rename_i d;have⟨kv,d⟩:=dC.1 d;simp only[aA]at hh;subst hh;have⟨N,r,O,Q⟩:=rm (w:=w) K u λk e m z S=>(y k e m z S).1
  rw[d]at r;simp only[aA]at r;subst r;have U:=km d rk;subst U;refine⟨w.putObj b (.map (g.push {key:=uk,val:=uv,born:=c}) (c+1)),?_,?_,Step.mapSet hr l s k2⟩
  ·simp only[Instr.mapUpdate,Sem.run_bind,bd ht,Result.andThen_ok,n,O,Q,p]
  refine HRel.mapSet hr l I s (by simp[u]) λj X Y f a=>?_
  by_cases E:j<G.length
  ·rw[aP E]at f;rw[ml o_]at a;exact y j X Y f (by rw[aT o_];exact a)
  have q':j=G.length:=by have:=(aB.1 f).1;simp at this;omega
  subst q';simp at f;rw[<-u]at a;simp at a;subst f a;exact⟨d,q,rv⟩
 cases hh
end
end Go.V
