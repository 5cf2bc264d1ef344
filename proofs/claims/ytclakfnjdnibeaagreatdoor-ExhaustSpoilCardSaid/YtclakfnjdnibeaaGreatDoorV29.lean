/- A part of the proof. -/
import Derived.Test.YtclakfnjdnibeaaGreatDoorV15
set_option maxHeartbeats 1000000
namespace Go.V
open Go
theorem rT(i k:Nat):∀(l:LA) (j:Nat),(AV.mvs i k l)[j]?=(l[j]?).map (AV.mv i k):=by
 intro l;induction l with
 |nil=>intro j;simp[AV.mvs]
 |cons v l a=>intro j;cases j with
  |zero=>simp[AV.mvs]
  |succ j=>simp[AV.mvs,a]
theorem rS(i k:Nat):∀(l:LA),(AV.mvs i k l).length=l.length:=by
 intro l;induction l with
 |nil=>rfl
 |cons v l a=>simp[AV.mvs,a]
theorem tH{i k:Nat}:∀ {l:LA},(∀(j:Nat) a,l[j]?=some a->a.mv i k=a)->AV.mvs i k l=l:=by
 intro l h;apply cU;intro j;rw[rT];cases b:l[j]? with
 |none=>rfl
 |some a=>simp[h j a b]
theorem NN(i k:Nat) (a:AV):(a.mv i k).one=a.one:=by
 cases a with
 |isl b x=>cases x<;>simp[AV.mv,AV.one]
 |_=>simp[AV.mv,AV.one]
theorem yK(i k:Nat) (a:AV):bf (a.mv i k)=bf a:=by
 cases a with
 |isl b x=>cases x<;>simp[AV.mv,bf]
 |_=>simp[AV.mv,bf]
theorem Ip{A:Nat->Nat->Prop}{w:World}{a:AV}{v:Value}(i k:Nat) (r:IRel A w a v):a.mv i k=a:=by
 induction r with
 |func d _ c=>rw[AV.mv,tH (λj a b=>c j a _ b (aT (i:=j) (by rw[d];exact(aB.1 b).1)))]
 |iface e _ c=>rw[AV.mv,c]
 |agg f d _ c=>rw[AV.mv,tH (λj a b=>c j a _ b (aT (i:=j) (by rw[d];exact(aB.1 b).1)))]
 |tuple d _ c=>rw[AV.mv,tH (λj a b=>c j a _ b (aT (i:=j) (by rw[d];exact(aB.1 b).1)))]
 |_=>simp[AV.mv]
theorem C7{P:Program}{A:Nat->Nat->Prop}{σ:List (Option Nat)}{h:H}{w:World}{a:AV}{v:Value}{i:Nat}(hi:h[i]?=none\/h[i]?=some .void) (k:Nat) (r:Rel P A σ h w a v):a.mv i k=a:=by
 have ne:∀(j:Nat) x,h[j]?=some x->x≠.void->(if j=i then k else j)=j:=λj x b o=>by
  split
  ·rename_i e;subst e;rcases hi with e|e<;>rw[b]at e
   ·cases e
   simp only[aA]at e;exact absurd e o
  rfl
 induction r with
 |data l=>exact Ip i k l
 |yield m d=>have⟨L,n,b⟩:=d;rw[AV.mv,ne _ _ b s_]
 |mp m d=>have⟨s,b⟩:=d;rw[AV.mv,ne _ _ b s_]
 |ptr m d=>have⟨p,n,b⟩:=d;rw[AV.mv,ne _ _ b s_]
 |msl m d=>have⟨p,n,b⟩:=d;rw[AV.mv,ne _ _ b s_]
 |full l=>simp[AV.mv]
 |tok l q=>have⟨u,t,b,_⟩:=q;rw[AV.mv,ne _ _ b s_]
 |func g _ f=>rw[AV.mv,tH (λj a c=>f j a _ c (aT (i:=j) (by rw[g];exact(aB.1 c).1)))]
 |iface y _ f=>rw[AV.mv,f]
 |agg z g _ f=>rw[AV.mv,tH (λj a c=>f j a _ c (aT (i:=j) (by rw[g];exact(aB.1 c).1)))]
 |tuple g _ f=>rw[AV.mv,tH (λj a c=>f j a _ c (aT (i:=j) (by rw[g];exact(aB.1 c).1)))]
structure Named (σ:List (Option Nat)) (h:H) (σ2:List (Option Nat)) (h2:H) (i k:Nat):Prop where
 to:∀(j:Nat) x,h[j]?=some x->x≠.void->σ2[if j=i then k else j]?=σ[j]?/\h2[if j=i then k else j]?=some (x.mv i k)
 back:∀(j:Nat) y,h2[j]?=some y->y≠.void->∃m x,h[m]?=some x/\x≠.void/\j=(if m=i then k else m)/\y=x.mv i k
 len:σ2.length=h2.length
theorem mv_void{i k:Nat}{x:VObj}:x.mv i k≠.void↔x≠.void:=by
 cases x with
 |cells b a=>cases a<;>simp[VObj.mv]
 |_=>simp[VObj.mv]
theorem Ee{i k:Nat}{x:VObj}{cs:LA}{st:OSt}(h:x.mv i k=.cells cs st):∃cs0,x=.cells cs0 st/\(st≠.dead->cs=AV.mvs i k cs0):=by
 cases x with
 |cells b a=>cases a<;>simp only[VObj.mv,VObj.cells.injEq]at h<;>obtain⟨rfl,rfl⟩:=h<;>exact⟨_,rfl,λe=>by first|rfl|exact absurd rfl e⟩
 |_=>simp[VObj.mv]at h
theorem NM{i k:Nat}{x:VObj}{u:Nat}{ty:TypeId}(h:x.mv i k=.tok u ty):x=.tok u ty:=by
 cases x with
 |cells b a=>cases a<;>simp[VObj.mv]at h
 |_=>simp[VObj.mv]at h ⊢<;>exact h
theorem Qh{i k:Nat}{x:VObj}{L:LoopV}{st:LSt}(h:x.mv i k=.loop L st):x=.loop L st:=by
 cases x with
 |cells b a=>cases a<;>simp[VObj.mv]at h
 |_=>simp[VObj.mv]at h ⊢<;>exact h
theorem Ua{i k:Nat}{x:VObj}{es:List (AV × AV)}(h:x.mv i k=.map es):∃es0,x=.map es0/\es=es0.map λe=>(e.1,e.2.mv i k):=by
 cases x with
 |cells b a=>cases a<;>simp[VObj.mv]at h
 |map c=>simp only[VObj.mv,VObj.map.injEq]at h;exact⟨_,rfl,h.symm⟩
 |_=>simp[VObj.mv]at h
theorem Iq{i k:Nat}{x:VObj}:(x.mv i k).gone=x.gone:=by
 cases x with
 |cells b a=>cases a<;>rfl
 |_=>rfl
section
variable {P:Program}{B:Nat}{A0:Nat->Nat->Prop}{σ σ2:List (Option Nat)}{h h2:H}{w:World}{i k:Nat}
theorem Named.alw(nm:Named σ h σ2 h2 i k){b o:Nat}(ha:Alw P B A0 σ h b o):Alw P B A0 σ2 h2 b o:=by
 unfold Alw at *;split
 ·rename_i c;simpa[c]using ha
 rename_i c;rw[if_neg c]at ha;refine⟨λj n d f=>?_,λj u t d f=>?_⟩
 ·obtain⟨m,x,a,g,rfl,e⟩:=nm.back j _ d s_;obtain⟨l,rfl,_⟩:=Ee e.symm;exact ha.1 m l a (by rw[<-(nm.to m _ a g).1];exact f)
 obtain⟨m,x,a,g,rfl,e⟩:=nm.back j _ d s_;have:=NM e.symm;subst this;exact ha.2 m u t a (by rw[<-(nm.to m _ a g).1];exact f)
theorem Named.rel(nm:Named σ h σ2 h2 i k){a:AV}{v:Value}(r:Rel P (Alw P B A0 σ h) σ h w a v):Rel P (Alw P B A0 σ2 h2) σ2 h2 w (a.mv i k) v:=by
 have mono:∀ {a v},IRel (Alw P B A0 σ h) w a v->IRel (Alw P B A0 σ2 h2) w a v:=λn=>n.mono λb o x f y=>⟨nm.alw f,y⟩
 induction r with
 |data n=>rw[Ip i k n];exact .data (mono n)
 |yield p q=>have⟨L,z,d⟩:=q;have⟨g,l⟩:=nm.to _ _ d s_;rw[AV.mv];exact .yield (g.trans p) ⟨L,z,l⟩
 |mp p q=>have⟨es,d⟩:=q;have⟨g,l⟩:=nm.to _ _ d s_;rw[AV.mv];exact .mp (g.trans p) ⟨_,l⟩
 |ptr p q=>have⟨K,z,d⟩:=q;have⟨g,l⟩:=nm.to _ _ d s_;rw[AV.mv];exact .ptr (g.trans p) (by cases z<;>exact⟨_,_,l⟩)
 |msl p q m y M A N=>have⟨K,z,d⟩:=q;have⟨g,l⟩:=nm.to _ _ d s_;rw[AV.mv];exact .msl (g.trans p) (by cases z<;>exact⟨_,_,l⟩) m y M A N
 |full n=>rw[AV.mv];exact .full (mono n);all_goals simp
 |tok n O=>
  have⟨u,Q,d,F,S⟩:=O;have⟨g,l⟩:=nm.to _ _ d s_;rw[AV.mv];refine .tok (mono n) ⟨u,Q,l,F,λe=>?_⟩;rcases S e with⟨G,I,U⟩|⟨b,J,V,X,G,I⟩
  ·exact .inl ⟨G,g.trans I,U⟩
  exact .inr ⟨b,J,V,X,g.trans G,I⟩
 |func D _ s=>
  rw[AV.mv];refine .func (by rw[rS];exact D) λj a v f E=>?_
  rw[rT]at f;obtain⟨t,m,rfl⟩:=cV.1 f;exact s j t v m E
 |iface Y _ s=>rw[AV.mv];exact .iface (by rw[yK];exact Y) s
 |agg Z D _ s=>
  rw[AV.mv];refine .agg (λc y=>?_) (by rw[rS];exact D) λj a v f E=>?_
  ·obtain⟨j,d,rfl⟩:=bg y;have:=aC d;rw[rT]at this;have⟨t,m,e⟩:=cV.1 this;rw[<-e,NN];exact Z t (ai m)
  rw[rT]at f;obtain⟨t,m,rfl⟩:=cV.1 f;exact s j t v m E
 |tuple D _ s=>
  rw[AV.mv];refine .tuple (by rw[rS];exact D) λj a v f E=>?_
  rw[rT]at f;obtain⟨t,m,rfl⟩:=cV.1 f;exact s j t v m E
theorem Named.hrel(nm:Named σ h σ2 h2 i k) (hr:HRel P B A0 σ h w) (hl:∀(j:Nat) L st,h[j]?=some (.loop L st)->st≠.over->∀t,(L.s.get t).mv i k=L.s.get t):HRel P B A0 σ2 h2 w:=by
 refine⟨hr.base,nm.len,λj cs st d n=>?_,λj u t d=>?_,λj L st d n=>?_,λj es d=>?_,λj1 j2 b x y h1 K Y Z d1 d2=>?_,hr.glob,hr.tab⟩
 ·obtain⟨m,x,a,f,rfl,e⟩:=nm.back j _ d s_;obtain⟨M,rfl,o⟩:=Ee e.symm;have o:=o n;subst o;have⟨b,vs,ty,p,r,z,A,E,k6⟩:=hr.cells m M st a n;refine⟨b,vs,ty,(nm.to m _ a f).1.trans p,r,z,by rw[rS];exact A,λc J=>?_,λq c v J N=>?_⟩
  ·obtain⟨q,hq,rfl⟩:=bg J;have:=aC hq;rw[rT]at this;have⟨O,F,e⟩:=cV.1 this;rw[<-e,NN];exact E O (ai F)
  rw[rT]at J;obtain⟨O,F,rfl⟩:=cV.1 J;exact nm.rel (k6 q O v F N)
 ·obtain⟨m,x,a,f,rfl,e⟩:=nm.back j _ d s_;have:=NM e.symm;subst this;rw[(nm.to m _ a f).1];exact hr.tok m u t a
 ·obtain⟨m,x,a,f,rfl,e⟩:=nm.back j _ d s_;have:=Qh e.symm;subst this;have⟨l,fn,tm,D,p,r,z,A,E⟩:=hr.loop m L st a n;exact⟨l,fn,tm,D,(nm.to m _ a f).1.trans p,r,z,A,λt=>by rw[<-hl m L st a n t];exact nm.rel (E t)⟩
 ·obtain⟨m,x,a,f,rfl,e⟩:=nm.back j _ d s_;obtain⟨Q,rfl,rfl⟩:=Ua e.symm;have⟨b,S,g,p,r,z,A,E⟩:=hr.map m Q a;refine⟨b,S,g,(nm.to m _ a f).1.trans p,r,z,by simpa using A,λq e me he U=>?_⟩;rw[ba]at he;obtain⟨e0,F,rfl⟩:=cV.1 he;have⟨z1,z2,z3⟩:=E q e0 me F U;exact⟨z1,by rw[yK];exact z2,nm.rel z3⟩
 obtain⟨m1,x1,G,V,rfl,e1⟩:=nm.back j1 _ h1 (λe=>by subst e;cases d1);obtain⟨m2,x2,I,X,rfl,o⟩:=nm.back j2 _ K (λe=>by subst e;cases d2);rw[(nm.to m1 _ G V).1]at Y;rw[(nm.to m2 _ I X).1]at Z;rw[hr.uniq m1 m2 b x1 x2 G I Y Z (by rw[<-Iq (i:=i) (k:=k),<-e1];exact d1) (by rw[<-Iq (i:=i) (k:=k),<-o];exact d2)]
end
end Go.V
namespace Go.V
open Go
theorem nY(p:Nat) (T:List Nat) (h h':H) (id:Nat):(fin p T h h')[id]?=(h[id]?).map λx=>if id=p then(match h'[h.length]? with
  |some y=>y.mv h.length p
  |none=>x)
 else if T.contains id then(match h'[id]? with
  |some y=>y.mv h.length p
  |none=>x)
 else x:=by unfold fin;rw[List.getElem?_mapIdx];rfl
theorem Aa(p:Nat) (T:List Nat) (h h':H):(fin p T h h').length=h.length:=by simp[fin]
structure Fr (T:List Nat) (h h':H):Prop where
 ge:h.length<=h'.length
 fr:∀id,id<h.length->id∉T->h'[id]?=h[id]?
 loop:∀(j:Nat) L st,h'[j]?=some (.loop L st)->h[j]?=some (.loop L st)
section
variable {P:Program}{B:Nat}{A0:Nat->Nat->Prop}{σ:List (Option Nat)}{h h':H}{w w':World}
theorem NO(hr:HRel P B A0 σ h w){j:Nat}{x:VObj}(hj:h[j]?=some x) (k:Nat):x.mv h.length k=x:=by
 have o:h[h.length]?=none\/h[h.length]?=some .void:=.inl (cK (aR _));cases x with
 |cells d f=>
  by_cases g:f=.dead
  ·subst g;rfl
  have⟨b,t,D,u,v,y,i,p,A⟩:=hr.cells j d f hj g;have:AV.mvs h.length k d=d:=tH λq a r=>by have c:q<t.size:=eG (aB.1 r).1 i;exact C7 o k (A q a _ r (aT c))
  cases f<;>first|exact absurd rfl g|simp only[VObj.mv,this]
 |map s=>
  have⟨b,l,m,u,v,y,i,p⟩:=hr.map j s hj;simp only[VObj.mv,VObj.map.injEq];apply cU;intro q;rw[ba];cases c:s[q]? with
  |none=>rfl
  |some e=>
   have n:q<l.size:=by rw[i];exact(aB.1 c).1
   have⟨_,_,z⟩:=p q e _ c (aT n);simp[C7 o k z]
 |_=>rfl
theorem Ih [DFlag] (hr:HRel P B A0 σ h w){p:Nat}{T:List Nat}{r:AV}{v:Value}(hp:h[p]?=some .void) (hT:p∉T) (hlen:h'.length<=h.length+1) (hf:Fr T h h') (L:er P B A0 σ h w r h' v w') :
  er P B A0 σ h w (r.mv h.length p) (fin p T h h') v w':=by
 have⟨σ',X,f,Y⟩:=L;have Z:=hf.ge;have O:p<h.length:=(aB.1 hp).1;have Q:h'[p]?=some .void:=(hf.fr p O hT).trans hp;have q':σ'.length=h'.length:=X.len;have c:∀j:Nat,j≠h.length->(if j=h.length then p else j)=j:=λj a=>if_neg a
 have K:Named σ' h' ((σ'.take h.length).set p ((σ'[h.length]?).getD none)) (fin p T h h') h.length p:=by
  refine⟨λj x a S=>?_,λj y a M=>?_,by rw[ld,ag,Aa];omega⟩
  ·have U:=(aB.1 a).1;by_cases e:j=h.length
   ·subst e;rw[if_pos rfl];refine⟨?_,?_⟩
    ·rw[aH (by rw[ag];omega)];rw[aC (show h.length<σ'.length by omega)];rfl
    rw[nY,hp];simp[a]
   rw[c j e];have G:j≠p:=λe=>by subst e;rw[Q]at a;simp only[aA]at a;exact S a.symm
   have d:j<h.length:=o_;refine⟨by rw[aE (λk=>G k.symm),cS,if_pos d],?_⟩;rw[nY,aC d,bq,if_neg G];by_cases n:T.contains j=true
   ·rw[if_pos n,a]
   rw[if_neg n];have:=hf.fr j d (by simpa using n);rw[aC d]at this;rw[a]at this;simp only[aA]at this;rw[<-this,NO hr (by rw[aC d,<-this]) p]
  rw[nY]at a;have⟨x0,E,e⟩:=cV.1 a;have d:=(aB.1 E).1;by_cases I:j=p
  ·subst I;rw[if_pos rfl]at e;rw[hp]at E;simp only[aA]at E;subst E;split at e
   ·rename_i y' V;subst e;exact⟨h.length,y',V,mv_void.1 M,(if_pos rfl).symm,rfl⟩
   exact absurd e.symm M
  rw[if_neg I]at e;have g:j≠h.length:=o_;have J:h'[j]?=some (h'[j]' o_):=aC _;by_cases n:T.contains j=true
  ·rw[if_pos n,J]at e;dsimp only at e;subst e;exact⟨j,_,J,mv_void.1 M,(c j g).symm,rfl⟩
  rw[if_neg n]at e;subst e;have:=hf.fr j d (by simpa using n);rw[E]at this;exact⟨j,x0,this,M,(c j g).symm,(NO hr E p).symm⟩
 have hR:=K.hrel X (λj L F a hd t=>by have⟨l,fn,tm,D,i,m,z3,z4,z5⟩:=hr.loop j L F (hf.loop j L F a) hd;exact C7 (.inl (cK (aR _))) p (z5 t))
 have N:∀ {j:Nat}{x:VObj},j<h.length->h'[j]?=some x->x≠.void->((σ'.take h.length).set p ((σ'[h.length]?).getD none))[j]?=σ'[j]?/\(fin p T h h')[j]?=some (x.mv h.length p):=fun {j x} U a S=>by have:=K.to j x a S;rwa[c j o_]at this
 refine⟨_,hR,⟨f.below,f.shapes,λb o x ha hc=>let z:=f.kept b o x ha hc;⟨K.alw z.1,z.2⟩,λj cs F a=>?_,λj u ty a=>?_,λj L F a=>?_,λj es a=>?_,f.marks,f.drawn⟩,K.rel Y⟩
 ·have⟨q,q0,s,A⟩:=f.cells j cs F a;have⟨i,m⟩:=N (aB.1 a).1 A s_;exact⟨i.trans q,by cases s<;>exact⟨_,_,m⟩⟩
 ·have⟨u',q,A,e3⟩:=f.toks j u ty a;have⟨i,m⟩:=N (aB.1 a).1 q s_;exact⟨u',m,A,λe=>i.trans (e3 e)⟩
 ·have⟨q,s,A⟩:=f.loops j L F a;have⟨i,m⟩:=N (aB.1 a).1 A s_;exact⟨i.trans q,s,m⟩
 have⟨q,q1,A⟩:=f.maps j es a;have⟨i,m⟩:=N (aB.1 a).1 A s_;exact⟨i.trans q,_,m⟩
end
structure Loc2 (T:List Nat) (h h' h2 h2':H):Prop where
 len:h2'.length=h'.length
 new:∀id,h.length<=id->h2'[id]?=h'[id]?
 same:∀id∈T,h2'[id]?=h'[id]?
section
variable {T:List Nat}{h h1 h2 h21:H}
theorem Fr.refl(h:H):Fr T h h:=⟨aR _,λ_ _ _=>rfl,λ_ _ _ a=>a⟩
theorem Fr.push(f:Fr T h h1){x:VObj}(hx:∀L st,x≠.loop L st):Fr T h (h1++[x]):=by
 refine⟨by simp;have:=f.ge;omega,λid b c=>?_,λj L st a=>?_⟩
 ·rw[aP (by have:=f.ge;omega)];exact f.fr id b c
 rcases bX a with⟨_,a⟩|⟨_,e⟩
 ·exact f.loop j L st a
 exact absurd e.symm (hx L st)
theorem Fr.set(f:Fr T h h1){id:Nat}(hid:id∈T){x:VObj}(hx:∀L st,x≠.loop L st):Fr T h (h1.set id x):=by
 refine⟨by simpa using f.ge,λj c b=>?_,λj L st a=>?_⟩
 ·rw[aE (λe:id=j=>b (e▸hid))];exact f.fr j c b
 rcases aa a with⟨_,e,_⟩|⟨_,a⟩
 ·exact absurd e.symm (hx L st)
 exact f.loop j L st a
theorem Fr.freeze(f:Fr T h h1):∀(l:List Nat),(∀i∈l,i∈T)->Fr T h (Go.V.freeze h1 l):=by
 intro l;induction l generalizing h1 with
 |nil=>intro _;exact f
 |cons i l b=>
  intro a;simp only[Go.V.freeze];refine b ?_ (λj c=>a j (by simp[c]));unfold uU;split
  ·exact f.set (a i s_) s_
  exact f
theorem Loc2.refl(hl:h2.length=h.length) (ha:∀id∈T,h2[id]?=h[id]?):Loc2 T h h h2 h2:=
 ⟨hl,λid a=>by rw[cK o_,cK o_],ha⟩
theorem Loc2.push(l:Loc2 T h h1 h2 h21) (x:VObj):Loc2 T h (h1++[x]) h2 (h21++[x]):=by
 refine⟨by simp[l.len],λid a=>?_,λid a=>?_⟩
 ·rw[kj,kj,l.len,l.new id a]
 rw[kj,kj,l.len,l.same id a]
theorem Loc2.set(l:Loc2 T h h1 h2 h21) (id:Nat) (x:VObj):Loc2 T h (h1.set id x) h2 (h21.set id x):=by
 refine⟨by simp[l.len],λj a=>?_,λj a=>?_⟩
 ·rw[dq,dq,l.len,l.new j a]
 rw[dq,dq,l.len,l.same j a]
theorem Loc2.freeze(l:Loc2 T h h1 h2 h21):∀(l':List Nat),(∀i∈l',i∈T)->Loc2 T h (Go.V.freeze h1 l') h2 (Go.V.freeze h21 l'):=by
 intro l';induction l' generalizing h1 h21 with
 |nil=>intro _;exact l
 |cons i l' b=>
  intro a;simp only[Go.V.freeze];refine b ?_ (λj c=>a j (by simp[c]));unfold uU;rw[l.same i (a i s_)];split
  ·exact l.set _ _
  exact l
end
mutual
theorem Bq{h h2:H}:∀(n:Nat) (v:AV),(∀id∈iW h n v,h2[id]?=h[id]?)->iW h2 n v=iW h n v
 |0,_=>λ_=>by simp[iW]
 |n+1,v=>λhh=>by
  cases v with
  |ptr id off=>
   simp only[iW]at hh ⊢;rw[hh id s_];cases hx:h[id]? with
   |none=>rfl
   |some x=>cases x with
    |cells cs st=>simp only[hx]at hh;dsimp only;rw[jk n cs λi hi=>hh i (by simp[hi])]
    |_=>rfl
  |msl id off sz len cap=>
   simp only[iW]at hh ⊢;rw[hh id s_];cases hx:h[id]? with
   |none=>rfl
   |some x=>cases x with
    |cells cs st=>simp only[hx]at hh;dsimp only;rw[jk n cs λi hi=>hh i (by simp[hi])]
    |_=>rfl
  |func f c=>simp only[iW]at hh ⊢;exact jk n c hh
  |iface t u=>simp only[iW]at hh ⊢;exact Bq n u hh
  |agg cs=>simp only[iW]at hh ⊢;exact jk n cs hh
  |tuple vs=>simp only[iW]at hh ⊢;exact jk n vs hh
  |_=>simp[iW]
theorem jk{h h2:H}:∀(n:Nat) (l:LA),(∀id∈cY h n l,h2[id]?=h[id]?)->cY h2 n l=cY h n l
 |0,_=>λ_=>by simp[cY]
 |_+1,[]=>λ_=>by simp[cY]
 |n+1,v::r=>λhh=>by simp only[cY]at hh ⊢;rw[Bq n v λi hi=>hh i (by simp[hi]),jk n r λi hi=>hh i (by simp[hi])]
end
mutual
theorem EI{h k k2:H}:∀(n:Nat) (v:AV),(∀id∈iW h n v,k2[id]?=k[id]?/\∀cs,k[id]?=some (.cells cs .frozen)->∃st,h[id]?=some (.cells cs st))->fc k2 n v=fc k n v
 |0,_=>λ_=>by simp[fc]
 |n+1,v=>λhh=>by
  cases v with
  |ptr id off=>
   simp only[iW]at hh;simp only[fc];have⟨e1,e2⟩:=hh id s_;rw[e1];split
   ·rename_i cs a;have⟨st,b⟩:=e2 cs a;simp only[b]at hh;rw[nG n cs λi d=>hh i (by simp[d])]
   rfl
  |msl id off j len e=>
   simp only[iW]at hh;simp only[fc];have⟨e1,e2⟩:=hh id s_;rw[e1];split
   ·rename_i cs a;have⟨st,b⟩:=e2 cs a;simp only[b]at hh;rw[nG n cs λi d=>hh i (by simp[d])]
   rfl
  |func f c=>simp only[iW]at hh;simp only[fc];rw[nG n c hh]
  |iface t u=>simp only[iW]at hh;simp only[fc];rw[EI n u hh]
  |agg cs=>simp only[iW]at hh;simp only[fc];rw[nG n cs hh]
  |tuple g=>simp only[iW]at hh;simp only[fc];rw[nG n g hh]
  |_=>simp[fc]
theorem nG{h k k2:H}:∀(n:Nat) (l:LA),(∀id∈cY h n l,k2[id]?=k[id]?/\∀cs,k[id]?=some (.cells cs .frozen)->∃st,h[id]?=some (.cells cs st))->gE k2 n l=gE k n l
 |0,_=>λ_=>by simp[gE]
 |_+1,[]=>λ_=>by simp[gE]
 |n+1,v::r=>λhh=>by simp only[cY]at hh;simp only[gE];rw[EI n v λi hi=>hh i (by simp[hi]),nG n r λi hi=>hh i (by simp[hi])]
end
theorem E3{h:H}{l:List Nat}{id:Nat}{cs:LA}(hx:(freeze h l)[id]?=some (.cells cs .frozen)):∃st,h[id]?=some (.cells cs st):=by
 rcases(iM h l).at_ id with e|⟨b,c,a⟩
 ·exact⟨_,e.symm.trans hx⟩
 rw[hx]at a;simp only[aA,VObj.cells.injEq]at a;obtain⟨rfl,_⟩:=a;exact⟨_,c⟩
theorem EM{h h2:H}{l:LA}(hl:h2.length=h.length) (ha:∀id∈cY h dD l,h2[id]?=h[id]?) :
  cY h2 dD l=cY h dD l/\gE (freeze h2 (cY h2 dD l)) dD l=gE (freeze h (cY h dD l)) dD l/\Fr (cY h dD l) h (freeze h (cY h dD l))/\Loc2 (cY h dD l) h (freeze h (cY h dD l)) h2 (freeze h2 (cY h dD l)):=by
 have e:=jk dD l ha;have b:=(Loc2.refl (T:=cY h dD l) hl ha).freeze (cY h dD l) (λ_ h=>h);refine⟨e,?_,(Fr.refl h).freeze _ (λ_ h=>h),b⟩;rw[e];exact nG (h:=h) dD l λid a=>⟨b.same id a,λd c=>E3 c⟩
end Go.V
namespace Go.V
open Go
def Same(T:List Nat) (h:H) (F:H->Option (AV × H)) (r:AV) (h':H):Prop:=
 Fr T h h'/\∀h2,h2.length=h.length->(∀id∈T,h2[id]?=h[id]?)->∃h2',F h2=some (r,h2')/\Loc2 T h h' h2 h2'
theorem Same.here{T:List Nat}{h:H}{F:H->Option (AV × H)}{r:AV}(hF:∀h2,h2.length=h.length->(∀id∈T,h2[id]?=h[id]?)->F h2=some (r,h2)):Same T h F r h:=
 ⟨.refl h,λh2 a b=>⟨h2,hF h2 a b,.refl a b⟩⟩
theorem Same.push{T:List Nat}{h:H}{F:H->Option (AV × H)}{r:AV}{x:VObj}(hx:∀L st,x≠.loop L st) (hF:∀h2,h2.length=h.length->(∀id∈T,h2[id]?=h[id]?)->F h2=some (r,h2++[x])):Same T h F r (h++[x]):=
 ⟨(Fr.refl h).push hx,λh2 a b=>⟨_,hF h2 a b,(Loc2.refl a b).push x⟩⟩
theorem Same.set{T:List Nat}{h:H}{F:H->Option (AV × H)}{r:AV}{id:Nat}{x:VObj}(hid:id∈T) (hx:∀L st,x≠.loop L st) (hF:∀h2,h2.length=h.length->(∀id∈T,h2[id]?=h[id]?)->F h2=some (r,h2.set id x)):Same T h F r (h.set id x):=
 ⟨(Fr.refl h).set hid hx,λh2 a b=>⟨_,hF h2 a b,(Loc2.refl a b).set id x⟩⟩
theorem Same.setPush{T:List Nat}{h:H}{F:H->Option (AV × H)}{r:AV}{id:Nat}{x y:VObj}(hid:id∈T) (hx:∀L st,x≠.loop L st) (hy:∀L st,y≠.loop L st) (hF:∀h2,h2.length=h.length->(∀id∈T,h2[id]?=h[id]?)->F h2=some (r,h2.set id x++[y])):Same T h F r (h.set id x++[y]):=
 ⟨((Fr.refl h).set hid hx).push hy,λh2 a b=>⟨_,hF h2 a b,((Loc2.refl a b).set id x).push y⟩⟩
theorem HZ{T:List Nat}{h h2:H}{x:AV}(ha:∀id∈T,h2[id]?=h[id]?) (hx:∀i∈ce x,i∈T):lp h2 x=lp h x:=by
 cases x with
 |msl id a c len b=>simp only[lp];rw[ha id (hx id (by simp[ce]))]
 |_=>rfl
theorem Md{T:List Nat}{h h2:H}{x:AV}{sz:Nat}(ha:∀id∈T,h2[id]?=h[id]?) (hx:∀i∈ce x,i∈T):qM h2 sz x=qM h sz x:=by
 cases x with
 |msl id a b len c=>simp only[qM];rw[ha id (hx id (by simp[ce]))]
 |_=>rfl
theorem qF{P:Program}{T:List Nat}{h h':H}{t:TypeId}{s x r:AV}(hs:∀i∈ce s++iV s++ce x,i∈T) (hh:eV P h t s x=some (r,h')):Same T h (λh=>eV P h t s x) r h':=by
 have y:∀i∈ce x,i∈T:=λi z=>hs i (by simp[z])
 unfold eV at hh;split at hh<;>try(cases hh;done)
 rename_i e l;split at hh<;>try(cases hh;done)
 rename_i I A B f g o;split at hh<;>try(cases hh;done)
 rename_i m;have F:∀b:H,(∀id∈T,b[id]?=h[id]?)->lp b x=some B:=λb d=>(HZ d y).trans o
 split at hh<;>try(cases hh;done)
 ·rename_i J ext;split at hh<;>try(cases hh;done)
  rename_i k;split at hh<;>try(cases hh;done)
  rename_i a;split at hh
  ·split at hh
   ·simp only[aA,aD]at hh;obtain⟨rfl,rfl⟩:=hh;exact .here λb n d=>by simp only[eV,l,f,g,F b d];rw[if_neg m,if_neg k,if_neg a]
   rename_i D;simp only[aA,aD]at hh;obtain⟨rfl,rfl⟩:=hh;refine .push s_ λb n d=>?_
   simp only[eV,l,f,g,F b d];rw[if_neg m,if_neg k,if_neg a,n]
  ·rename_i p;split at hh<;>try(cases hh;done)
   rename_i w K q;split at hh<;>try(cases hh;done)
   rename_i u;simp only[aA,aD]at hh;obtain⟨rfl,rfl⟩:=hh;have j:p∈T:=hs p (by simp[iV]);refine .set j s_ λb n d=>?_
   simp only[eV,l,f,g,F b d,d p j,q];rw[if_neg m,if_neg k,if_neg a,if_pos u]
  split at hh<;>try(cases hh;done)
  simp only[aA,aD]at hh;obtain⟨rfl,rfl⟩:=hh;exact .here λb n d=>by simp only[eV,l,f,g,F b d];rw[if_neg m,if_neg k,if_neg a]
 rename_i id E G len c;split at hh<;>try(cases hh;done)
 rename_i L v;split at hh<;>try(cases hh;done)
 rename_i u;simp only[aA,aD]at hh;obtain⟨rfl,rfl⟩:=hh;have j:id∈T:=hs id (by simp[ce]);refine .set j s_ λb n d=>?_
 simp only[eV,l,f,g,F b d,d id j,v];rw[if_neg m,if_pos u]
theorem qG{P:Program}{T:List Nat}{h h':H}{t:TypeId}{s x r:AV}(hs:∀i∈ce s++iV s++ce x,i∈T) (hh:fM P h t s x=some (r,h')):Same T h (λh=>fM P h t s x) r h':=by
 have v:∀i∈ce x,i∈T:=λi w=>hs i (by simp[w])
 unfold fM at hh;split at hh<;>try(cases hh;done)
 rename_i e l;split at hh<;>try(cases hh;done)
 rename_i y z d f;split at hh<;>try(cases hh;done)
 rename_i o;split at hh<;>try(cases hh;done)
 rename_i A m p;have F:∀a:H,(∀id∈T,a[id]?=h[id]?)->qM a y x=some (A,m):=λa b=>(Md b v).trans p
 split at hh<;>try(cases hh;done)
 ·rename_i E;split at hh
  ·rename_i g;simp only[aA,aD]at hh;obtain⟨rfl,rfl⟩:=hh;exact .here λa j b=>by simp only[fM,l,d,f,F a b];rw[if_neg o,if_pos g]
  rename_i g;split at hh<;>try(cases hh;done)
  rename_i q;simp only[aA,aD]at hh;obtain⟨rfl,rfl⟩:=hh;refine .push s_ λa j b=>?_
  simp only[fM,l,d,f,F a b];rw[if_neg o,if_neg g,if_pos q,j]
 rename_i id B D n c;split at hh
 ·rename_i g;simp only[aA,aD]at hh;obtain⟨rfl,rfl⟩:=hh;exact .here λa j b=>by simp only[fM,l,d,f,F a b];rw[if_neg o,if_pos g]
 rename_i g;split at hh<;>try(cases hh;done)
 rename_i G u;split at hh<;>try(cases hh;done)
 rename_i q;simp only[aA,aD]at hh;obtain⟨rfl,rfl⟩:=hh;have k:id∈T:=hs id (by simp[ce]);refine .setPush k s_ s_ λa j b=>?_
 simp only[fM,l,d,f,F a b,b id k,u];rw[if_neg o,if_neg g,if_pos q,j]
theorem D0{P:Program}{T:List Nat}{h h2:H}{t:TypeId}{s x:AV}(hs:∀i∈ce s++iV s++ce x,i∈T) (hl:h2.length=h.length) (ha:∀id∈T,h2[id]?=h[id]?) (hh:fM P h t s x=none):fM P h2 t s x=none:=by
 cases b:fM P h2 t s x with
 |none=>rfl
 |some z=>have⟨r,c⟩:=z;have⟨d,e,_⟩:=(qG hs b).2 h hl.symm (λid a=>(ha id a).symm);dsimp only at e;rw[hh]at e;cases e
theorem Dz{P:Program}{T:List Nat}{h h2:H}{t:TypeId}{s x:AV}(hs:∀i∈ce s++iV s++ce x,i∈T) (hl:h2.length=h.length) (ha:∀id∈T,h2[id]?=h[id]?) (hh:eV P h t s x=none):eV P h2 t s x=none:=by
 cases b:eV P h2 t s x with
 |none=>rfl
 |some z=>have⟨r,c⟩:=z;have⟨d,e,_⟩:=(qF hs b).2 h hl.symm (λid a=>(ha id a).symm);dsimp only at e;rw[hh]at e;cases e
theorem F4{P:Program}{T:List Nat}{wr:Bool}{h h':H}{t:TypeId}{s x r:AV}(hs:∀i∈ce s++iV s++ce x,i∈T) (hh:bu P wr h t s x=some (r,h')):Same T h (λh=>bu P wr h t s x) r h':=by
 unfold bu at hh;split at hh
 ·rename_i d;have⟨f,k⟩:=qF hs hh;exact⟨f,λc a b=>let ⟨h3,e,l⟩:=k c a b;⟨h3,by simp only[bu];rw[if_pos d];exact e,l⟩⟩
 rename_i d;split at hh
 ·rename_i g;split at hh
  ·rename_i z j;simp only[aA]at hh;subst hh;have⟨f,k⟩:=qF hs j;exact⟨f,λc a b=>let ⟨h3,e,l⟩:=k c a b;⟨h3,by dsimp only at e;simp only[bu];rw[if_neg d,if_pos g,e],l⟩⟩
  rename_i m;have⟨f,k⟩:=qG hs hh;exact⟨f,λc a b=>let ⟨h3,e,l⟩:=k c a b;⟨h3,by dsimp only at e;simp only[bu];rw[if_neg d,if_pos g,Dz hs a b m];exact e,l⟩⟩
 rename_i g;split at hh
 ·rename_i z j;simp only[aA]at hh;subst hh;have⟨f,k⟩:=qG hs j;exact⟨f,λc a b=>let ⟨h3,e,l⟩:=k c a b;⟨h3,by dsimp only at e;simp only[bu];rw[if_neg d,if_neg g,e],l⟩⟩
 rename_i m;have⟨f,k⟩:=qF hs hh;exact⟨f,λc a b=>let ⟨h3,e,l⟩:=k c a b;⟨h3,by dsimp only at e;simp only[bu];rw[if_neg d,if_neg g,D0 hs a b m];exact e,l⟩⟩
def Both(T:List Nat) (h:H) (hz:H) (h2 hz2:H):Prop:=Fr T h hz/\Loc2 T h hz h2 hz2
theorem Both.push{T:List Nat}{h hz h2 hz2:H}(b:Both T h hz h2 hz2){x:VObj}(hx:∀L st,x≠.loop L st):Both T h (hz++[x]) h2 (hz2++[x]):=⟨b.1.push hx,b.2.push x⟩
theorem Ce{P:Program}{m:Mode}{T:List Nat}{h1 h h' h2:H}{r r':AV}(b:Both T h h h2 h2) (hl:h2.length=h.length) (hh:oA P m h1 h r=some (r',h')):∃h2',oA P m h1 h2 r=some (r',h2')/\Both T h h' h2 h2':=by
 unfold oA at hh;split at hh
 ·split at hh<;>try(cases hh;done)
  rename_i e g d;split at hh<;>try(cases hh;done)
  rename_i a;split at hh<;>try(cases hh;done)
  ·simp only[aA,aD]at hh;obtain⟨rfl,rfl⟩:=hh;exact⟨_,by simp only[oA,d];rw[if_pos a,hl],b.push s_⟩
  split at hh
  ·simp only[aA,aD]at hh;obtain⟨rfl,rfl⟩:=hh;exact⟨_,by simp only[oA,d];rw[if_pos a],b⟩
  rename_i f;simp only[aA,aD]at hh;obtain⟨rfl,rfl⟩:=hh;refine⟨_,?_,b.push s_⟩;simp only[oA,d];rw[if_pos a,hl]
 ·simp only[aA,aD]at hh;obtain⟨rfl,rfl⟩:=hh;exact⟨_,rfl,b⟩
 ·split at hh<;>try(cases hh;done)
  rename_i i c;split at hh<;>try(cases hh;done)
  rename_i a;split at hh<;>try(cases hh;done)
  ·simp only[aA,aD]at hh;obtain⟨rfl,rfl⟩:=hh;exact⟨_,by simp only[oA,c];rw[if_pos a,hl],b.push s_⟩
  simp only[aA,aD]at hh;obtain⟨rfl,rfl⟩:=hh;exact⟨_,by simp only[oA,c];rw[if_pos a],b⟩
 cases hh
theorem A8{T:List Nat}{h1 h hz h' h2 hz2:H}{r r':AV}(b:Both T h hz h2 hz2) (hh:lF h1 hz r=some (r',h')):∃h2',lF h1 hz2 r=some (r',h2')/\Both T h h' h2 h2':=by
 unfold lF at hh;split at hh<;>try(cases hh;done)
 split at hh<;>try(cases hh;done)
 rename_i f a;split at hh<;>try(cases hh;done)
 rename_i c d;split at hh<;>try(cases hh;done)
 rename_i e;simp only[aA,aD]at hh;obtain⟨rfl,rfl⟩:=hh;exact⟨_,by simp only[lF,a,d];rw[if_pos e,b.2.len],b.push s_⟩
theorem yh{T:List Nat}{h1 h hz h2 hz2:H}{r:AV}(_b:Both T h hz h2 hz2) (hh:lF h1 hz r=none):lF h1 hz2 r=none:=by
 unfold lF at hh ⊢;split
 ·dsimp only at hh ⊢;split<;>first|rfl|skip
  rename_i e a;rw[a]at hh;dsimp only at hh;split<;>first|rfl|skip
  rename_i b c;rw[c]at hh;dsimp only at hh;split
  ·rename_i d;rw[if_pos d]at hh;cases hh
  rfl
 rfl
theorem A7{P:Program}{m:Mode}{T:List Nat}{h1 h h' h2:H}{r r':AV}(b:Both T h h h2 h2) (hl:h2.length=h.length) (hh:ju P m h1 h r=some (r',h')):∃h2',ju P m h1 h2 r=some (r',h2')/\Both T h h' h2 h2':=by
 unfold ju at hh;split at hh
 ·split at hh<;>try(cases hh;done)
  rename_i g i d;split at hh<;>try(cases hh;done)
  rename_i f;simp only[aA,aD]at hh;obtain⟨rfl,rfl⟩:=hh;have⟨a,e,l⟩:=Ce b hl d;exact⟨a,by simp only[ju,e];rw[if_pos f],l⟩
 rename_i c;have⟨a,e,l⟩:=Ce b hl hh;refine⟨a,?_,l⟩;unfold ju;split
 ·exact absurd rfl (c _ _)
 exact e
theorem GA{P:Program}{m:Mode}{T:List Nat}{h1 h h2:H}{r:AV}(b':Both T h2 h2 h h) (hl:h2.length=h.length) (hh:ju P m h1 h r=none):ju P m h1 h2 r=none:=by
 cases a:ju P m h1 h2 r with
 |none=>rfl
 |some z=>have⟨b,c⟩:=z;have⟨_,e,_⟩:=A7 b' hl.symm a;rw[hh]at e;cases e
theorem yi{h1 hz:H}{r:AV}(hno:∀x y,r=.tuple [x,y]->False):jZ .ownM h1 hz r=lF h1 hz r:=by
 unfold jZ;split
 ·exact(hno _ _ rfl).elim
 ·rfl
 simp_all
theorem II{m:Mode}{T:List Nat}{h1 h hz h' h2 hz2:H}{r r':AV}(b:Both T h hz h2 hz2) (hh:jZ m h1 hz r=some (r',h')):∃h2',jZ m h1 hz2 r=some (r',h2')/\Both T h h' h2 h2':=by
 unfold jZ at hh;split at hh<;>try(cases hh;done)
 ·split at hh<;>try(cases hh;done)
  rename_i d;split at hh<;>try(cases hh;done)
  rename_i g i f;simp only[aA,aD]at hh;obtain⟨rfl,rfl⟩:=hh;have⟨a,e,l⟩:=A8 b f;exact⟨a,by simp only[jZ,e];rw[if_pos d],l⟩
 rename_i c;have⟨a,e,l⟩:=A8 b hh;exact⟨a,by rw[yi c];exact e,l⟩
theorem GB{m:Mode}{T:List Nat}{h1 h hz h2 hz2:H}{r:AV}(b:Both T h hz h2 hz2) (hh:jZ m h1 hz r=none):jZ m h1 hz2 r=none:=by
 cases m with
 |ownM=>
  by_cases c:∃x y,r=.tuple [x,y]
  ·obtain⟨x,y,rfl⟩:=c;simp only[jZ]at hh ⊢;split
   ·rename_i f;rw[if_pos f]at hh;cases d:lF h1 hz x with
    |none=>rw[yh b d]
    |some z=>rw[d]at hh;cases hh
   rfl
  have a:∀x y,r=.tuple [x,y]->False:=λx y e=>c ⟨x,y,e⟩
  rw[yi a]at hh ⊢;exact yh b hh
 |_=>simp only[jZ]
theorem zl{T:List Nat}{h1 h hz h' h2 hz2:H}{r r':AV}(b0:Both T h h h2 h2) (b:Both T h hz h2 hz2) (hh:lg r h1 h hz=some (r',h')):∃h2',lg r h1 h2 hz2=some (r',h2')/\Both T h h' h2 h2':=by
 unfold lg at hh;split at hh<;>try(cases hh;done)
 rename_i a c;simp only[aA,aD]at hh;obtain⟨rfl,rfl⟩:=hh;refine⟨if Gg a=true then h2 else hz2,by simp only[lg,c],?_⟩;split
 ·exact b0
 exact b
theorem E4{P:Program}{m:Mode}{T:List Nat}{h1 h hz h' h2 hz2:H}{r r':AV}(b0:Both T h h h2 h2) (b0':Both T h2 h2 h h) (hl:h2.length=h.length) (b:Both T h hz h2 hz2) (hh:ky P m r h1 h hz=some (r',h')) :
  ∃h2',ky P m r h1 h2 hz2=some (r',h2')/\Both T h h' h2 h2':=by
 have own:∀m,(match ju P m h1 h r with
   |some z=>some z
   |none=>match jZ m h1 hz r with
    |some z=>some z
    |none=>lg r h1 h hz)=some (r',h')->∃h2',(match ju P m h1 h2 r with
   |some z=>some z
   |none=>match jZ m h1 hz2 r with
    |some z=>some z
    |none=>lg r h1 h2 hz2)=some (r',h2')/\Both T h h' h2 h2':=λm hh=>by
  cases a:ju P m h1 h r with
  |some z=>rw[a]at hh;simp only[aA]at hh;subst hh;have⟨d,e,l⟩:=A7 b0 hl a;exact⟨d,by rw[e],l⟩
  |none=>
   rw[a]at hh;rw[GA b0' hl a];dsimp only at hh ⊢;cases c:jZ m h1 hz r with
   |some z=>rw[c]at hh;simp only[aA]at hh;subst hh;have⟨d,e,l⟩:=II b c;exact⟨d,by rw[e],l⟩
   |none=>rw[c]at hh;rw[GB b c];exact zl b0 b hh
 unfold ky at hh ⊢;split at hh
 ·exact own _ hh
 ·exact own _ hh
 exact zl b0 b hh
theorem BT{C:Cfg}{run:FuncId->LA->H->Option (AV × H)}{f:FuncId}{args:LA}{h h':H}{r:AV}(hm:C.mode f≠.openH) (hq:C.mode f≠.openQ) (hf0:C.mode f≠.openF) (hh:dM C run f args h=some (r,h')):Same (cY h dD args) h (λh=>dM C run f args h) r h':=by
 have d:∀a:H,a.length=h.length->(∀id∈cY h dD args,a[id]?=h[id]?)->∃h2',dM C run f args a=some (r,h2')/\Both (cY h dD args) h h' a h2':=by
  intro a c g;have⟨k,l,n,o⟩:=EM c g;unfold dM at hh ⊢;split at hh
  ·exact absurd ‹_› hm
  ·exact absurd ‹_› hq
  ·exact absurd ‹_› hf0
  rename_i m p;split at hh<;>try(cases hh;done)
  rename_i s i;split at hh<;>try(cases hh;done)
  rename_i t u q
  ·rw[l,i];dsimp only;rw[q];dsimp only;rw[k];exact E4 ⟨.refl h,.refl c g⟩ ⟨.refl a,.refl c.symm λid j=>(g id j).symm⟩ c ⟨n,o⟩ hh
 refine⟨?_,λa c g=>let ⟨h3,e,b⟩:=d a c g;⟨h3,e,b.2⟩⟩;have⟨_,_,b⟩:=d h rfl (λ_ _=>rfl);exact b.1
theorem HK{C:Cfg}{s s':PT}{h:H}{o:Oper}(hh:∀x∈o.op.operands.toList,ev s x=ev s' x):ll C s h o=ll C s' h o:=by
 unfold ll;cases k:o.op<;>rw[k]at hh<;>simp only[Op.operands,Call.operands]at hh ⊢
 case call c=>
  have⟨e,a,g⟩:=c;cases e with
  |builtin b=>
   have j:∀x∈a.toList,ev s x=ev s' x:=λx i=>hh x (by simpa using i)
   cases b<;>simp only;split
   ·split
    ·rename_i x y d;rw[j x (by rw[d];simp),j y (by rw[d];simp)]
    rfl
   rfl
  |value f=>have l:ev s f=ev s' f:=hh f s_;have m:evs s a.toList=evs s' a.toList:=uY (λx i=>hh x (by simp at i ⊢;exact .inr i));simp only[l,m]
  |_=>rfl
 case buildSlice t len parts=>rw[rN (λx i=>hh x (by simpa using i))]
 all_goals first
  |rfl
  |(simp only[ao,cy,or_false,forall_eq_or_imp,forall_eq]at hh;first|rw[hh]|rw[hh.1,hh.2]|rw[hh.1,hh.2.1,hh.2.2]|rw[hh.1])
theorem N4{C:Cfg}{s:PT}{h h2:H}{o:Oper}{T:List Nat}{wr:Bool}(hf:ll C s h o=some (T,wr)) (ha:∀id∈T,h2[id]?=h[id]?):ll C s h2 o=some (T,wr):=by
 unfold ll at hf;split at hf
 ·rename_i a;split at hf<;>rename_i c
  case h_10=>
   split at hf<;>try(cases hf;done)
   rename_i l d;simp only[aA,aD]at hf;obtain⟨rfl,rfl⟩:=hf;unfold ll;rw[if_pos a,c];dsimp only;rw[d];dsimp only;rw[jk _ _ ha]
  case h_12=>
   split at hf<;>try(cases hf;done)
   rename_i g b l j d;split at hf
   ·rename_i e;split at hf<;>try(cases hf;done)
    rename_i k f i;simp only[aA,aD]at hf;obtain⟨rfl,rfl⟩:=hf;unfold ll;rw[if_pos a,c];dsimp only;rw[j,d];dsimp only;rw[if_pos e];split
    ·exact absurd ‹_› k
    ·exact absurd ‹_› f
    ·exact absurd ‹_› i
    rw[jk _ _ ha]
   rename_i e;unfold ll;rw[if_pos a,c];dsimp only;rw[j,d];dsimp only;rw[if_neg e];exact hf
  all_goals first
   |(cases hf;done)
   |(unfold ll;rw[if_pos a,c];exact hf)
 rename_i a;unfold ll;rw[if_neg a];exact hf
theorem tJ{P:Program}{h h':H}{t:TypeId}{m k v:AV}(hm:fS P h t m k v=some h'):∃id,id∈KZ m/\∃es,h'=h.set id (.map es)/\∀h2:H,(∀i∈KZ m,h2[i]?=h[i]?)->fS P h2 t m k v=some (h2.set id (.map es)):=by
 unfold fS at hm;split at hm<;>try(cases hm;done)
 rename_i p q id g;split at hm<;>try(cases hm;done)
 rename_i es b;split at hm<;>try(cases hm;done)
 rename_i j;have a:id∈KZ (.mp id):=by simp[KZ]
 split at hm
 ·rename_i i c;split at hm<;>try(cases hm;done)
  rename_i e r l n;split at hm<;>try(cases hm;done)
  rename_i s o;split at hm<;>try(cases hm;done)
  rename_i d;simp only[aA]at hm;subst hm;exact⟨id,a,_,rfl,λh2 f=>by simp only[fS,g,f id a,b,c,l,n,o];rw[if_neg j,if_pos d]⟩
 ·rename_i c;split at hm<;>try(cases hm;done)
  rename_i d;simp only[aA]at hm;subst hm;exact⟨id,a,_,rfl,λh2 f=>by simp only[fS,g,f id a,b,c];rw[if_neg j,if_pos d]⟩
 cases hm
theorem QZ{C:Cfg}{run:FuncId->LA->H->Option (AV × H)}{cf:FuncId}{s:PT}{o:Oper}{h h':H}{r:AV}{T:List Nat}{wr:Bool}(hact:dW o=true) (hf:ll C s h o=some (T,wr)) (hv:opA C run cf s h o=some (r,h')) :
  wr=true/\Same T h (λh=>opA C run cf s h o) r h':=by
 unfold ll at hf;rw[if_pos hact]at hf;unfold opA at hv;split at hv
 ·rename_i x j;rw[j]at hf;simp only[aA,aD]at hf;obtain⟨rfl,rfl⟩:=hf;refine⟨rfl,?_⟩;split at hv
  ·rename_i hw;simp only[aA,aD]at hv;obtain⟨rfl,rfl⟩:=hv;exact .here λq w B=>by simp only[opA,j];rw[if_pos hw]
  rename_i hw;split at hv<;>try(cases hv;done)
  rename_i e he;simp only[aA,aD]at hv;obtain⟨rfl,rfl⟩:=hv;exact .push s_ λq w B=>by simp only[opA,j];rw[if_neg hw,he,w]
 ·rename_i t x j;rw[j]at hf;simp only[aA,aD]at hf;obtain⟨rfl,rfl⟩:=hf;refine⟨rfl,?_⟩;split at hv<;>try(cases hv;done)
  rename_i c m D Y;split at hv<;>try(cases hv;done)
  rename_i G;simp only[aA,aD]at hv;obtain⟨rfl,rfl⟩:=hv;exact .push s_ λq w B=>by simp only[opA,j,D,Y];rw[if_pos G,w]
 ·rename_i t j;rw[j]at hf;simp only[aA,aD]at hf;obtain⟨rfl,rfl⟩:=hf;refine⟨rfl,?_⟩;split at hv<;>try(cases hv;done)
  rename_i c Z;simp only[aA,aD]at hv;obtain⟨rfl,rfl⟩:=hv;exact .push s_ λq w B=>by simp only[opA,j,Z,w]
 ·rename_i t len q7 j;rw[j]at hf;split at hv<;>try(cases hv;done)
  rename_i l J;simp only[J,aA,aD]at hf;obtain⟨rfl,rfl⟩:=hf;refine⟨rfl,?_⟩;have q1:∀q:H,q.length=h.length->(∀id∈cY h dD (l.map (·.2)),q[id]?=h[id]?)->∃h2',opA C run cf s q o=some (r,h2')/\Both (cY h dD (l.map (·.2))) h h' q h2':=by
   intro q w B;have⟨e1,e2,fr,lc⟩:=EM w B;unfold cI at hv;split at hv<;>try(cases hv;done)
   rename_i X ht;split at hv<;>try(cases hv;done)
   rename_i sz I;split at hv<;>try(cases hv;done)
   rename_i G;split at hv<;>try(cases hv;done)
   rename_i es q8;split at hv<;>try(cases hv;done)
   rename_i hk;simp only[aA,aD]at hv;obtain⟨rfl,rfl⟩:=hv;refine⟨_,?_,fr,lc⟩;simp only[opA,j,J,cI,ht,I];rw[if_neg G,e2,q8];dsimp only;rw[if_pos hk,e1]
  refine⟨?_,λq w B=>let ⟨U,e,b⟩:=q1 q w B;⟨U,e,b.2⟩⟩;have⟨_,_,b⟩:=q1 h rfl (λ_ _=>rfl);exact b.1
 ·rename_i t x y j;rw[j]at hf;simp only[aA,aD]at hf;obtain⟨rfl,rfl⟩:=hf;refine⟨rfl,?_⟩;split at hv<;>try(cases hv;done)
  rename_i a b D N;unfold gN at hv;split at hv<;>try(cases hv;done)
  rename_i X l c ht;split at hv<;>try(cases hv;done)
  rename_i sz q9 z I O Z;split at hv<;>try(cases hv;done)
  rename_i G;split at hv
  ·rename_i J;simp only[aA,aD]at hv;obtain⟨rfl,rfl⟩:=hv;exact .push s_ λq w B=>by simp only[opA,j,D,N,gN,ht,I,O,Z];rw[if_neg G,if_pos J,w]
  rename_i J;simp only[aA,aD]at hv;obtain⟨rfl,rfl⟩:=hv;exact .push s_ λq w B=>by simp only[opA,j,D,N,gN,ht,I,O,Z];rw[if_neg G,if_neg J,w]
 ·rename_i t a x j;rw[j]at hf;split at hv<;>try(cases hv;done)
  rename_i p v hp D;split at hv<;>try(cases hv;done)
  rename_i U A;simp only[aA,aD]at hv;obtain⟨rfl,rfl⟩:=hv;have z5:=A;unfold cL at A;split at A<;>try(cases A;done)
  rename_i id q2;simp only[hp,aA,aD]at hf;obtain⟨rfl,rfl⟩:=hf;refine⟨rfl,?_⟩;split at A<;>try(cases A;done)
  rename_i cs n K hn;split at A<;>try(cases A;done)
  ·split at A<;>try(cases A;done)
   rename_i G;simp only[aA]at A;subst A;exact .set s_ s_ λq w B=>by simp only[opA,j,hp,D,cL,B id s_,K,hn];rw[if_pos G]
  rename_i nt na;split at A<;>try(cases A;done)
  rename_i G;simp only[aA]at A;subst A;refine .set s_ s_ λq w B=>?_
  have e:cL C.P q t (.ptr id q2) v=some (q.set id (.cells (cs.set q2 v) .live)):=by
   cases v with
   |tuple vs=>exact(nt _ rfl).elim
   |agg vs=>exact(na _ rfl).elim
   |_=>simp only[cL,B id s_,K,hn];rw[if_pos G]
  simp only[opA,j,hp,D,e]
 ·rename_i q3 M j;rw[j]at hf;split at hv<;>try(cases hv;done)
  rename_i x y t u E F;simp only[E]at hf;split at hv
  ·rename_i V;split at hv<;>try(cases hv;done)
   rename_i c d D N;simp only[D,N,aA,aD]at hf;obtain⟨rfl,rfl⟩:=hf;refine⟨rfl,?_⟩;have⟨f,k⟩:=F4 (T:=ce c++iV c++ce d) (λi hi=>hi) hv;exact⟨f,λq w B=>let ⟨U,e,l⟩:=k q w B;⟨U,by simp only[opA,j,E,F,D,N];rw[if_pos V];exact e,l⟩⟩
  rename_i V;split at hv
  rotate_left 1
  ·rename_i z';split at hv<;>try(cases hv;done)
   rename_i q4;split at hv<;>try(cases hv;done)
   rename_i c n D N;simp only[D,N,aA,aD]at hf;obtain⟨rfl,rfl⟩:=hf;refine⟨rfl,?_⟩;have e:∀q,opA C run cf s q o=ob C.P q t c n:=λq=>by simp only[opA,j,E,F,D,N];rw[if_neg V,if_neg z',if_pos q4]
   simp only[e];unfold ob at hv;split at hv<;>try(cases hv;done)
   rename_i X xs ht;split at hv<;>try(cases hv;done)
   rename_i sz q9 z I O Z;split at hv<;>try(cases hv;done)
   rename_i G;split at hv
   ·rename_i q';simp only[aA,aD]at hv;obtain⟨rfl,rfl⟩:=hv;exact .here λq w B=>by simp only[ob,ht,I,O,Z];rw[if_pos G,if_pos q']
   rename_i q';simp only[aA,aD]at hv;obtain⟨rfl,rfl⟩:=hv;exact .push s_ λq w B=>by simp only[ob,ht,I,O,Z];rw[if_pos G,if_neg q',w]
  rename_i q5;split at hv<;>try(cases hv;done)
  rename_i c d D N;simp only[D,N,aA,aD]at hf;obtain⟨rfl,rfl⟩:=hf;refine⟨rfl,?_⟩;have⟨f,k⟩:=qG (T:=ce c++iV c++ce d) (λi hi=>hi) hv;exact⟨f,λq w B=>let ⟨U,e,l⟩:=k q w B;⟨U,by simp only[opA,j,E,F,D,N];rw[if_neg V,if_pos q5];exact e,l⟩⟩
 ·rename_i f q3 M j;rw[j]at hf;split at hv<;>try(cases hv;done)
  ·rename_i g q0 l D w;simp only[D,w]at hf;split at hv
   ·rename_i Q;rw[if_pos Q]at hf;split at hf<;>try(cases hf;done)
    rename_i Y hq z0;simp only[aA,aD]at hf;obtain⟨rfl,rfl⟩:=hf;refine⟨rfl,?_⟩;have⟨f',k⟩:=BT (λe=>Y e) (λe=>hq e) (λe=>z0 e) hv;exact⟨f',λq q6 B=>let ⟨U,e,lc⟩:=k q q6 B;⟨U,by simp only[opA,j,D,w];rw[if_pos Q];exact e,lc⟩⟩
   rename_i Q;rw[if_neg Q]at hf;simp only[aA,aD]at hf;obtain⟨rfl,rfl⟩:=hf;refine⟨rfl,?_⟩;unfold K8 at hv;split at hv<;>try(cases hv;done)
   rename_i vs z1;split at hv<;>try(cases hv;done)
   rename_i v z2;split at hv<;>try(cases hv;done)
   rename_i a z3;simp only[aA,aD]at hv;obtain⟨rfl,rfl⟩:=hv;exact .here λq q6 B=>by simp only[opA,j,D,w];rw[if_neg Q];simp only[K8,z1,z2,z3]
  rename_i i l D w;simp only[D,w]at hf;cases hf
 ·rename_i t j;rw[j]at hf;simp only[aA,aD]at hf;obtain⟨rfl,rfl⟩:=hf;refine⟨rfl,?_⟩;simp only[aA,aD]at hv;obtain⟨rfl,rfl⟩:=hv;exact .push s_ λq w B=>by simp only[opA,j,w]
 ·rename_i t x i ok j;rw[j]at hf;split at hv<;>try(cases hv;done)
  rename_i a b B Q;simp only[B,aA,aD]at hf;obtain⟨rfl,rfl⟩:=hf;refine⟨rfl,?_⟩;split at hv<;>try(cases hv;done)
  rename_i v z4;simp only[aA,aD]at hv;obtain⟨rfl,rfl⟩:=hv;refine .here λq w S=>?_
  have:nX C.P q t a b ok=nX C.P h t a b ok:=by
   cases a with
   |mp id=>simp only[nX];rw[S id (by simp[KZ])]
   |_=>rfl
  simp only[opA,j,B,Q,this,z4]
 ·rename_i t m k x j;rw[j]at hf;split at hv<;>try(cases hv;done)
  rename_i a b c B Q G;simp only[B,aA,aD]at hf;obtain⟨rfl,rfl⟩:=hf;refine⟨rfl,?_⟩;split at hv<;>try(cases hv;done)
  rename_i U Y;simp only[aA,aD]at hv;obtain⟨rfl,rfl⟩:=hv;obtain⟨id,K,es,rfl,hF⟩:=tJ Y;exact .set K (by intro L st e;cases e) λq w S=>by simp only[opA,j,B,Q,G,hF q S]
 ·rename_i t m k x j;rw[j]at hf;split at hv<;>try(cases hv;done)
  rename_i a b c B Q G;simp only[B,aA,aD]at hf;obtain⟨rfl,rfl⟩:=hf;refine⟨rfl,?_⟩;split at hv<;>try(cases hv;done)
  rename_i U Y;simp only[aA,aD]at hv;obtain⟨rfl,rfl⟩:=hv;obtain⟨id,K,es,rfl,hF⟩:=tJ Y;exact .set K (by intro L st e;cases e) λq w S=>by simp only[opA,j,B,Q,G,hF q S]
 ·rename_i j;rw[j]at hf;cases hf
 ·rename_i j;rw[j]at hf;cases hf
 cases hv
theorem Ij{C:Cfg}{run:FuncId->LA->H->Option (AV × H)}{cf:FuncId}{s:PT}{o:Oper}{h h':H}{r:AV}{T:List Nat}{wr:Bool}(hf:ll C s h o=some (T,wr)) (hv:opV C run cf s h o=some (r,h')) :
  (wr=false->h'=h)/\Same T h (λh=>opV C run cf s h o) r h':=by
 cases b:dW o with
 |true=>
  have e:∀h,opV C run cf s h o=opA C run cf s h o:=λh=>by unfold opV;rw[if_pos b]
  rw[e]at hv;have⟨g,i⟩:=QZ b hf hv;exact⟨λe=>(by rw[g]at e;cases e),by simp only[e];exact i⟩
 |false=>
  have c:=tB hv b;subst c;refine⟨λ_=>rfl,.here λj p k=>?_⟩;unfold opV at hv ⊢;rw[b]at hv ⊢;simp only[aw,if_false]at hv ⊢;split at hv
  ·rename_i t x l;unfold ll at hf;rw[b,l]at hf;simp only[aw,if_false]at hf;split at hv<;>try(cases hv;done)
   rename_i a m;split at hv<;>try(cases hv;done)
   rename_i v d;simp only[aA,aD]at hv;have:aW C.P j t a=aW C.P h' t a:=by
    cases a with
    |ptr id n=>simp only[m,aA,aD]at hf;obtain⟨rfl,rfl⟩:=hf;simp only[aW];rw[k id s_]
    |_=>rfl
   rw[this,d];dsimp only;rw[hv.1]
  split at hv<;>try(cases hv;done)
  rename_i v f;simp only[aA,aD]at hv;rw[<-hv.1]
theorem kR{ops:Array Oper}(h:sO ops=true){j:Nat}{y:Oper}(hy:ops[j]?=some y) :
  (∀e∈y.after,Region.binds .any e=true->e.on<j)/\∀i x,i<j->ops[i]?=some x->kA ops x y=true->((Region.before ops).getD j 0).testBit i=true:=by
 simp only[sO,bI,eL]at h;have a:j<ops.size:=(aO.1 hy).1;have:=h j a;rw[hy]at this;simp only[am,bI,eL]at this;refine⟨λe b c=>?_,λi x d f g=>?_⟩
 ·have:=this.1;simp only[wU,eY,bo,cN,decide_eq_true_eq]at this;rcases this e b with h|h
  ·rw[c]at h;cases h
  exact h
 have:=this.2 i d;rw[f]at this;simp only[bo,cN]at this;rcases this with h|h
 ·rw[g]at h;cases h
 exact h
theorem Ir{a b:List Nat}{id:Nat}(ha:id∈a) (hb:id∈b):rW a b=true:=by unfold rW;rw[nV];exact⟨id,ha,by simpa using hb⟩
theorem K0{ops:Array Oper}{F:List FP}(h:ri ops F=true){i j:Nat}{x y:FP}(hx:F[i]?=some x) (hy:F[j]?=some y) (hi:i<j) (hm:rW x.2 y.1=true\/rW y.2 x.1=true):((Region.before ops).getD j 0).testBit i=true:=by
 simp only[ri,bI,eL]at h;have:=h j (aB.1 hy).1;rw[hy]at this;simp only[bI,eL]at this;have:=this i hi;rw[hx]at this;simp only[bo,cN,gb]at this;rcases this with⟨a,b⟩|h
 ·rcases hm with e|e
  ·rw[e]at a;cases a
  rw[e]at b;cases b
 exact h
def upd(h:H) (l:List Nat) (g:H):H:=h.mapIdx λid x=>if l.contains id then(g[id]?).getD x else x
def iY(ws:Nat->List Nat) (hs:Nat->H) (W:Nat->Bool):Nat->H
 |0=>hs 0
 |m+1=>if W m then upd (iY ws hs W m) (ws m) (hs (m+1))else iY ws hs W m
theorem vq(h:H) (l:List Nat) (g:H) (id:Nat):(upd h l g)[id]?=(h[id]?).map λx=>if l.contains id then(g[id]?).getD x else x:=by unfold upd;rw[List.getElem?_mapIdx]
theorem P1{h:H}{l:List Nat}{g:H}{id:Nat}(hid:id∉l):(upd h l g)[id]?=h[id]?:=by
 have a:l.contains id=false:=by simpa using hid
 rw[vq];simp only[a,aw,if_false];simp
theorem Tn{h:H}{l:List Nat}{g:H}{id:Nat}(hid:id∈l):(upd h l g)[id]?=(h[id]?).map λx=>(g[id]?).getD x:=by
 have a:l.contains id=true:=by simpa using hid
 rw[vq];simp only[a,if_true]
theorem I7{p:Nat}{T:List Nat}{h h':H}{id:Nat}(hp:id≠p) (hT:id∉T):(fin p T h h')[id]?=h[id]?:=by
 have a:T.contains id=false:=by simpa using hT
 rw[nY];simp only[a,aw,if_false,if_neg hp];simp
theorem GN(h:H) (l:List Nat) (g:H):(upd h l g).length=h.length:=by simp[upd]
section
variable {ws:Nat->List Nat}{hs:Nat->H}
theorem yE(W:Nat->Bool):∀m,(iY ws hs W m).length=(hs 0).length:=by
 intro m;induction m with
 |zero=>rfl
 |succ m a=>simp only[iY];split<;>simp[GN,a]
theorem zy{W:Nat->Bool}{id m:Nat}(h:id∉ws m):(iY ws hs W (m+1))[id]?=(iY ws hs W m)[id]?:=by
 simp only[iY];split
 ·exact P1 h
 rfl
theorem vJ{W W':Nat->Bool}{id:Nat}:∀m,(∀i,i<m->id∈ws i->W i=W' i)->(iY ws hs W m)[id]?=(iY ws hs W' m)[id]?:=by
 intro m;induction m with
 |zero=>intro _;rfl
 |succ m b=>
  intro h;have:=b (λi c=>h i o_);by_cases a:id∈ws m
  ·simp only[iY];rw[h m o_ a];split
   ·rw[vq,vq,this]
   exact this
  rw[zy a,zy a];exact this
theorem Bo{W:Nat->Bool}{id m:Nat}:∀M,m<=M->(∀i,m<=i->i<M->id∈ws i->W i=false)->(iY ws hs W M)[id]?=(iY ws hs W m)[id]?:=by
 intro M;induction M with
 |zero=>intro h _;have:m=0:=o_;subst this;rfl
 |succ M c=>
  intro h a;by_cases e:m=M+1
  ·subst e;rfl
  rw[<-c o_ (λi d f=>a i d o_)];by_cases b:id∈ws M
  ·simp only[iY];rw[a M o_ o_ b];rfl
  exact zy b
end
structure MTrace (C:Cfg) (run:FuncId->LA->H->Option (AV × H)) (cf:FuncId) (ops:Array Oper) (c base:Nat) (s0:PT) (h0:H) (val:Nat->AV) (hs:Nat->H) (fp:Nat->FP):Prop where
 zero:hs 0=h0
 step:∀i o,i<c->ops[i]?=some o->gg C run cf ops base i o (sel ops val s0 (λ_=>true) i) (hs i)=some (val i,hs (i+1),fp i)
theorem KY{C:Cfg}{run:FuncId->LA->H->Option (AV × H)}{cf:FuncId}{ops:Array Oper}{c base:Nat}(hc:c<=ops.size){s0:PT}{h0:H}{s':PT}{h':H}{F:List FP}(hh:lM C run cf ops base c s0 h0=some (s',h',F)) :
  ∃val hs fp,MTrace C run cf ops c base s0 h0 val hs fp/\sel ops val s0 (λ_=>true) c=s'/\hs c=h'/\F.length=c/\∀i,i<c->F[i]?=some (fp i):=by
 have p:∀n,n<=ops.size->∀g j d,lM C run cf ops base n s0 h0=some (g,j,d)->∃(val:Nat->AV) (hs:Nat->H) (fp:Nat->FP),hs 0=h0/\(∀i o,i<n->ops[i]?=some o->gg C run cf ops base i o (sel ops val s0 (λ_=>true) i) (hs i)=some (val i,hs (i+1),fp i)) /\
   sel ops val s0 (λ_=>true) n=g/\hs n=j/\d.length=n/\∀i,i<n->d[i]?=some (fp i):=by
  intro n;induction n with
  |zero=>intro _ g j d h;simp only[lM,aA,aD]at h;obtain⟨rfl,rfl,rfl⟩:=h;exact⟨λ_=>AV.undef,λ_=>h0,λ_=>([],[]),rfl,λi o q=>o_,rfl,rfl,rfl,λi q=>o_⟩
  |succ n D=>
   intro N g j d h;simp only[lM]at h;split at h<;>try(cases h;done)
   rename_i E z G o A B;split at h<;>try(cases h;done)
   rename_i v I f r;simp only[aA,aD]at h;obtain⟨rfl,rfl,rfl⟩:=h;have⟨val,hs,fp,s,t,k,u,l,w⟩:=D o_ E z G A
   let val':Nat->AV:=λi=>if i=n then v else val i
   let hs':Nat->H:=λi=>if i=n+1 then I else hs i
   let fp':Nat->FP:=λi=>if i=n then f else fp i
   have a:∀m,m<=n->sel ops val' s0 (λ_=>true) m=sel ops val s0 (λ_=>true) m:=by
    intro m;induction m with
    |zero=>intro _;rfl
    |succ m x=>intro A;simp only[sel,if_true];rw[x o_];simp only[val'];rw[if_neg o_]
   refine⟨val',hs',fp',by simp only[hs'];rw[if_neg o_];exact s,λi J q b=>?_,?_,by simp[hs'],by simp[l],λi q=>?_⟩
   ·by_cases e:i=n
    ·subst e;rw[B]at b;simp only[aA]at b;subst b;rw[a i (aR _),k];have y:hs' i=z:=by simp only[hs'];rw[if_neg o_];exact u
     rw[y,r];simp[val',hs',fp']
    rw[a i o_];have y:hs' i=hs i:=by simp only[hs'];rw[if_neg o_]
    have K:hs' (i+1)=hs (i+1):=by simp only[hs'];rw[if_neg o_]
    have L:val' i=val i:=by simp only[val'];rw[if_neg e]
    have M:fp' i=fp i:=by simp only[fp'];rw[if_neg e]
    rw[y,K,L,M];exact t i J o_ b
   ·simp only[sel,if_true,B,cn];rw[a n (aR _),k];simp[val']
   by_cases e:i=n
   ·subst e;rw[aj o_,l];simp[fp']
   rw[aP o_];simp only[fp'];rw[if_neg e];exact w i o_
 have⟨val,hs,fp,s,t,k,u,l,w⟩:=p c hc s' h' F hh;exact⟨val,hs,fp,⟨s,t⟩,k,u,l,w⟩
theorem rU{C:Cfg}{run:FuncId->LA->H->Option (AV × H)}{cf:FuncId}{ops:Array Oper}{base i:Nat}{o:Oper}{s:PT}{h h2:H}{v:AV}{f:FP}(hh:gg C run cf ops base i o s h=some (v,h2,f)) :
  (Region.wanted o (dw ops s)=true/\∃T wr r h',ll C s h o=some (T,wr)/\opV C run cf s h o=some (r,h')/\h'.length<=h.length+1/\base+i∉T/\h[base+i]?=some .void/\v=r.mv h.length (base+i) /\
   h2=(if wr then fin (base+i) T h h' else h)/\f=(if wr then((base+i)::T,(base+i)::T)else(T,[]))) \/
  (Region.wanted o (dw ops s)=false/\v=AV.undef/\h2=h/\f=([],[])):=by
 unfold gg at hh;split at hh
 ·rename_i a;split at hh<;>try(cases hh;done)
  rename_i T wr r h' c d;split at hh<;>try(cases hh;done)
  rename_i b;simp only[aA,aD]at hh;obtain⟨rfl,rfl,rfl⟩:=hh;refine .inl ⟨a,T,wr,r,h',c,d,b.1,by simpa using b.2.1,?_,rfl,rfl,rfl⟩;have:=b.2.2;unfold dZ at this;split at this
  ·assumption
  cases this
 rename_i a;simp only[aA,aD]at hh;obtain⟨rfl,rfl,rfl⟩:=hh;exact .inr ⟨by simpa using a,rfl,rfl,rfl⟩
section
variable {C:Cfg}{run:FuncId->LA->H->Option (AV × H)}{cf:FuncId}{ops:Array Oper}{c base:Nat}{s0:PT}{h0:H}{val:Nat->AV}{hs:Nat->H}{fp:Nat->FP}
theorem MTrace.len(hcs:c<=ops.size) (tr:MTrace C run cf ops c base s0 h0 val hs fp):∀i,i<=c->(hs i).length=(hs 0).length:=by
 intro i;induction i with
 |zero=>intro _;rfl
 |succ i a=>
  intro d;have b:ops[i]?=some (ops[i]' o_):=aT _;rcases rU (tr.step i _ o_ b)with⟨_,T,f,r,g,_,_,_,_,_,_,e,_⟩|⟨_,_,e,_⟩
  ·rw[e];split
   ·rw[Aa];exact a o_
   exact a o_
  rw[e];exact a o_
theorem MTrace.out(tr:MTrace C run cf ops c base s0 h0 val hs fp){i:Nat}{o:Oper}(hi:i<c) (ho:ops[i]?=some o){id:Nat}(hid:id∉(fp i).2):(hs (i+1))[id]?=(hs i)[id]?:=by
 rcases rU (tr.step i o hi ho)with⟨_,T,a,r,d,_,_,_,_,_,_,e,b⟩|⟨_,_,e,_⟩
 ·rw[e];cases a with
  |false=>rfl
  |true=>rw[b]at hid;simp only[if_true,ao,not_or]at hid;simp only[if_true];exact I7 hid.1 hid.2
 rw[e]
theorem MTrace.all(hcs:c<=ops.size) (tr:MTrace C run cf ops c base s0 h0 val hs fp):∀i,i<=c->iY (λi=>(fp i).2) hs (λ_=>true) i=hs i:=by
 intro i;induction i with
 |zero=>intro _;rfl
 |succ i d=>
  intro e;have f:ops[i]?=some (ops[i]' o_):=aT _;simp only[iY,if_true];rw[d o_];apply cU;intro id;rw[vq];by_cases a:id∈(fp i).2
  ·have b:(fp i).2.contains id=true:=by simpa using a
   simp only[b,if_true];have h:=tr.len hcs i o_;have j:=tr.len hcs (i+1) e;by_cases g:id<(hs i).length
   ·rw[aC g,aC (l:=hs (i+1)) o_];rfl
   rw[cK o_,cK o_];rfl
  have b:(fp i).2.contains id=false:=by simpa using a
  simp only[b,aw,if_false];rw[tr.out o_ f a];simp
end
section
variable {B:Nat}{A0:Nat->Nat->Prop}{n:Nat}{ro:Option Nat}{nd:Nat}
theorem Ub [DFlag] {C:Cfg}(hP:Good C.P){run:FuncId->LA->H->Option (AV × H)}(hrun:Ok C.P run){cf:FuncId}{ops:Array Oper}{Q:Exit->Act->World->Prop}(hok:sO ops=true)
  (hd:∀(i:Nat) o,ops[i]?=some o->∀t,o.dst=some t->t<n){σ0:List (Option Nat)}{h0 h00:H}{w0:World}{s0:PT}{a0:Act}{c base:Nat}(hc:c<=ops.size)
  (htl:∀j,c<=j->j<ops.size->∀i,i<c->((Region.before ops).getD j 0).testBit i=true){val:Nat->AV}{hs:Nat->H}{fp:Nat->FP}(tr:MTrace C run cf ops c base s0 h00 val hs fp)
  (hfp:∀i j,i<j->j<c->(rW (fp i).2 (fp j).1=true\/rW (fp j).2 (fp i).1=true)->((Region.before ops).getD j 0).testBit i=true)
  (hQ:∀(fuel:Nat) (L:Array Bool) (a:Act) (w:World) (σ:List (Option Nat)),L.size=ops.size->(∀i,i<c->L.getD i false=true)->(∀i,c<=i->L.getD i false=false)->HRel C.P B A0 σ (hs c) w ->
   Step C.P B A0 σ0 h0 w0 σ (hs c) w->SRel C.P (Alw C.P B A0 σ (hs c)) σ (hs c) w n (sel ops val s0 (λ_=>true) c) a.tmps->a.defers=a0.defers->unl (λi=>L.getD i false) ops.size<=fuel->wpAnyIn (FR ro) nd C.P .any ops Q fuel L a w) :
  ∀(fuel:Nat) (L:Array Bool) (a:Act) (w:World) (σ:List (Option Nat)),L.size=ops.size->(∀i,c<=i->L.getD i false=false)->HRel C.P B A0 σ (iY (λi=>(fp i).2) hs (λi=>L.getD i false) c) w ->
   Step C.P B A0 σ0 h0 w0 σ (iY (λi=>(fp i).2) hs (λi=>L.getD i false) c) w ->
   SRel C.P (Alw C.P B A0 σ (iY (λi=>(fp i).2) hs (λi=>L.getD i false) c)) σ (iY (λi=>(fp i).2) hs (λi=>L.getD i false) c) w n (sel ops val s0 (λi=>L.getD i false) c) a.tmps->a.defers=a0.defers ->
   (∀j o,ops[j]?=some o->L.getD j false=true->∀e∈o.after,Region.binds .any e=true->L.getD e.on false=true) ->
   unl (λi=>L.getD i false) ops.size<=fuel->wpAnyIn (FR ro) nd C.P .any ops Q fuel L a w:=by
 have N:∀(fuel:Nat) (L:Array Bool) (a:Act) (w:World) (σ:List (Option Nat)),L.size=ops.size->(∀i,c<=i->L.getD i false=false)->HRel C.P B A0 σ (iY (λi=>(fp i).2) hs (λi=>L.getD i false) c) w ->
   Step C.P B A0 σ0 h0 w0 σ (iY (λi=>(fp i).2) hs (λi=>L.getD i false) c) w ->
   SRel C.P (Alw C.P B A0 σ (iY (λi=>(fp i).2) hs (λi=>L.getD i false) c)) σ (iY (λi=>(fp i).2) hs (λi=>L.getD i false) c) w n (sel ops val s0 (λi=>L.getD i false) c) a.tmps->a.defers=a0.defers ->
   unl (λi=>L.getD i false) ops.size<=fuel->(∀i,i<c->L.getD i false=true)->wpAnyIn (FR ro) nd C.P .any ops Q fuel L a w:=by
  intro fuel L a w σ hL K hr p g y hu k;have e1:iY (λi=>(fp i).2) hs (λi=>L.getD i false) c=hs c:=by rw[<-tr.all hc c (aR _)];apply cU;intro id;exact vJ c λi f _=>k i f
  rw[e1]at hr p g;refine hQ fuel L a w σ hL k K hr p ⟨g.1,λt=>?_⟩ y hu;have:=g.2 t;rwa[ko (W':=λ_=>true) c (λi f _=>k i f)]at this
 intro fuel;induction fuel with
 |zero=>intro L a w σ hL K hr p g y O hu;have k:=vr (W:=λi=>L.getD i false) ops.size o_;exact N 0 L a w σ hL K hr p g y hu λi f=>k i o_
 |succ fuel ih=>
  intro L a w σ hL K hr p g y O hu;by_cases k:∀i,i<c->L.getD i false=true
  ·exact N _ L a w σ hL K hr p g y hu k
  refine⟨λy'=>?_,λj hj=>?_⟩
  ·refine absurd (λi f=>?_) k;have z4:i<ops.size:=o_;clear f;induction i using Nat.strongRecOn with
   |ind i y0=>
    cases G:L.getD i false with
    |true=>rfl
    |false=>
     exfalso;have M:ops[i]?=some (ops[i]'z4):=aT z4;have:i∈Region.ready .any ops L:=mem_ready.2 ⟨by rw[kY o_];exact G,_,M,λe he hb=>by have y1:=(kR hok M).1 e he hb;exact y0 e.on y1 o_⟩
     rw[y']at this;cases this
  have⟨y2,o,M,S⟩:=mem_ready.1 hj;have q7:j<ops.size:=(aO.1 M).1;have q0:L.getD j false=false:=by rw[<-kY o_];exact y2
  have q8:∀i,((Region.before ops).getD j 0).testBit i=true->L.getD i false=true:=jF (W:=λi=>L.getD i false) O j o M S;have z5:j<c:=by
   rcases iv j c with h|h
   ·exact h
   exact absurd (λi f=>q8 i (htl j h q7 i f)) k
  have q3:∀i x,ops[i]?=some x->((Region.before ops).getD i 0).testBit j=true->L.getD i false=false:=λi x s hb=>by
   cases G:L.getD i false with
   |false=>rfl
   |true=>have:=jF (W:=λi=>L.getD i false) O i x s (O i x s G) j hb;rw[q0]at this;cases this
  have q9:∀i x,i<j->ops[i]?=some x->kA ops x o=true->L.getD i false=true:=λi x f s hc=>q8 i ((kR hok M).2 i x f s hc)
  have q4:∀i x,j<i->ops[i]?=some x->kA ops o x=true->L.getD i false=false:=λi x f s hc=>q3 i x s ((kR hok s).2 j o f M hc)
  have q1:∀i,i<j->(∃id,id∈(fp i).2/\id∈(fp j).1)->L.getD i false=true:=λi f ⟨id,h1,h2⟩=>q8 i (hfp i j f z5 (.inl (Ir h1 h2)))
  have U:∀i,j<i->i<c->(∃id,id∈(fp i).2/\id∈(fp j).1)->L.getD i false=false:=λi f y3 ⟨id,h1,h2⟩=>q3 i _ (aT (show i<ops.size by omega)) (hfp j i f y3 (.inr (Ir h1 h2)))
  have E:∀(i:Nat) t,(ops[i]?).bind (·.dst)=some t->∃x,ops[i]?=some x/\x.dst=some t:=λi t h=>by
   cases s:ops[i]? with
   |none=>rw[s]at h;cases h
   |some x=>rw[s]at h;exact⟨x,rfl,h⟩
  have V:∀t∈reads ops o,(sel ops val s0 (λi=>L.getD i false) c).get t=(sel ops val s0 (λ_=>true) j).get t:=λt ht=>by
   rw[qg (m:=j) c o_ (λi h1 h2 z=>?_)]
   ·refine ko j (λi f z=>?_);have⟨x,s,X⟩:=E i t z;exact q9 i x f s (by simp[kA,X,ht])
   have⟨x,s,X⟩:=E i t z;by_cases e:i=j
   ·subst e;exact q0
   exact q4 i x o_ s (by simp[kA,X,ht])
  have q:∀id∈(fp j).1,(iY (λi=>(fp i).2) hs (λi=>L.getD i false) c)[id]?=(hs j)[id]?:=λid b=>by
   rw[Bo (m:=j) c o_ (λi h1 h2 f=>?_),<-tr.all hc j o_]
   ·exact vJ j λi f G=>q1 i f ⟨id,G,b⟩
   by_cases e:i=j
   ·subst e;exact q0
   exact U i o_ h2 ⟨id,f,b⟩
  have z':=vm V;have Y:∀x∈o.op.operands.toList,ev (sel ops val s0 (λi=>L.getD i false) c) x=ev (sel ops val s0 (λ_=>true) j) x:=λx s=>Ae (λt ht=>V t (by simp[reads,ht])) s
  have F:∀i,i≠j->(L.setIfInBounds j true).getD i false=L.getD i false:=λi f=>getD_set_ne false (λe=>f e.symm)
  have z0:(L.setIfInBounds j true).getD j false=true:=by simp[hL,q7]
  have after:∀ {A:Nat->Nat->Prop}{σ':List (Option Nat)}{h':H}{w':World}{v:Value},SRel C.P A σ' h' w' n (sel ops val s0 (λi=>L.getD i false) c) a.tmps->Rel C.P A σ' h' w' (val j) v ->
    SRel C.P A σ' h' w' n (sel ops val s0 (λi=>(L.setIfInBounds j true).getD i false) c) (a.put o.dst v).tmps:=by
   intro A σ' h' w' v g hv;have hp:=SRel.put (d:=o.dst) g (hd j o M) hv;refine⟨hp.1,λt=>?_⟩;have:=hp.2 t;rw[lL]at this;by_cases e:o.dst=some t
   ·rw[if_pos e]at this;have e2:(sel ops val s0 (λi=>(L.setIfInBounds j true).getD i false) c).get t=val j:=by
     rw[qg (m:=j+1) c o_ (λi h1 h2 z=>?_)]
     ·simp only[sel];rw[if_pos z0,lL,if_pos (by rw[M];exact e)]
     have⟨x,s,X⟩:=E i t z;rw[F i o_];exact q4 i x o_ s (by simp[kA,e,X])
    rw[e2];exact this
   rw[if_neg e]at this;rw[ko (W':=λi=>L.getD i false) c (λi f z=>?_)]
   ·exact this
   by_cases ei:i=j
   ·subst ei;rw[M]at z;exact absurd z e
   exact F i ei
  have Z:∀j' o',ops[j']?=some o'->(L.setIfInBounds j true).getD j' false=true->∀e∈o'.after,Region.binds .any e=true->(L.setIfInBounds j true).getD e.on false=true:=λj' o' q2 G e he hb=>by
   refine getD_set_true ?_;by_cases ej:j'=j
   ·subst ej;rw[M]at q2;simp only[aA]at q2;subst q2;exact S e he hb
   rw[F j' ej]at G;exact O j' o' q2 G e he hb
  have z1:unl (λi=>(L.setIfInBounds j true).getD i false) ops.size<=fuel:=by have:=(zC (W:=λi=>L.getD i false) (W':=λi=>(L.setIfInBounds j true).getD i false) q0 z0 F ops.size).1 q7;omega
  have z2:(L.setIfInBounds j true).size=ops.size:=by simpa using hL
  have q':∀i,c<=i->(L.setIfInBounds j true).getD i false=false:=λi f=>by rw[F i o_];exact K i f
  have keep:∀id,id∉(fp j).2->(iY (λi=>(fp i).2) hs (λi=>(L.setIfInBounds j true).getD i false) c)[id]?=(iY (λi=>(fp i).2) hs (λi=>L.getD i false) c)[id]?:=λid b=>
   vJ c λi f G=>by
    by_cases ei:i=j
    ·subst ei;exact absurd G b
    exact F i ei
  have turn:∀id,id∈(fp j).2->id∈(fp j).1->(iY (λi=>(fp i).2) hs (λi=>(L.setIfInBounds j true).getD i false) c)[id]?=(hs (j+1))[id]?:=λid b I=>by
   rw[Bo (m:=j+1) c o_ (λi h1 h2 f=>by rw[F i o_];exact U i o_ h2 ⟨id,f,I⟩)];simp only[iY];rw[if_pos z0,Tn b];have e1:=yE (ws:=λi=>(fp i).2) (hs:=hs) (λi=>(L.setIfInBounds j true).getD i false) j;have e2:=tr.len hc (j+1) o_;by_cases hl:id<(hs 0).length
   ·rw[aC (l:=iY _ _ _ _) (by rw[e1];exact hl),aC (l:=hs (j+1)) (by rw[e2];exact hl)];rfl
   rw[cK (l:=iY _ _ _ _) (by rw[e1];omega),cK (l:=hs (j+1)) (by rw[e2];omega)];rfl
  have z6:=yE (ws:=λi=>(fp i).2) (hs:=hs) (λi=>L.getD i false) c;have z3:=tr.len hc j o_;unfold wpOpIn;simp only[M];rw[vD g,z'];rcases rU (tr.step j o z5 M)with⟨G,T,wr,r,h',hf,hv,x',y4,y5,J,z7,D⟩|⟨G,J,z7,D⟩
  ·rw[if_pos G];rw[<-HK Y]at hf;rw[<-B0 Y]at hv;have⟨l1,l2,l3⟩:=Ij hf hv;have y6:∀id∈T,id∈(fp j).1:=λid b=>by rw[D];cases wr<;>simp[b]
   have q5:∀id∈T,(iY (λi=>(fp i).2) hs (λi=>L.getD i false) c)[id]?=(hs j)[id]?:=λid b=>q id (y6 id b)
   have⟨h3,e3,lc⟩:=l3 (iY (λi=>(fp i).2) hs (λi=>L.getD i false) c) o_ q5;dsimp only at e3;have y7:=N4 hf q5;have⟨m1,m2,m3⟩:=Ij y7 e3;refine xN hP rfl hrun hr g e3 λu w1 z8=>?_
   cases wr with
   |false=>
    have e4:=m1 rfl;subst e4;have⟨σ1,k1,k2,k3⟩:=z8;have e5:(fp j).2=[]:=by rw[D];rfl
    have e6:iY (λi=>(fp i).2) hs (λi=>(L.setIfInBounds j true).getD i false) c=iY (λi=>(fp i).2) hs (λi=>L.getD i false) c:=by apply cU;intro id;exact keep id (by rw[e5];simp)
    have e7:val j=r:=by rw[J];exact C7 (.inl (cK o_)) _ k3
    refine ih (L.setIfInBounds j true) (a.put o.dst u) w1 σ1 z2 q' (by rw[e6];exact k1) (by rw[e6];exact p.trans k2) (by rw[e6];exact after (g.step k2) (by rw[e7];exact k3)) (by rw[iJ];exact y) Z z1
   |true=>
    have y8:base+j∈(fp j).1/\base+j∈(fp j).2:=by rw[D];simp
    have z9:(iY (λi=>(fp i).2) hs (λi=>L.getD i false) c)[base+j]?=some .void:=by rw[q _ y8.1];exact y5
    have x0:h3.length=h'.length:=lc.len;have pl:=Ih hr z9 y4 o_ m2 z8;have e6:iY (λi=>(fp i).2) hs (λi=>(L.setIfInBounds j true).getD i false) c=fin (base+j) T (iY (λi=>(fp i).2) hs (λi=>L.getD i false) c) h3:=by
     apply cU;intro id;by_cases b:id∈(fp j).2
     ·have I:id∈(fp j).1:=by rw[D]at b ⊢;simpa using b
      rw[turn id b I,z7];simp only[if_true];rw[nY,nY,q id I];have e8:(iY (λi=>(fp i).2) hs (λi=>L.getD i false) c).length=(hs j).length:=o_;rw[e8,lc.new _ (aR _)];by_cases e9:id=base+j
      ·simp only[e9,if_true]
      have hT:id∈T:=by
       rw[D]at b;simp only[if_true,ao]at b;rcases b with h|h
       ·exact absurd h e9
       exact h
      simp only[if_neg e9];rw[lc.same id hT]
     rw[keep id b];have q6:id≠base+j/\id∉T:=by rw[D]at b;simpa[not_or]using b
     rw[I7 q6.1 q6.2]
    rw[<-e6]at pl;have⟨σ1,k1,k2,k3⟩:=pl;have e7:val j=r.mv (iY (λi=>(fp i).2) hs (λi=>L.getD i false) c).length (base+j):=by rw[J,z3,z6]
    exact ih (L.setIfInBounds j true) (a.put o.dst u) w1 σ1 z2 q' k1 (p.trans k2) (after (g.step k2) (by rw[e7];exact k3)) (by rw[iJ];exact y) Z z1
  rw[if_neg (by rw[G];simp)];have y9:=after (v:=undef) g (by rw[J];exact uB);refine⟨λ_ _=>trivial,?_⟩;have e6:iY (λi=>(fp i).2) hs (λi=>(L.setIfInBounds j true).getD i false) c=iY (λi=>(fp i).2) hs (λi=>L.getD i false) c:=by apply cU;intro id;exact keep id (by rw[D];simp)
  exact ih (L.setIfInBounds j true) (a.put o.dst undef) w σ z2 q' (by rw[e6];exact hr) (by rw[e6];exact p) (by rw[e6];exact y9) (by rw[iJ];exact y) Z z1
theorem QT [DFlag] {C:Cfg}(hP:Good C.P){run:FuncId->LA->H->Option (AV × H)}(hrun:Ok C.P run){cf:FuncId}{ops:Array Oper}{Q:Exit->Act->World->Prop}(hok:sO ops=true)
  (hd:∀(i:Nat) o,ops[i]?=some o->∀t,o.dst=some t->t<n){c:Nat}(hpu:∀j o,c<j->ops[j]?=some o->dW o=false/\jS o=false/\o.guard=none){s1:PT}{h:H}{val:Nat->AV}
  (tr:∀i o,c<i->ops[i]?=some o->opN C.P (sel ops val s1 (λi=>decide (c<i)) i) o=some (val i)){σ0:List (Option Nat)}{h0:H}{w0:World}{a0:Act}
  (hQ:∀σ' w' a',HRel C.P B A0 σ' h w'->Step C.P B A0 σ0 h0 w0 σ' h w'->SRel C.P (Alw C.P B A0 σ' h) σ' h w' n (sel ops val s1 (λi=>decide (c<i)) ops.size) a'.tmps->a'.defers=a0.defers->Q .normal a' w') :
  ∀(fuel:Nat) (L:Array Bool) (a:Act) (w:World) (σ:List (Option Nat)),L.size=ops.size->(∀i,i<ops.size->i<=c->L.getD i false=true)->HRel C.P B A0 σ h w->Step C.P B A0 σ0 h0 w0 σ h w ->
   SRel C.P (Alw C.P B A0 σ h) σ h w n (sel ops val s1 (λi=>decide (c<i)&&L.getD i false) ops.size) a.tmps->a.defers=a0.defers ->
   (∀j o,ops[j]?=some o->L.getD j false=true->∀e∈o.after,Region.binds .any e=true->L.getD e.on false=true) ->
   unl (λi=>L.getD i false) ops.size<=fuel->wpAnyIn (FR ro) nd C.P .any ops Q fuel L a w:=by
 have s:∀(L:Array Bool) (a:Act) (w:World) (σ:List (Option Nat)),HRel C.P B A0 σ h w->Step C.P B A0 σ0 h0 w0 σ h w ->
   SRel C.P (Alw C.P B A0 σ h) σ h w n (sel ops val s1 (λi=>decide (c<i)&&L.getD i false) ops.size) a.tmps->a.defers=a0.defers->(∀i,i<ops.size->L.getD i false=true)->Q .normal a w:=by
  intro L a w σ Y q I r p;refine hQ σ w a Y q ⟨I.1,λt=>?_⟩ r;have:=I.2 t;rwa[ko (W':=λi=>decide (c<i)) ops.size (λi k _=>by rw[p i k];simp)]at this
 intro fuel;induction fuel with
 |zero=>
  intro L a w σ hL K Y q I r y hu;have p:=vr (W:=λi=>L.getD i false) ops.size o_;refine⟨?_,s L a w σ Y q I r p⟩;cases M:Region.ready .any ops L with
  |nil=>rfl
  |cons j js=>
   have hj:j∈Region.ready .any ops L:=by rw[M];simp
   have⟨h1,o,g,_⟩:=mem_ready.1 hj;have N:j<ops.size:=(aO.1 g).1;have h2:=p j N;rw[kY o_]at h1;rw[h1]at h2;cases h2
 |succ fuel ih=>
  intro L a w σ hL K Y q I r y hu;refine⟨λM=>?_,λj hj=>?_⟩
  ·refine s L a w σ Y q I r ?_;intro i;induction i using Nat.strongRecOn with
   |ind i q3=>
    intro k;cases Z:L.getD i false with
    |true=>rfl
    |false=>
     exfalso;have g:ops[i]?=some (ops[i]'k):=aT k;have:i∈Region.ready .any ops L:=mem_ready.2 ⟨by rw[kY o_];exact Z,_,g,λe he hb=>by have N:=(kR hok g).1 e he hb;exact q3 e.on N o_⟩
     rw[M]at this;cases this
  have⟨q4,o,g,z⟩:=mem_ready.1 hj;have O:j<ops.size:=(aO.1 g).1;have D:L.getD j false=false:=by rw[<-kY o_];exact q4
  have S:c<j:=by
   rcases iv c j with h|h
   ·exact h
   rw[K j O h]at D;cases D
  have⟨p1,p2,p3⟩:=hpu j o S g;have q5:∀i,((Region.before ops).getD j 0).testBit i=true->L.getD i false=true:=jF (W:=λi=>L.getD i false) y j o g z;have q':∀i x,ops[i]?=some x->((Region.before ops).getD i 0).testBit j=true->L.getD i false=false:=λi x b hb=>by
   cases Z:L.getD i false with
   |false=>rfl
   |true=>have:=jF (W:=λi=>L.getD i false) y i x b (y i x b Z) j hb;rw[D]at this;cases this
  have U:∀i x,i<j->ops[i]?=some x->kA ops x o=true->L.getD i false=true:=λi x k b hc=>q5 i ((kR hok g).2 i x k b hc)
  have J:∀i x,j<i->ops[i]?=some x->kA ops o x=true->L.getD i false=false:=λi x k b hc=>q' i x b ((kR hok b).2 j o k g hc)
  have l:∀(i:Nat) t,(ops[i]?).bind (·.dst)=some t->∃x,ops[i]?=some x/\x.dst=some t:=λi t h=>by
   cases b:ops[i]? with
   |none=>rw[b]at h;cases h
   |some x=>rw[b]at h;exact⟨x,rfl,h⟩
  have V:∀t∈reads ops o,(sel ops val s1 (λi=>decide (c<i)&&L.getD i false) ops.size).get t=(sel ops val s1 (λi=>decide (c<i)) j).get t:=λt ht=>by
   rw[qg (m:=j) ops.size o_ (λi h1 h2 f=>?_)]
   ·refine ko j (λi k f=>?_);have⟨x,b,E⟩:=l i t f;rw[U i x k b (by simp[kA,E,ht])];simp
   have⟨x,b,E⟩:=l i t f;by_cases e:i=j
   ·subst e;simp[D]
   rw[J i x o_ b (by simp[kA,E,ht])];simp
  have X:∀x∈o.op.operands.toList,ev (sel ops val s1 (λi=>decide (c<i)&&L.getD i false) ops.size) x=ev (sel ops val s1 (λi=>decide (c<i)) j) x:=λx b=>Ae (λt ht=>V t (by simp[reads,ht]))  b
  have F:∀i,i≠j->(L.setIfInBounds j true).getD i false=L.getD i false:=λi k=>getD_set_ne false (λe=>k e.symm)
  have q0:(L.setIfInBounds j true).getD j false=true:=by simp[hL,O]
  have after:∀ {A:Nat->Nat->Prop}{σ':List (Option Nat)}{h':H}{w':World}{v:Value},SRel C.P A σ' h' w' n (sel ops val s1 (λi=>decide (c<i)&&L.getD i false) ops.size) a.tmps->Rel C.P A σ' h' w' (val j) v ->
    SRel C.P A σ' h' w' n (sel ops val s1 (λi=>decide (c<i)&&(L.setIfInBounds j true).getD i false) ops.size) (a.put o.dst v).tmps:=by
   intro A σ' h' w' v q6 hv;have hp:=SRel.put (d:=o.dst) q6 (hd j o g) hv;refine⟨hp.1,λt=>?_⟩;have:=hp.2 t;rw[lL]at this;by_cases e:o.dst=some t
   ·rw[if_pos e]at this;have e2:(sel ops val s1 (λi=>decide (c<i)&&(L.setIfInBounds j true).getD i false) ops.size).get t=val j:=by
     rw[qg (m:=j+1) ops.size o_ (λi h1 h2 f=>?_)]
     ·simp only[sel];rw[if_pos (by simp[q0,S]),lL,if_pos (by rw[g];exact e)]
     have⟨x,b,E⟩:=l i t f;rw[F i o_,J i x o_ b (by simp[kA,e,E])];simp
    rw[e2];exact this
   rw[if_neg e]at this;rw[ko (W':=λi=>decide (c<i)&&L.getD i false) ops.size (λi k f=>?_)]
   ·exact this
   by_cases ei:i=j
   ·subst ei;rw[g]at f;exact absurd f e
   rw[F i ei]
  have q1:∀j' o',ops[j']?=some o'->(L.setIfInBounds j true).getD j' false=true->∀e∈o'.after,Region.binds .any e=true->(L.setIfInBounds j true).getD e.on false=true:=λj' o' G Z e he hb=>by
   refine getD_set_true ?_;by_cases ej:j'=j
   ·subst ej;rw[g]at G;simp only[aA]at G;subst G;exact z e he hb
   rw[F j' ej]at Z;exact y j' o' G Z e he hb
  have q7:unl (λi=>(L.setIfInBounds j true).getD i false) ops.size<=fuel:=by have:=(zC (W:=λi=>L.getD i false) (W':=λi=>(L.setIfInBounds j true).getD i false) D q0 F ops.size).1 O;omega
  have q2:∀i,i<ops.size->i<=c->(L.setIfInBounds j true).getD i false=true:=λi k q8=>by rw[F i o_];exact K i k q8
  have hv:opV C run cf (sel ops val s1 (λi=>decide (c<i)&&L.getD i false) ops.size) h o=some (val j,h):=by
   unfold opV;rw[if_neg (by rw[p1];simp)];have:=tr j o S g;rw[<-xO X]at this;split
   ·rename_i t x q9;exfalso;simp[jS,q9]at p2
   rw[this]
  unfold wpOpIn;simp only[g];rw[if_pos (by simp[Region.wanted,p3])];refine xN hP rfl hrun Y I hv λu w1 ⟨σ1,k1,k2,k3⟩=>?_
  exact ih (L.setIfInBounds j true) (a.put o.dst u) w1 σ1 (by simpa using hL) q2 k1 (q.trans k2) (after (I.step k2) k3) (by rw[iJ];exact r) q1 q7
theorem Gr{C:Cfg}{run:FuncId->LA->H->Option (AV × H)}{cf:FuncId}{ops:Array Oper}{h:H}:∀(l:List Oper) (m:Nat),(∀j,l[j]?=ops[m+j]?)->(∀o∈l,dW o=false/\jS o=false/\o.guard=none)->∀(s s':PT) (h':H),dz C run cf ops l s h=some (s',h') ->
  h'=h/\∃val:Nat->AV,(∀i o,m<=i->i<m+l.length->ops[i]?=some o->opN C.P (sel ops val s (λi=>decide (m<=i)) i) o=some (val i))/\sel ops val s (λi=>decide (m<=i)) (m+l.length)=s':=by
 intro l;induction l with
 |nil=>
  intro m _ _ s s' h' c;simp only[dz,aA,aD]at c;obtain⟨rfl,rfl⟩:=c;refine⟨rfl,λ_=>AV.undef,λi o w n=>by simp at n;omega,?_⟩;have:∀k,k<=m->sel ops (λ_=>AV.undef) s (λi=>decide (m<=i)) k=s:=by
   intro k;induction k with
   |zero=>intro _;rfl
   |succ k a=>intro p;simp only[sel];rw[if_neg (by simp;omega),a o_]
  exact this m (aR _)
 |cons o l a=>
  intro m y z s s' h' c;have A:ops[m]?=some o:=by have:=y 0;simpa using this.symm
  have⟨B,E,F⟩:=z o s_;simp only[dz]at c;rw[if_pos (by simp[Region.wanted,F])]at c;split at c<;>try(cases c;done)
  rename_i v w d;have G:=tB d B;subst G;have q:opN C.P s o=some v:=by
   unfold opV at d;rw[if_neg (by rw[B];simp)]at d;split at d
   ·rename_i t x r;exfalso;simp[jS,r]at E
   split at d<;>try(cases d;done)
   rename_i N u;simp only[aA,aD]at d;rw[u,d.1]
  have⟨I,val,J,K⟩:=a (m+1) (λj=>by have:=y (j+1);rw[show m+1+j=m+(j+1) by omega];simpa using this) (λx L=>z x (by simp[L])) (jB s o.dst v) s' h' c
  let val':Nat->AV:=λi=>if i=m then v else val i
  have f:∀k,k<=m->sel ops val' s (λi=>decide (m<=i)) k=s:=by
   intro k;induction k with
   |zero=>intro _;rfl
   |succ k a=>intro p;simp only[sel];rw[if_neg (by simp;omega),a o_]
  have g:∀k,k<=m+1->sel ops val (jB s o.dst v) (λi=>decide (m+1<=i)) k=jB s o.dst v:=by
   intro k;induction k with
   |zero=>intro _;rfl
   |succ k a=>intro p;simp only[sel];rw[if_neg (by simp;omega),a o_]
  have D:∀k,m+1<=k->sel ops val' s (λi=>decide (m<=i)) k=sel ops val (jB s o.dst v) (λi=>decide (m+1<=i)) k:=by
   intro k;induction k with
   |zero=>intro h;omega
   |succ k a=>
    intro p;by_cases e:k=m
    ·subst e;rw[g (k+1) (aR _)];simp only[sel];rw[if_pos s_,f k (aR _),A];simp[val']
    simp only[sel];rw[a o_,if_pos (by simp;omega),if_pos (by simp;omega)];simp only[val'];rw[if_neg e]
  refine⟨I,val',λi M w n b=>?_,?_⟩
  ·by_cases e:i=m
   ·subst e;rw[A]at b;simp only[aA]at b;subst b;rw[f i (aR _),q];simp[val']
   rw[D i o_];have:=J i M o_ (by simp at n;omega) b;rw[this];simp[val',e]
  rw[aG,show m+(l.length+1)=m+1+l.length by omega,D _ o_];exact K
theorem sg{ops:Array Oper}{c:Nat}(h:xE ops c=true):c<ops.size/\(∀j,c<=j->j<ops.size->∀i,i<c->((Region.before ops).getD j 0).testBit i=true)/\(∀j,c<j->j<ops.size->((Region.before ops).getD j 0).testBit c=true) /\
  (∀j o,c<=j->ops[j]?=some o->o.guard=none)/\∀j o,c<j->ops[j]?=some o->dW o=false/\jS o=false/\o.guard=none:=by
 simp only[xE,am,decide_eq_true_eq,bI,eL,bo]at h;have a:∀j o,c<=j->ops[j]?=some o->(∀i,i<c->((Region.before ops).getD j 0).testBit i=true)/\o.guard=none/\(j=c\/(((Region.before ops).getD j 0).testBit c=true/\dW o=false)/\jS o=false):=λj o b d=>by
  have l:j<ops.size:=(aO.1 d).1;rcases h.2 j l with k|⟨m,f⟩
  ·omega
  rw[d]at f;simp only[am,bo,decide_eq_true_eq,cN,Option.isNone_iff_eq_none]at f;exact⟨m,f.1,f.2⟩
 refine⟨h.1,λj b g=>(a j _ b (aT g)).1,λj b g=>?_,λj o b d=>(a j o b d).2.1,λj o b d=>?_⟩
 ·rcases(a j _ o_ (aT g)).2.2 with e|e
  ·omega
  exact e.1.1
 have:=a j o o_ d;rcases this.2.2 with e|e
 ·omega
 exact⟨e.1.2,e.2,this.2.1⟩
theorem QB [DFlag] {C:Cfg}(hP:Good C.P){run:FuncId->LA->H->Option (AV × H)}(hrun:Ok C.P run){cf:FuncId}{ops:Array Oper}{Q:Exit->Act->World->Prop}(hok:sO ops=true)
  (hd:∀(i:Nat) o,ops[i]?=some o->∀t,o.dst=some t->t<n){c:Nat}(htl:xE ops c=true){fuel:Nat}{L:Array Bool}{a:Act}{w:World}{σ:List (Option Nat)}{s:PT}{h:H}{s':PT}{h':H}
  (hL:L.size=ops.size) (h1:∀i,i<c->L.getD i false=true) (h2:∀i,c<=i->L.getD i false=false) (hr:HRel C.P B A0 σ h w) (hs:SRel C.P (Alw C.P B A0 σ h) σ h w n s a.tmps) (hh:dz C run cf ops (ops.toList.drop c) s h=some (s',h'))
  (hQ:∀σ' w' a',HRel C.P B A0 σ' h' w'->Step C.P B A0 σ h w σ' h' w'->SRel C.P (Alw C.P B A0 σ' h') σ' h' w' n s' a'.tmps->a'.defers=a.defers->Q .normal a' w')
  (hu:unl (λi=>L.getD i false) ops.size<=fuel):wpAnyIn (FR ro) nd C.P .any ops Q fuel L a w:=by
 have⟨l,t2,t3,Z,t5⟩:=sg htl;have q:ops[c]?=some (ops[c]'l):=aT l;have r:ops.toList.drop c=ops[c]'l::ops.toList.drop (c+1):=by rw[aI (by simpa using l)];simp
 have d:∀f k,ops[f]?=some k->L.getD f false=true->∀e∈k.after,Region.binds .any e=true->L.getD e.on false=true:=λf k b D e z A=>by
  have q':=(kR hok b).1 e z A;have:f<c:=by
   rcases iv f c with h|h
   ·exact h
   rw[h2 f h]at D;cases D
  exact h1 e.on o_
 rw[r]at hh;simp only[dz]at hh;rw[if_pos (by simp[Region.wanted,Z c _ (aR _) q])]at hh;split at hh<;>try(cases hh;done)
 rename_i v h3 hv;have⟨e3,val,k2,k3⟩:=Gr (ops.toList.drop (c+1)) (c+1) (λj=>s_) (λo hm=>by have⟨j,K⟩:=fG.1 hm;rw[cE]at K;exact t5 (c+1+j) o o_ (by simpa using K)) _ _ _ hh
 subst e3;have E:c+1+(ops.toList.drop (c+1)).length=ops.size:=by simp;omega
 rw[E]at k3;cases fuel with
 |zero=>have:=vr (W:=λi=>L.getD i false) ops.size o_ c l;rw[h2 c (aR _)]at this;cases this
 |succ fuel=>
  refine⟨λM=>?_,λj K=>?_⟩
  ·exfalso;have:c∈Region.ready .any ops L:=mem_ready.2 ⟨by rw[kY o_];exact h2 c (aR _),_,q,λe z A=>h1 _ ((kR hok q).1 e z A)⟩;rw[M]at this;cases this
  have⟨N,k,b,g⟩:=mem_ready.1 K;have x:j<ops.size:=(aO.1 b).1;have y:L.getD j false=false:=by rw[<-kY o_];exact N
  have O:j=c:=by
   rcases iv j c with h|h
   ·rw[h1 j h]at y;cases y
   rcases iv c j with h'|h'
   ·have:=jF (W:=λi=>L.getD i false) d j k b g c (t3 j h' x);rw[h2 c (aR _)]at this;cases this
   omega
  subst O;rw[q]at b;simp only[aA]at b;subst b;have F:(L.setIfInBounds j true).getD j false=true:=by simp[hL,x]
  have p:∀i,i≠j->(L.setIfInBounds j true).getD i false=L.getD i false:=λi S=>getD_set_ne false (λe=>S e.symm)
  have U:unl (λi=>(L.setIfInBounds j true).getD i false) ops.size<=fuel:=by have:=(zC (W:=λi=>L.getD i false) (W':=λi=>(L.setIfInBounds j true).getD i false) y F p ops.size).1 x;omega
  have G:∀f k,ops[f]?=some k->(L.setIfInBounds j true).getD f false=true->∀e∈k.after,Region.binds .any e=true->(L.setIfInBounds j true).getD e.on false=true:=λf k b D e z A=>by
   refine getD_set_true ?_;by_cases ej:f=j
   ·subst ej;rw[q]at b;simp only[aA]at b;subst b;exact g e z A
   rw[p f ej]at D;exact d f k b D e z A
  unfold wpOpIn;simp only[q];rw[if_pos (by simp[Region.wanted,Z j _ (aR _) q])];refine xN hP rfl hrun hr hs hv λu w1 ⟨σ1,V,I,X⟩=>?_
  have Y:∀m,sel ops val (jB s (ops[j]'l).dst v) (λi=>decide (j<i)&&(L.setIfInBounds j true).getD i false) m=jB s (ops[j]'l).dst v:=by
   intro m;induction m with
   |zero=>rfl
   |succ m ih=>
    simp only[sel];rw[if_neg ?_,ih];by_cases e:j<m
    ·rw[p m o_,h2 m o_];simp
    simp[e]
  refine QT hP hrun (cf:=cf) hok hd t5 (s1:=jB s (ops[j]'l).dst v) (val:=val) (λi o S J=>k2 i o o_ (by rw[E];exact(aO.1 J).1) J)
   (σ0:=σ) (h0:=h) (w0:=w) (a0:=a) (λσ' w' a' q1 q2 q3 q4=>hQ σ' w' a' q1 q2 (by rw[<-k3];exact q3) q4) fuel _ (a.put (ops[j]'l).dst u) w1 σ1 (by simpa using hL)
   (λi S q0=>?_) V I (by rw[Y];exact(hs.step I).put (hd j _ q) X) (iJ _ _ _) G U
  by_cases e:i=j
  ·subst e;exact F
  rw[p i e];exact h1 i o_
theorem Wz [DFlag] {P:Program}{σ:List (Option Nat)}{h:H}{w:World}(hr:HRel P B A0 σ h w):∀m,HRel P B A0 (σ++List.replicate m none) (h++List.replicate m .void) w/\Step P B A0 σ h w (σ++List.replicate m none) (h++List.replicate m .void) w:=by
 intro m;induction m with
 |zero=>simpa using⟨hr,Step.refl _ _ _⟩
 |succ m d=>
  have⟨a,f⟩:=d;have c:∀b,(none:Option Nat)=some b->w.heap.size<=b:=λb g=>by cases g
  have i:=HRel.push a (.refl w) .void none c (λl j e=>by cases e) (λu n e=>by cases e) (λL j e=>by cases e) (λo e=>by cases e);have k:=Step.push a (.refl w) .void none c;rw[List.replicate_succ',List.replicate_succ',<-List.append_assoc,<-List.append_assoc];exact⟨i,f.trans k⟩
end
end Go.V
