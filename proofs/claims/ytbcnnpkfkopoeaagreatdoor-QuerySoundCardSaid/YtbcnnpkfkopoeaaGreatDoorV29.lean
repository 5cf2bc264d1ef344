/- A part of the proof. -/
import Derived.Test.YtbcnnpkfkopoeaaGreatDoorV15
set_option maxHeartbeats 1000000
namespace Go.V
open Go
theorem rz(i k:Nat):∀(l:LA) (j:Nat),(AV.mvs i k l)[j]?=(l[j]?).map (AV.mv i k):=by
 intro l;induction l with
 |nil=>intro j;simp[AV.mvs]
 |cons v l a=>intro j;cases j with
  |zero=>simp[AV.mvs]
  |succ j=>simp[AV.mvs,a]
theorem ry(i k:Nat):∀(l:LA),(AV.mvs i k l).length=l.length:=by
 intro l;induction l with
 |nil=>rfl
 |cons v l a=>simp[AV.mvs,a]
theorem tN{i k:Nat}:∀ {l:LA},(∀(j:Nat) a,l[j]?=some a->a.mv i k=a)->AV.mvs i k l=l:=by
 intro l h;apply dB;intro j;rw[rz];cases b:l[j]? with
 |none=>rfl
 |some a=>simp[h j a b]
theorem MT(i k:Nat) (a:AV):(a.mv i k).one=a.one:=by
 cases a with
 |isl b x=>cases x<;>simp[AV.mv,AV.one]
 |_=>simp[AV.mv,AV.one]
theorem yg(i k:Nat) (a:AV):au (a.mv i k)=au a:=by
 cases a with
 |isl b x=>cases x<;>simp[AV.mv,au]
 |_=>simp[AV.mv,au]
theorem IU{A:Nat->Nat->Prop}{w:World}{a:AV}{v:Value}(i k:Nat) (r:IRel A w a v):a.mv i k=a:=by
 induction r with
 |func d _ c=>rw[AV.mv,tN (λj a b=>c j a _ b (aX (i:=j) (by rw[d];exact(aB.1 b).1)))]
 |iface e _ c=>rw[AV.mv,c]
 |agg f d _ c=>rw[AV.mv,tN (λj a b=>c j a _ b (aX (i:=j) (by rw[d];exact(aB.1 b).1)))]
 |tuple d _ c=>rw[AV.mv,tN (λj a b=>c j a _ b (aX (i:=j) (by rw[d];exact(aB.1 b).1)))]
 |_=>simp[AV.mv]
theorem Cv{P:Program}{A:Nat->Nat->Prop}{σ:List (Option Nat)}{h:H}{w:World}{a:AV}{v:Value}{i:Nat}(hi:h[i]?=none\/h[i]?=some .void) (k:Nat) (r:Rel P A σ h w a v):a.mv i k=a:=by
 have ne:∀(j:Nat) x,h[j]?=some x->x≠.void->(if j=i then k else j)=j:=λj x b n=>by
  split
  ·rename_i e;subst e;rcases hi with e|e<;>rw[b]at e
   ·cases e
   simp only[aA]at e;exact absurd e n
  rfl
 induction r with
 |data l=>exact IU i k l
 |yield m d=>have⟨L,st,b⟩:=d;rw[AV.mv,ne _ _ b s_]
 |mp m d=>have⟨q,b⟩:=d;rw[AV.mv,ne _ _ b s_]
 |ptr m d=>have⟨o,st,b⟩:=d;rw[AV.mv,ne _ _ b s_]
 |msl m d=>have⟨o,st,b⟩:=d;rw[AV.mv,ne _ _ b s_]
 |full l=>simp[AV.mv]
 |tok l p=>have⟨u,s,b,_⟩:=p;rw[AV.mv,ne _ _ b s_]
 |func g _ f=>rw[AV.mv,tN (λj a c=>f j a _ c (aX (i:=j) (by rw[g];exact(aB.1 c).1)))]
 |iface t _ f=>rw[AV.mv,f]
 |agg y g _ f=>rw[AV.mv,tN (λj a c=>f j a _ c (aX (i:=j) (by rw[g];exact(aB.1 c).1)))]
 |tuple g _ f=>rw[AV.mv,tN (λj a c=>f j a _ c (aX (i:=j) (by rw[g];exact(aB.1 c).1)))]
structure Named (σ:List (Option Nat)) (h:H) (σ2:List (Option Nat)) (h2:H) (i k:Nat):Prop where
 to:∀(j:Nat) x,h[j]?=some x->x≠.void->σ2[if j=i then k else j]?=σ[j]?/\h2[if j=i then k else j]?=some (x.mv i k)
 back:∀(j:Nat) y,h2[j]?=some y->y≠.void->∃m x,h[m]?=some x/\x≠.void/\j=(if m=i then k else m)/\y=x.mv i k
 len:σ2.length=h2.length
theorem mv_void{i k:Nat}{x:VObj}:x.mv i k≠.void↔x≠.void:=by
 cases x with
 |cells a st=>cases st<;>simp[VObj.mv]
 |_=>simp[VObj.mv]
theorem Ee{i k:Nat}{x:VObj}{cs:LA}{st:OSt}(h:x.mv i k=.cells cs st):∃cs0,x=.cells cs0 st/\(st≠.dead->cs=AV.mvs i k cs0):=by
 cases x with
 |cells b a=>cases a<;>simp only[VObj.mv,VObj.cells.injEq]at h<;>obtain⟨rfl,rfl⟩:=h<;>exact⟨_,rfl,λe=>by first|rfl|exact absurd rfl e⟩
 |_=>simp[VObj.mv]at h
theorem MS{i k:Nat}{x:VObj}{u:Nat}{ty:TypeId}(h:x.mv i k=.tok u ty):x=.tok u ty:=by
 cases x with
 |cells b a=>cases a<;>simp[VObj.mv]at h
 |_=>simp[VObj.mv]at h ⊢<;>exact h
theorem Pa{i k:Nat}{x:VObj}{L:LoopV}{st:LSt}(h:x.mv i k=.loop L st):x=.loop L st:=by
 cases x with
 |cells b a=>cases a<;>simp[VObj.mv]at h
 |_=>simp[VObj.mv]at h ⊢<;>exact h
theorem Sr{i k:Nat}{x:VObj}{es:List (AV × AV)}(h:x.mv i k=.map es):∃es0,x=.map es0/\es=es0.map λe=>(e.1,e.2.mv i k):=by
 cases x with
 |cells b a=>cases a<;>simp[VObj.mv]at h
 |map c=>simp only[VObj.mv,VObj.map.injEq]at h;exact⟨_,rfl,h.symm⟩
 |_=>simp[VObj.mv]at h
theorem IV{i k:Nat}{x:VObj}:(x.mv i k).gone=x.gone:=by
 cases x with
 |cells b a=>cases a<;>rfl
 |_=>rfl
section
variable {P:Program}{B:Nat}{A0:Nat->Nat->Prop}{σ σ2:List (Option Nat)}{h h2:H}{w:World}{i k:Nat}
theorem Named.alw(nm:Named σ h σ2 h2 i k){b o:Nat}(ha:Alw P B A0 σ h b o):Alw P B A0 σ2 h2 b o:=by
 unfold Alw at *;split
 ·rename_i c;simpa[c]using ha
 rename_i c;rw[if_neg c]at ha;refine⟨λj n d f=>?_,λj u t d f=>?_⟩
 ·obtain⟨m,x,a,g,rfl,e⟩:=nm.back j _ d s_;obtain⟨l,rfl,_⟩:=Ee e.symm;exact ha.1 m l a (by rw[<-(nm.to m _ a g).1];exact f)
 obtain⟨m,x,a,g,rfl,e⟩:=nm.back j _ d s_;have:=MS e.symm;subst this;exact ha.2 m u t a (by rw[<-(nm.to m _ a g).1];exact f)
theorem Named.rel(nm:Named σ h σ2 h2 i k){a:AV}{v:Value}(r:Rel P (Alw P B A0 σ h) σ h w a v):Rel P (Alw P B A0 σ2 h2) σ2 h2 w (a.mv i k) v:=by
 have mono:∀ {a v},IRel (Alw P B A0 σ h) w a v->IRel (Alw P B A0 σ2 h2) w a v:=λn=>n.mono λb o x f y=>⟨nm.alw f,y⟩
 induction r with
 |data n=>rw[IU i k n];exact .data (mono n)
 |yield p q=>have⟨L,st,d⟩:=q;have⟨g,l⟩:=nm.to _ _ d s_;rw[AV.mv];exact .yield (g.trans p) ⟨L,st,l⟩
 |mp p q=>have⟨Z,d⟩:=q;have⟨g,l⟩:=nm.to _ _ d s_;rw[AV.mv];exact .mp (g.trans p) ⟨_,l⟩
 |ptr p q=>have⟨J,st,d⟩:=q;have⟨g,l⟩:=nm.to _ _ d s_;rw[AV.mv];exact .ptr (g.trans p) (by cases st<;>exact⟨_,_,l⟩)
 |msl p q m y K z M=>have⟨J,st,d⟩:=q;have⟨g,l⟩:=nm.to _ _ d s_;rw[AV.mv];exact .msl (g.trans p) (by cases st<;>exact⟨_,_,l⟩) m y K z M
 |full n=>rw[AV.mv];exact .full (mono n);all_goals simp
 |tok n N=>
  have⟨u,O,d,E,Q⟩:=N;have⟨g,l⟩:=nm.to _ _ d s_;rw[AV.mv];refine .tok (mono n) ⟨u,O,l,E,λe=>?_⟩;rcases Q e with⟨F,G,S⟩|⟨b,I,U,V,F,G⟩
  ·exact .inl ⟨F,g.trans G,S⟩
  exact .inr ⟨b,I,U,V,g.trans F,G⟩
 |func A _ s=>
  rw[AV.mv];refine .func (by rw[ry];exact A) λj a v f D=>?_
  rw[rz]at f;obtain⟨t,m,rfl⟩:=cS.1 f;exact s j t v m D
 |iface X _ s=>rw[AV.mv];exact .iface (by rw[yg];exact X) s
 |agg Y A _ s=>
  rw[AV.mv];refine .agg (λc y=>?_) (by rw[ry];exact A) λj a v f D=>?_
  ·obtain⟨j,d,rfl⟩:=bt y;have:=aF d;rw[rz]at this;have⟨t,m,e⟩:=cS.1 this;rw[<-e,MT];exact Y t (bQ m)
  rw[rz]at f;obtain⟨t,m,rfl⟩:=cS.1 f;exact s j t v m D
 |tuple A _ s=>
  rw[AV.mv];refine .tuple (by rw[ry];exact A) λj a v f D=>?_
  rw[rz]at f;obtain⟨t,m,rfl⟩:=cS.1 f;exact s j t v m D
theorem Named.hrel(nm:Named σ h σ2 h2 i k) (hr:HRel P B A0 σ h w) (hl:∀(j:Nat) L st,h[j]?=some (.loop L st)->st≠.over->∀t,(L.s.get t).mv i k=L.s.get t):HRel P B A0 σ2 h2 w:=by
 refine⟨hr.base,nm.len,λj cs st d n=>?_,λj u t d=>?_,λj L st d n=>?_,λj es d=>?_,λj1 j2 b x y h1 K Y Z d1 d2=>?_,hr.glob,hr.tab⟩
 ·obtain⟨m,x,a,f,rfl,e⟩:=nm.back j _ d s_;obtain⟨M,rfl,o⟩:=Ee e.symm;have o:=o n;subst o;have⟨b,vs,ty,p,r,z,A,E,k6⟩:=hr.cells m M st a n;refine⟨b,vs,ty,(nm.to m _ a f).1.trans p,r,z,by rw[ry];exact A,λc J=>?_,λq c v J N=>?_⟩
  ·obtain⟨q,hq,rfl⟩:=bt J;have:=aF hq;rw[rz]at this;have⟨O,F,e⟩:=cS.1 this;rw[<-e,MT];exact E O (bQ F)
  rw[rz]at J;obtain⟨O,F,rfl⟩:=cS.1 J;exact nm.rel (k6 q O v F N)
 ·obtain⟨m,x,a,f,rfl,e⟩:=nm.back j _ d s_;have:=MS e.symm;subst this;rw[(nm.to m _ a f).1];exact hr.tok m u t a
 ·obtain⟨m,x,a,f,rfl,e⟩:=nm.back j _ d s_;have:=Pa e.symm;subst this;have⟨l,fn,tm,D,p,r,z,A,E⟩:=hr.loop m L st a n;exact⟨l,fn,tm,D,(nm.to m _ a f).1.trans p,r,z,A,λt=>by rw[<-hl m L st a n t];exact nm.rel (E t)⟩
 ·obtain⟨m,x,a,f,rfl,e⟩:=nm.back j _ d s_;obtain⟨Q,rfl,rfl⟩:=Sr e.symm;have⟨b,S,g,p,r,z,A,E⟩:=hr.map m Q a;refine⟨b,S,g,(nm.to m _ a f).1.trans p,r,z,by simpa using A,λq e me he U=>?_⟩;rw[cK]at he;obtain⟨e0,F,rfl⟩:=cS.1 he;have⟨z1,z2,z3⟩:=E q e0 me F U;exact⟨z1,by rw[yg];exact z2,nm.rel z3⟩
 obtain⟨m1,x1,G,V,rfl,e1⟩:=nm.back j1 _ h1 (λe=>by subst e;cases d1);obtain⟨m2,x2,I,X,rfl,o⟩:=nm.back j2 _ K (λe=>by subst e;cases d2);rw[(nm.to m1 _ G V).1]at Y;rw[(nm.to m2 _ I X).1]at Z;rw[hr.uniq m1 m2 b x1 x2 G I Y Z (by rw[<-IV (i:=i) (k:=k),<-e1];exact d1) (by rw[<-IV (i:=i) (k:=k),<-o];exact d2)]
end
end Go.V
namespace Go.V
open Go
theorem oP(p:Nat) (T:List Nat) (h h':H) (id:Nat):(fin p T h h')[id]?=(h[id]?).map λx=>if id=p then(match h'[h.length]? with
  |some y=>y.mv h.length p
  |none=>x)
 else if T.contains id then(match h'[id]? with
  |some y=>y.mv h.length p
  |none=>x)
 else x:=by unfold fin;rw[List.getElem?_mapIdx];rfl
theorem Aj(p:Nat) (T:List Nat) (h h':H):(fin p T h h').length=h.length:=by simp[fin]
structure Fr (T:List Nat) (h h':H):Prop where
 ge:h.length<=h'.length
 fr:∀id,id<h.length->id∉T->h'[id]?=h[id]?
 loop:∀(j:Nat) L st,h'[j]?=some (.loop L st)->h[j]?=some (.loop L st)
section
variable {P:Program}{B:Nat}{A0:Nat->Nat->Prop}{σ:List (Option Nat)}{h h':H}{w w':World}
theorem MU(hr:HRel P B A0 σ h w){j:Nat}{x:VObj}(hj:h[j]?=some x) (k:Nat):x.mv h.length k=x:=by
 have n:h[h.length]?=none\/h[h.length]?=some .void:=.inl (cI (aP _));cases x with
 |cells d st=>
  by_cases f:st=.dead
  ·subst f;rfl
  have⟨b,s,A,t,u,v,g,o,y⟩:=hr.cells j d st hj f;have:AV.mvs h.length k d=d:=tN λq a p=>by have c:q<s.size:=fW (aB.1 p).1 g;exact Cv n k (y q a _ p (aX c))
  cases st<;>first|exact absurd rfl f|simp only[VObj.mv,this]
 |map r=>
  have⟨b,i,l,t,u,v,g,o⟩:=hr.map j r hj;simp only[VObj.mv,VObj.map.injEq];apply dB;intro q;rw[cK];cases c:r[q]? with
  |none=>rfl
  |some e=>
   have m:q<i.size:=by rw[g];exact(aB.1 c).1
   have⟨_,_,z⟩:=o q e _ c (aX m);simp[Cv n k z]
 |_=>rfl
theorem IK [DFlag] (hr:HRel P B A0 σ h w){p:Nat}{T:List Nat}{r:AV}{v:Value}(hp:h[p]?=some .void) (hT:p∉T) (hlen:h'.length<=h.length+1) (hf:Fr T h h') (L:gC P B A0 σ h w r h' v w') :
  gC P B A0 σ h w (r.mv h.length p) (fin p T h h') v w':=by
 have⟨σ',V,f,X⟩:=L;have Y:=hf.ge;have N:p<h.length:=(aB.1 hp).1;have O:h'[p]?=some .void:=(hf.fr p N hT).trans hp;have Z:σ'.length=h'.length:=V.len;have c:∀j:Nat,j≠h.length->(if j=h.length then p else j)=j:=λj a=>if_neg a
 have J:Named σ' h' ((σ'.take h.length).set p ((σ'[h.length]?).getD none)) (fin p T h h') h.length p:=by
  refine⟨λj x a Q=>?_,λj y a K=>?_,by rw[pA,bU,Aj];omega⟩
  ·have S:=(aB.1 a).1;by_cases e:j=h.length
   ·subst e;rw[if_pos rfl];refine⟨?_,?_⟩
    ·rw[aD (by rw[bU];omega)];rw[aF (show h.length<σ'.length by omega)];rfl
    rw[oP,hp];simp[a]
   rw[c j e];have F:j≠p:=λe=>by subst e;rw[O]at a;simp only[aA]at a;exact Q a.symm
   have d:j<h.length:=o_;refine⟨by rw[aC (λk=>F k.symm),cX,if_pos d],?_⟩;rw[oP,aF d,cT,if_neg F];by_cases n:T.contains j=true
   ·rw[if_pos n,a]
   rw[if_neg n];have:=hf.fr j d (by simpa using n);rw[aF d]at this;rw[a]at this;simp only[aA]at this;rw[<-this,MU hr (by rw[aF d,<-this]) p]
  rw[oP]at a;have⟨x0,E,e⟩:=cS.1 a;have d:=(aB.1 E).1;by_cases G:j=p
  ·subst G;rw[if_pos rfl]at e;rw[hp]at E;simp only[aA]at E;subst E;split at e
   ·rename_i y' U;subst e;exact⟨h.length,y',U,mv_void.1 K,(if_pos rfl).symm,rfl⟩
   exact absurd e.symm K
  rw[if_neg G]at e;have g:j≠h.length:=o_;have I:h'[j]?=some (h'[j]' o_):=aF _;by_cases n:T.contains j=true
  ·rw[if_pos n,I]at e;dsimp only at e;subst e;exact⟨j,_,I,mv_void.1 K,(c j g).symm,rfl⟩
  rw[if_neg n]at e;subst e;have:=hf.fr j d (by simpa using n);rw[E]at this;exact⟨j,x0,this,K,(c j g).symm,(MU hr E p).symm⟩
 have hR:=J.hrel V (λj L st a hd t=>by have⟨l,fn,tm,D,i,m,z3,z4,z5⟩:=hr.loop j L st (hf.loop j L st a) hd;exact Cv (.inl (cI (aP _))) p (z5 t))
 have M:∀ {j:Nat}{x:VObj},j<h.length->h'[j]?=some x->x≠.void->((σ'.take h.length).set p ((σ'[h.length]?).getD none))[j]?=σ'[j]?/\(fin p T h h')[j]?=some (x.mv h.length p):=fun {j x} S a Q=>by have:=J.to j x a Q;rwa[c j o_]at this
 refine⟨_,hR,⟨f.below,f.shapes,λb o x ha hc=>let z:=f.kept b o x ha hc;⟨J.alw z.1,z.2⟩,λj cs st a=>?_,λj u ty a=>?_,λj L st a=>?_,λj es a=>?_,f.marks,f.drawn⟩,J.rel X⟩
 ·have⟨q,q',s,A⟩:=f.cells j cs st a;have⟨i,m⟩:=M (aB.1 a).1 A s_;exact⟨i.trans q,by cases s<;>exact⟨_,_,m⟩⟩
 ·have⟨u',q,A,e3⟩:=f.toks j u ty a;have⟨i,m⟩:=M (aB.1 a).1 q s_;exact⟨u',m,A,λe=>i.trans (e3 e)⟩
 ·have⟨q,s,A⟩:=f.loops j L st a;have⟨i,m⟩:=M (aB.1 a).1 A s_;exact⟨i.trans q,s,m⟩
 have⟨q,q0,A⟩:=f.maps j es a;have⟨i,m⟩:=M (aB.1 a).1 A s_;exact⟨i.trans q,_,m⟩
end
structure Loc2 (T:List Nat) (h h' h2 h2':H):Prop where
 len:h2'.length=h'.length
 new:∀id,h.length<=id->h2'[id]?=h'[id]?
 same:∀id∈T,h2'[id]?=h'[id]?
section
variable {T:List Nat}{h h1 h2 h21:H}
theorem Fr.refl(h:H):Fr T h h:=⟨aP _,λ_ _ _=>rfl,λ_ _ _ a=>a⟩
theorem Fr.push(f:Fr T h h1){x:VObj}(hx:∀L st,x≠.loop L st):Fr T h (h1++[x]):=by
 refine⟨by simp;have:=f.ge;omega,λid b c=>?_,λj L st a=>?_⟩
 ·rw[aH (by have:=f.ge;omega)];exact f.fr id b c
 rcases bh a with⟨_,a⟩|⟨_,e⟩
 ·exact f.loop j L st a
 exact absurd e.symm (hx L st)
theorem Fr.set(f:Fr T h h1){id:Nat}(hid:id∈T){x:VObj}(hx:∀L st,x≠.loop L st):Fr T h (h1.set id x):=by
 refine⟨by simpa using f.ge,λj c b=>?_,λj L st a=>?_⟩
 ·rw[aC (λe:id=j=>b (e▸hid))];exact f.fr j c b
 rcases ac a with⟨_,e,_⟩|⟨_,a⟩
 ·exact absurd e.symm (hx L st)
 exact f.loop j L st a
theorem Fr.freeze(f:Fr T h h1):∀(l:List Nat),(∀i∈l,i∈T)->Fr T h (Go.V.freeze h1 l):=by
 intro l;induction l generalizing h1 with
 |nil=>intro _;exact f
 |cons i l b=>
  intro a;simp only[Go.V.freeze];refine b ?_ (λj c=>a j (by simp[c]));unfold ub;split
  ·exact f.set (a i s_) s_
  exact f
theorem Loc2.refl(hl:h2.length=h.length) (ha:∀id∈T,h2[id]?=h[id]?):Loc2 T h h h2 h2:=
 ⟨hl,λid a=>by rw[cI o_,cI o_],ha⟩
theorem Loc2.push(l:Loc2 T h h1 h2 h21) (x:VObj):Loc2 T h (h1++[x]) h2 (h21++[x]):=by
 refine⟨by simp[l.len],λid a=>?_,λid a=>?_⟩
 ·rw[lD,lD,l.len,l.new id a]
 rw[lD,lD,l.len,l.same id a]
theorem Loc2.set(l:Loc2 T h h1 h2 h21) (id:Nat) (x:VObj):Loc2 T h (h1.set id x) h2 (h21.set id x):=by
 refine⟨by simp[l.len],λj a=>?_,λj a=>?_⟩
 ·rw[fz,fz,l.len,l.new j a]
 rw[fz,fz,l.len,l.same j a]
theorem Loc2.freeze(l:Loc2 T h h1 h2 h21):∀(l':List Nat),(∀i∈l',i∈T)->Loc2 T h (Go.V.freeze h1 l') h2 (Go.V.freeze h21 l'):=by
 intro l';induction l' generalizing h1 h21 with
 |nil=>intro _;exact l
 |cons i l' b=>
  intro a;simp only[Go.V.freeze];refine b ?_ (λj c=>a j (by simp[c]));unfold ub;rw[l.same i (a i s_)];split
  ·exact l.set _ _
  exact l
end
mutual
theorem Bj{h h2:H}:∀(n:Nat) (v:AV),(∀id∈ik h n v,h2[id]?=h[id]?)->ik h2 n v=ik h n v
 |0,_=>λ_=>by simp[ik]
 |n+1,v=>λhh=>by
  cases v with
  |ptr id off=>
   simp only[ik]at hh ⊢;rw[hh id s_];cases hx:h[id]? with
   |none=>rfl
   |some x=>cases x with
    |cells cs st=>simp only[hx]at hh;dsimp only;rw[jp n cs λi hi=>hh i (by simp[hi])]
    |_=>rfl
  |msl id off sz len cap=>
   simp only[ik]at hh ⊢;rw[hh id s_];cases hx:h[id]? with
   |none=>rfl
   |some x=>cases x with
    |cells cs st=>simp only[hx]at hh;dsimp only;rw[jp n cs λi hi=>hh i (by simp[hi])]
    |_=>rfl
  |func f c=>simp only[ik]at hh ⊢;exact jp n c hh
  |iface t u=>simp only[ik]at hh ⊢;exact Bj n u hh
  |agg cs=>simp only[ik]at hh ⊢;exact jp n cs hh
  |tuple vs=>simp only[ik]at hh ⊢;exact jp n vs hh
  |_=>simp[ik]
theorem jp{h h2:H}:∀(n:Nat) (l:LA),(∀id∈cP h n l,h2[id]?=h[id]?)->cP h2 n l=cP h n l
 |0,_=>λ_=>by simp[cP]
 |_+1,[]=>λ_=>by simp[cP]
 |n+1,v::r=>λhh=>by simp only[cP]at hh ⊢;rw[Bj n v λi hi=>hh i (by simp[hi]),jp n r λi hi=>hh i (by simp[hi])]
end
mutual
theorem D6{h k k2:H}:∀(n:Nat) (v:AV),(∀id∈ik h n v,k2[id]?=k[id]?/\∀cs,k[id]?=some (.cells cs .frozen)->∃st,h[id]?=some (.cells cs st))->eW k2 n v=eW k n v
 |0,_=>λ_=>by simp[eW]
 |n+1,v=>λhh=>by
  cases v with
  |ptr id off=>
   simp only[ik]at hh;simp only[eW];have⟨e1,e2⟩:=hh id s_;rw[e1];split
   ·rename_i cs a;have⟨st,b⟩:=e2 cs a;simp only[b]at hh;rw[nk n cs λi d=>hh i (by simp[d])]
   rfl
  |msl id off j len e=>
   simp only[ik]at hh;simp only[eW];have⟨e1,e2⟩:=hh id s_;rw[e1];split
   ·rename_i cs a;have⟨st,b⟩:=e2 cs a;simp only[b]at hh;rw[nk n cs λi d=>hh i (by simp[d])]
   rfl
  |func f c=>simp only[ik]at hh;simp only[eW];rw[nk n c hh]
  |iface t u=>simp only[ik]at hh;simp only[eW];rw[D6 n u hh]
  |agg cs=>simp only[ik]at hh;simp only[eW];rw[nk n cs hh]
  |tuple g=>simp only[ik]at hh;simp only[eW];rw[nk n g hh]
  |_=>simp[eW]
theorem nk{h k k2:H}:∀(n:Nat) (l:LA),(∀id∈cP h n l,k2[id]?=k[id]?/\∀cs,k[id]?=some (.cells cs .frozen)->∃st,h[id]?=some (.cells cs st))->fJ k2 n l=fJ k n l
 |0,_=>λ_=>by simp[fJ]
 |_+1,[]=>λ_=>by simp[fJ]
 |n+1,v::r=>λhh=>by simp only[cP]at hh;simp only[fJ];rw[D6 n v λi hi=>hh i (by simp[hi]),nk n r λi hi=>hh i (by simp[hi])]
end
theorem E4{h:H}{l:List Nat}{id:Nat}{cs:LA}(hx:(freeze h l)[id]?=some (.cells cs .frozen)):∃st,h[id]?=some (.cells cs st):=by
 rcases(iZ h l).at_ id with e|⟨b,c,a⟩
 ·exact⟨_,e.symm.trans hx⟩
 rw[hx]at a;simp only[aA,VObj.cells.injEq]at a;obtain⟨rfl,_⟩:=a;exact⟨_,c⟩
theorem EG{h h2:H}{l:LA}(hl:h2.length=h.length) (ha:∀id∈cP h cM l,h2[id]?=h[id]?) :
  cP h2 cM l=cP h cM l/\fJ (freeze h2 (cP h2 cM l)) cM l=fJ (freeze h (cP h cM l)) cM l/\Fr (cP h cM l) h (freeze h (cP h cM l))/\Loc2 (cP h cM l) h (freeze h (cP h cM l)) h2 (freeze h2 (cP h cM l)):=by
 have e:=jp cM l ha;have b:=(Loc2.refl (T:=cP h cM l) hl ha).freeze (cP h cM l) (λ_ h=>h);refine⟨e,?_,(Fr.refl h).freeze _ (λ_ h=>h),b⟩;rw[e];exact nk (h:=h) cM l λid a=>⟨b.same id a,λd c=>E4 c⟩
end Go.V
namespace Go.V
open Go
def Same(T:List Nat) (h:H) (F:H->Option (AV × H)) (r:AV) (h':H):Prop:=
 Fr T h h'/\∀h2,h2.length=h.length->(∀id∈T,h2[id]?=h[id]?)->∃h2',F h2=some (r,h2')/\Loc2 T h h' h2 h2'
theorem Same.here{T:List Nat}{h:H}{F:H->Option (AV × H)}{r:AV}(hF:∀h2,h2.length=h.length->(∀id∈T,h2[id]?=h[id]?)->F h2=some (r,h2)):Same T h F r h:=
 ⟨.refl h,λh2 a b=>⟨h2,hF h2 a b,.refl a b⟩⟩
theorem Same.push{T:List Nat}{h:H}{F:H->Option (AV × H)}{r:AV}{x:VObj}(hx:∀L st,x≠.loop L st) (hF:∀h2,h2.length=h.length->(∀id∈T,h2[id]?=h[id]?)->F h2=some (r,h2++[x])):Same T h F r (h++[x]):=
 ⟨(Fr.refl h).push hx,λh2 a b=>⟨_,hF h2 a b,(Loc2.refl a b).push x⟩⟩
theorem Same.set{T:List Nat}{h:H}{F:H->Option (AV × H)}{r:AV}{id:Nat}{x:VObj}(hid:id∈T) (hx:∀L st,x≠.loop L st) (hF:∀h2,h2.length=h.length->(∀id∈T,h2[id]?=h[id]?)->F h2=some (r,h2.set id x)):Same T h F r (h.set id x):=
 ⟨(Fr.refl h).set hid hx,λh2 a b=>⟨_,hF h2 a b,(Loc2.refl a b).set id x⟩⟩
theorem Same.setPush{T:List Nat}{h:H}{F:H->Option (AV × H)}{r:AV}{id:Nat}{x y:VObj}(hid:id∈T) (hx:∀L st,x≠.loop L st) (hy:∀L st,y≠.loop L st) (hF:∀h2,h2.length=h.length->(∀id∈T,h2[id]?=h[id]?)->F h2=some (r,h2.set id x++[y])):Same T h F r (h.set id x++[y]):=
 ⟨((Fr.refl h).set hid hx).push hy,λh2 a b=>⟨_,hF h2 a b,((Loc2.refl a b).set id x).push y⟩⟩
theorem HM{T:List Nat}{h h2:H}{x:AV}(ha:∀id∈T,h2[id]?=h[id]?) (hx:∀i∈cF x,i∈T):km h2 x=km h x:=by
 cases x with
 |msl id a c len b=>simp only[km];rw[ha id (hx id (by simp[cF]))]
 |_=>rfl
theorem Lg{T:List Nat}{h h2:H}{x:AV}{sz:Nat}(ha:∀id∈T,h2[id]?=h[id]?) (hx:∀i∈cF x,i∈T):jh h2 sz x=jh h sz x:=by
 cases x with
 |msl id a b len c=>simp only[jh];rw[ha id (hx id (by simp[cF]))]
 |_=>rfl
theorem qY{P:Program}{T:List Nat}{h h':H}{t:TypeId}{s x r:AV}(hs:∀i∈cF s++gZ s++cF x,i∈T) (hh:ed P h t s x=some (r,h')):Same T h (λh=>ed P h t s x) r h':=by
 have y:∀i∈cF x,i∈T:=λi z=>hs i (by simp[z])
 unfold ed at hh;split at hh<;>try(cases hh;done)
 rename_i e l;split at hh<;>try(cases hh;done)
 rename_i I A B f g o;split at hh<;>try(cases hh;done)
 rename_i m;have F:∀b:H,(∀id∈T,b[id]?=h[id]?)->km b x=some B:=λb d=>(HM d y).trans o
 split at hh<;>try(cases hh;done)
 ·rename_i J ext;split at hh<;>try(cases hh;done)
  rename_i k;split at hh<;>try(cases hh;done)
  rename_i a;split at hh
  ·split at hh
   ·simp only[aA,aE]at hh;obtain⟨rfl,rfl⟩:=hh;exact .here λb n d=>by simp only[ed,l,f,g,F b d];rw[if_neg m,if_neg k,if_neg a]
   rename_i D;simp only[aA,aE]at hh;obtain⟨rfl,rfl⟩:=hh;refine .push s_ λb n d=>?_
   simp only[ed,l,f,g,F b d];rw[if_neg m,if_neg k,if_neg a,n]
  ·rename_i p;split at hh<;>try(cases hh;done)
   rename_i w K q;split at hh<;>try(cases hh;done)
   rename_i u;simp only[aA,aE]at hh;obtain⟨rfl,rfl⟩:=hh;have j:p∈T:=hs p (by simp[gZ]);refine .set j s_ λb n d=>?_
   simp only[ed,l,f,g,F b d,d p j,q];rw[if_neg m,if_neg k,if_neg a,if_pos u]
  split at hh<;>try(cases hh;done)
  simp only[aA,aE]at hh;obtain⟨rfl,rfl⟩:=hh;exact .here λb n d=>by simp only[ed,l,f,g,F b d];rw[if_neg m,if_neg k,if_neg a]
 rename_i id E G len c;split at hh<;>try(cases hh;done)
 rename_i L v;split at hh<;>try(cases hh;done)
 rename_i u;simp only[aA,aE]at hh;obtain⟨rfl,rfl⟩:=hh;have j:id∈T:=hs id (by simp[cF]);refine .set j s_ λb n d=>?_
 simp only[ed,l,f,g,F b d,d id j,v];rw[if_neg m,if_pos u]
theorem qZ{P:Program}{T:List Nat}{h h':H}{t:TypeId}{s x r:AV}(hs:∀i∈cF s++gZ s++cF x,i∈T) (hh:de P h t s x=some (r,h')):Same T h (λh=>de P h t s x) r h':=by
 have v:∀i∈cF x,i∈T:=λi w=>hs i (by simp[w])
 unfold de at hh;split at hh<;>try(cases hh;done)
 rename_i e l;split at hh<;>try(cases hh;done)
 rename_i y z d f;split at hh<;>try(cases hh;done)
 rename_i o;split at hh<;>try(cases hh;done)
 rename_i A m p;have F:∀a:H,(∀id∈T,a[id]?=h[id]?)->jh a y x=some (A,m):=λa b=>(Lg b v).trans p
 split at hh<;>try(cases hh;done)
 ·rename_i E;split at hh
  ·rename_i g;simp only[aA,aE]at hh;obtain⟨rfl,rfl⟩:=hh;exact .here λa j b=>by simp only[de,l,d,f,F a b];rw[if_neg o,if_pos g]
  rename_i g;split at hh<;>try(cases hh;done)
  rename_i q;simp only[aA,aE]at hh;obtain⟨rfl,rfl⟩:=hh;refine .push s_ λa j b=>?_
  simp only[de,l,d,f,F a b];rw[if_neg o,if_neg g,if_pos q,j]
 rename_i id B D n c;split at hh
 ·rename_i g;simp only[aA,aE]at hh;obtain⟨rfl,rfl⟩:=hh;exact .here λa j b=>by simp only[de,l,d,f,F a b];rw[if_neg o,if_pos g]
 rename_i g;split at hh<;>try(cases hh;done)
 rename_i G u;split at hh<;>try(cases hh;done)
 rename_i q;simp only[aA,aE]at hh;obtain⟨rfl,rfl⟩:=hh;have k:id∈T:=hs id (by simp[cF]);refine .setPush k s_ s_ λa j b=>?_
 simp only[de,l,d,f,F a b,b id k,u];rw[if_neg o,if_neg g,if_pos q,j]
theorem Dn{P:Program}{T:List Nat}{h h2:H}{t:TypeId}{s x:AV}(hs:∀i∈cF s++gZ s++cF x,i∈T) (hl:h2.length=h.length) (ha:∀id∈T,h2[id]?=h[id]?) (hh:de P h t s x=none):de P h2 t s x=none:=by
 cases b:de P h2 t s x with
 |none=>rfl
 |some z=>have⟨r,c⟩:=z;have⟨d,e,_⟩:=(qZ hs b).2 h hl.symm (λid a=>(ha id a).symm);dsimp only at e;rw[hh]at e;cases e
theorem Dm{P:Program}{T:List Nat}{h h2:H}{t:TypeId}{s x:AV}(hs:∀i∈cF s++gZ s++cF x,i∈T) (hl:h2.length=h.length) (ha:∀id∈T,h2[id]?=h[id]?) (hh:ed P h t s x=none):ed P h2 t s x=none:=by
 cases b:ed P h2 t s x with
 |none=>rfl
 |some z=>have⟨r,c⟩:=z;have⟨d,e,_⟩:=(qY hs b).2 h hl.symm (λid a=>(ha id a).symm);dsimp only at e;rw[hh]at e;cases e
theorem Fi{P:Program}{T:List Nat}{wr:Bool}{h h':H}{t:TypeId}{s x r:AV}(hs:∀i∈cF s++gZ s++cF x,i∈T) (hh:bi P wr h t s x=some (r,h')):Same T h (λh=>bi P wr h t s x) r h':=by
 unfold bi at hh;split at hh
 ·rename_i d;have⟨f,k⟩:=qY hs hh;exact⟨f,λc a b=>let ⟨h3,e,l⟩:=k c a b;⟨h3,by simp only[bi];rw[if_pos d];exact e,l⟩⟩
 rename_i d;split at hh
 ·rename_i g;split at hh
  ·rename_i z j;simp only[aA]at hh;subst hh;have⟨f,k⟩:=qY hs j;exact⟨f,λc a b=>let ⟨h3,e,l⟩:=k c a b;⟨h3,by dsimp only at e;simp only[bi];rw[if_neg d,if_pos g,e],l⟩⟩
  rename_i m;have⟨f,k⟩:=qZ hs hh;exact⟨f,λc a b=>let ⟨h3,e,l⟩:=k c a b;⟨h3,by dsimp only at e;simp only[bi];rw[if_neg d,if_pos g,Dm hs a b m];exact e,l⟩⟩
 rename_i g;split at hh
 ·rename_i z j;simp only[aA]at hh;subst hh;have⟨f,k⟩:=qZ hs j;exact⟨f,λc a b=>let ⟨h3,e,l⟩:=k c a b;⟨h3,by dsimp only at e;simp only[bi];rw[if_neg d,if_neg g,e],l⟩⟩
 rename_i m;have⟨f,k⟩:=qY hs hh;exact⟨f,λc a b=>let ⟨h3,e,l⟩:=k c a b;⟨h3,by dsimp only at e;simp only[bi];rw[if_neg d,if_neg g,Dn hs a b m];exact e,l⟩⟩
def Both(T:List Nat) (h:H) (hz:H) (h2 hz2:H):Prop:=Fr T h hz/\Loc2 T h hz h2 hz2
theorem Both.push{T:List Nat}{h hz h2 hz2:H}(b:Both T h hz h2 hz2){x:VObj}(hx:∀L st,x≠.loop L st):Both T h (hz++[x]) h2 (hz2++[x]):=⟨b.1.push hx,b.2.push x⟩
theorem CP{P:Program}{m:Mode}{T:List Nat}{h1 h h' h2:H}{r r':AV}(b:Both T h h h2 h2) (hl:h2.length=h.length) (hh:nY P m h1 h r=some (r',h')):∃h2',nY P m h1 h2 r=some (r',h2')/\Both T h h' h2 h2':=by
 unfold nY at hh;split at hh
 ·split at hh<;>try(cases hh;done)
  rename_i e g d;split at hh<;>try(cases hh;done)
  rename_i a;split at hh<;>try(cases hh;done)
  ·simp only[aA,aE]at hh;obtain⟨rfl,rfl⟩:=hh;exact⟨_,by simp only[nY,d];rw[if_pos a,hl],b.push s_⟩
  split at hh
  ·simp only[aA,aE]at hh;obtain⟨rfl,rfl⟩:=hh;exact⟨_,by simp only[nY,d];rw[if_pos a],b⟩
  rename_i f;simp only[aA,aE]at hh;obtain⟨rfl,rfl⟩:=hh;refine⟨_,?_,b.push s_⟩;simp only[nY,d];rw[if_pos a,hl]
 ·simp only[aA,aE]at hh;obtain⟨rfl,rfl⟩:=hh;exact⟨_,rfl,b⟩
 ·split at hh<;>try(cases hh;done)
  rename_i i c;split at hh<;>try(cases hh;done)
  rename_i a;split at hh<;>try(cases hh;done)
  ·simp only[aA,aE]at hh;obtain⟨rfl,rfl⟩:=hh;exact⟨_,by simp only[nY,c];rw[if_pos a,hl],b.push s_⟩
  simp only[aA,aE]at hh;obtain⟨rfl,rfl⟩:=hh;exact⟨_,by simp only[nY,c];rw[if_pos a],b⟩
 cases hh
theorem A8{T:List Nat}{h1 h hz h' h2 hz2:H}{r r':AV}(b:Both T h hz h2 hz2) (hh:kP h1 hz r=some (r',h')):∃h2',kP h1 hz2 r=some (r',h2')/\Both T h h' h2 h2':=by
 unfold kP at hh;split at hh<;>try(cases hh;done)
 split at hh<;>try(cases hh;done)
 rename_i f a;split at hh<;>try(cases hh;done)
 rename_i c d;split at hh<;>try(cases hh;done)
 rename_i e;simp only[aA,aE]at hh;obtain⟨rfl,rfl⟩:=hh;exact⟨_,by simp only[kP,a,d];rw[if_pos e,b.2.len],b.push s_⟩
theorem yw{T:List Nat}{h1 h hz h2 hz2:H}{r:AV}(_b:Both T h hz h2 hz2) (hh:kP h1 hz r=none):kP h1 hz2 r=none:=by
 unfold kP at hh ⊢;split
 ·dsimp only at hh ⊢;split<;>first|rfl|skip
  rename_i e a;rw[a]at hh;dsimp only at hh;split<;>first|rfl|skip
  rename_i b c;rw[c]at hh;dsimp only at hh;split
  ·rename_i d;rw[if_pos d]at hh;cases hh
  rfl
 rfl
theorem A7{P:Program}{m:Mode}{T:List Nat}{h1 h h' h2:H}{r r':AV}(b:Both T h h h2 h2) (hl:h2.length=h.length) (hh:iw P m h1 h r=some (r',h')):∃h2',iw P m h1 h2 r=some (r',h2')/\Both T h h' h2 h2':=by
 unfold iw at hh;split at hh
 ·split at hh<;>try(cases hh;done)
  rename_i g i d;split at hh<;>try(cases hh;done)
  rename_i f;simp only[aA,aE]at hh;obtain⟨rfl,rfl⟩:=hh;have⟨a,e,l⟩:=CP b hl d;exact⟨a,by simp only[iw,e];rw[if_pos f],l⟩
 rename_i c;have⟨a,e,l⟩:=CP b hl hh;refine⟨a,?_,l⟩;unfold iw;split
 ·exact absurd rfl (c _ _)
 exact e
theorem Fw{P:Program}{m:Mode}{T:List Nat}{h1 h h2:H}{r:AV}(b':Both T h2 h2 h h) (hl:h2.length=h.length) (hh:iw P m h1 h r=none):iw P m h1 h2 r=none:=by
 cases a:iw P m h1 h2 r with
 |none=>rfl
 |some z=>have⟨b,c⟩:=z;have⟨_,e,_⟩:=A7 b' hl.symm a;rw[hh]at e;cases e
theorem yx{h1 hz:H}{r:AV}(hno:∀x y,r=.tuple [x,y]->False):iy .ownM h1 hz r=kP h1 hz r:=by
 unfold iy;split
 ·exact(hno _ _ rfl).elim
 ·rfl
 simp_all
theorem Hr{m:Mode}{T:List Nat}{h1 h hz h' h2 hz2:H}{r r':AV}(b:Both T h hz h2 hz2) (hh:iy m h1 hz r=some (r',h')):∃h2',iy m h1 hz2 r=some (r',h2')/\Both T h h' h2 h2':=by
 unfold iy at hh;split at hh<;>try(cases hh;done)
 ·split at hh<;>try(cases hh;done)
  rename_i d;split at hh<;>try(cases hh;done)
  rename_i g i f;simp only[aA,aE]at hh;obtain⟨rfl,rfl⟩:=hh;have⟨a,e,l⟩:=A8 b f;exact⟨a,by simp only[iy,e];rw[if_pos d],l⟩
 rename_i c;have⟨a,e,l⟩:=A8 b hh;exact⟨a,by rw[yx c];exact e,l⟩
theorem Fx{m:Mode}{T:List Nat}{h1 h hz h2 hz2:H}{r:AV}(b:Both T h hz h2 hz2) (hh:iy m h1 hz r=none):iy m h1 hz2 r=none:=by
 cases m with
 |ownM=>
  by_cases c:∃x y,r=.tuple [x,y]
  ·obtain⟨x,y,rfl⟩:=c;simp only[iy]at hh ⊢;split
   ·rename_i f;rw[if_pos f]at hh;cases d:kP h1 hz x with
    |none=>rw[yw b d]
    |some z=>rw[d]at hh;cases hh
   rfl
  have a:∀x y,r=.tuple [x,y]->False:=λx y e=>c ⟨x,y,e⟩
  rw[yx a]at hh ⊢;exact yw b hh
 |_=>simp only[iy]
theorem zj{T:List Nat}{h1 h hz h' h2 hz2:H}{r r':AV}(b0:Both T h h h2 h2) (b:Both T h hz h2 hz2) (hh:mM r h1 h hz=some (r',h')):∃h2',mM r h1 h2 hz2=some (r',h2')/\Both T h h' h2 h2':=by
 unfold mM at hh;split at hh<;>try(cases hh;done)
 rename_i a c;simp only[aA,aE]at hh;obtain⟨rfl,rfl⟩:=hh;refine⟨if Cc a=true then h2 else hz2,by simp only[mM,c],?_⟩;split
 ·exact b0
 exact b
theorem E6{P:Program}{m:Mode}{T:List Nat}{h1 h hz h' h2 hz2:H}{r r':AV}(b0:Both T h h h2 h2) (b0':Both T h2 h2 h h) (hl:h2.length=h.length) (b:Both T h hz h2 hz2) (hh:kS P m r h1 h hz=some (r',h')) :
  ∃h2',kS P m r h1 h2 hz2=some (r',h2')/\Both T h h' h2 h2':=by
 have a:∀m,(match iw P m h1 h r with
   |some z=>some z
   |none=>match iy m h1 hz r with
    |some z=>some z
    |none=>mM r h1 h hz)=some (r',h')->∃h2',(match iw P m h1 h2 r with
   |some z=>some z
   |none=>match iy m h1 hz2 r with
    |some z=>some z
    |none=>mM r h1 h2 hz2)=some (r',h2')/\Both T h h' h2 h2':=λm hh=>by
  cases c:iw P m h1 h r with
  |some z=>rw[c]at hh;simp only[aA]at hh;subst hh;have⟨f,e,l⟩:=A7 b0 hl c;exact⟨f,by rw[e],l⟩
  |none=>
   rw[c]at hh;rw[Fw b0' hl c];dsimp only at hh ⊢;cases d:iy m h1 hz r with
   |some z=>rw[d]at hh;simp only[aA]at hh;subst hh;have⟨f,e,l⟩:=Hr b d;exact⟨f,by rw[e],l⟩
   |none=>rw[d]at hh;rw[Fx b d];exact zj b0 b hh
 unfold kS at hh ⊢;split at hh
 ·exact a _ hh
 ·exact a _ hh
 exact zj b0 b hh
theorem BR{C:Cfg}{run:FuncId->LA->H->Option (AV × H)}{f:FuncId}{args:LA}{h h':H}{r:AV}(hm:C.mode f≠.openH) (hq:C.mode f≠.openQ) (hf0:C.mode f≠.openF) (hh:dJ C run f args h=some (r,h')):Same (cP h cM args) h (λh=>dJ C run f args h) r h':=by
 have d:∀a:H,a.length=h.length->(∀id∈cP h cM args,a[id]?=h[id]?)->∃h2',dJ C run f args a=some (r,h2')/\Both (cP h cM args) h h' a h2':=by
  intro a c g;have⟨k,l,n,o⟩:=EG c g;unfold dJ at hh ⊢;split at hh
  ·exact absurd ‹_› hm
  ·exact absurd ‹_› hq
  ·exact absurd ‹_› hf0
  rename_i m p;split at hh<;>try(cases hh;done)
  rename_i s i;split at hh<;>try(cases hh;done)
  rename_i t u q
  ·rw[l,i];dsimp only;rw[q];dsimp only;rw[k];exact E6 ⟨.refl h,.refl c g⟩ ⟨.refl a,.refl c.symm λid j=>(g id j).symm⟩ c ⟨n,o⟩ hh
 refine⟨?_,λa c g=>let ⟨h3,e,b⟩:=d a c g;⟨h3,e,b.2⟩⟩;have⟨_,_,b⟩:=d h rfl (λ_ _=>rfl);exact b.1
theorem HC{C:Cfg}{s s':PT}{h:H}{o:Oper}(hh:∀x∈o.op.operands.toList,ev s x=ev s' x):lT C s h o=lT C s' h o:=by
 unfold lT;cases k:o.op<;>rw[k]at hh<;>simp only[Op.operands,Call.operands]at hh ⊢
 case call c=>
  have⟨e,a,g⟩:=c;cases e with
  |builtin b=>
   have j:∀x∈a.toList,ev s x=ev s' x:=λx i=>hh x (by simpa using i)
   cases b<;>simp only;split
   ·split
    ·rename_i x y d;rw[j x (by rw[d];simp),j y (by rw[d];simp)]
    rfl
   rfl
  |value f=>have l:ev s f=ev s' f:=hh f s_;have m:evs s a.toList=evs s' a.toList:=ug (λx i=>hh x (by simp at i ⊢;exact .inr i));simp only[l,m]
  |_=>rfl
 case buildSlice t len parts=>rw[rj (λx i=>hh x (by simpa using i))]
 all_goals first
  |rfl
  |(simp only[aV,dN,or_false,forall_eq_or_imp,forall_eq]at hh;first|rw[hh]|rw[hh.1,hh.2]|rw[hh.1,hh.2.1,hh.2.2]|rw[hh.1])
theorem M6{C:Cfg}{s:PT}{h h2:H}{o:Oper}{T:List Nat}{wr:Bool}(hf:lT C s h o=some (T,wr)) (ha:∀id∈T,h2[id]?=h[id]?):lT C s h2 o=some (T,wr):=by
 unfold lT at hf;split at hf
 ·rename_i a;split at hf<;>rename_i c
  case h_10=>
   split at hf<;>try(cases hf;done)
   rename_i l d;simp only[aA,aE]at hf;obtain⟨rfl,rfl⟩:=hf;unfold lT;rw[if_pos a,c];dsimp only;rw[d];dsimp only;rw[jp _ _ ha]
  case h_12=>
   split at hf<;>try(cases hf;done)
   rename_i g b l j d;split at hf
   ·rename_i e;split at hf<;>try(cases hf;done)
    rename_i k f i;simp only[aA,aE]at hf;obtain⟨rfl,rfl⟩:=hf;unfold lT;rw[if_pos a,c];dsimp only;rw[j,d];dsimp only;rw[if_pos e];split
    ·exact absurd ‹_› k
    ·exact absurd ‹_› f
    ·exact absurd ‹_› i
    rw[jp _ _ ha]
   rename_i e;unfold lT;rw[if_pos a,c];dsimp only;rw[j,d];dsimp only;rw[if_neg e];exact hf
  all_goals first
   |(cases hf;done)
   |(unfold lT;rw[if_pos a,c];exact hf)
 rename_i a;unfold lT;rw[if_neg a];exact hf
theorem tQ{P:Program}{h h':H}{t:TypeId}{m k v:AV}(hm:er P h t m k v=some h'):∃id,id∈Gt m/\∃es,h'=h.set id (.map es)/\∀h2:H,(∀i∈Gt m,h2[i]?=h[i]?)->er P h2 t m k v=some (h2.set id (.map es)):=by
 unfold er at hm;split at hm<;>try(cases hm;done)
 rename_i p q id g;split at hm<;>try(cases hm;done)
 rename_i es b;split at hm<;>try(cases hm;done)
 rename_i j;have a:id∈Gt (.mp id):=by simp[Gt]
 split at hm
 ·rename_i i c;split at hm<;>try(cases hm;done)
  rename_i e r l n;split at hm<;>try(cases hm;done)
  rename_i s o;split at hm<;>try(cases hm;done)
  rename_i d;simp only[aA]at hm;subst hm;exact⟨id,a,_,rfl,λh2 f=>by simp only[er,g,f id a,b,c,l,n,o];rw[if_neg j,if_pos d]⟩
 ·rename_i c;split at hm<;>try(cases hm;done)
  rename_i d;simp only[aA]at hm;subst hm;exact⟨id,a,_,rfl,λh2 f=>by simp only[er,g,f id a,b,c];rw[if_neg j,if_pos d]⟩
 cases hm
theorem PV{C:Cfg}{run:FuncId->LA->H->Option (AV × H)}{cf:FuncId}{s:PT}{o:Oper}{h h':H}{r:AV}{T:List Nat}{wr:Bool}(hact:eP o=true) (hf:lT C s h o=some (T,wr)) (hv:opA C run cf s h o=some (r,h')) :
  wr=true/\Same T h (λh=>opA C run cf s h o) r h':=by
 unfold lT at hf;rw[if_pos hact]at hf;unfold opA at hv;split at hv
 ·rename_i x j;rw[j]at hf;simp only[aA,aE]at hf;obtain⟨rfl,rfl⟩:=hf;refine⟨rfl,?_⟩;split at hv
  ·rename_i hw;simp only[aA,aE]at hv;obtain⟨rfl,rfl⟩:=hv;exact .here λq w B=>by simp only[opA,j];rw[if_pos hw]
  rename_i hw;split at hv<;>try(cases hv;done)
  rename_i e he;simp only[aA,aE]at hv;obtain⟨rfl,rfl⟩:=hv;exact .push s_ λq w B=>by simp only[opA,j];rw[if_neg hw,he,w]
 ·rename_i t x j;rw[j]at hf;simp only[aA,aE]at hf;obtain⟨rfl,rfl⟩:=hf;refine⟨rfl,?_⟩;split at hv<;>try(cases hv;done)
  rename_i c m D Y;split at hv<;>try(cases hv;done)
  rename_i G;simp only[aA,aE]at hv;obtain⟨rfl,rfl⟩:=hv;exact .push s_ λq w B=>by simp only[opA,j,D,Y];rw[if_pos G,w]
 ·rename_i t j;rw[j]at hf;simp only[aA,aE]at hf;obtain⟨rfl,rfl⟩:=hf;refine⟨rfl,?_⟩;split at hv<;>try(cases hv;done)
  rename_i c Z;simp only[aA,aE]at hv;obtain⟨rfl,rfl⟩:=hv;exact .push s_ λq w B=>by simp only[opA,j,Z,w]
 ·rename_i t len q7 j;rw[j]at hf;split at hv<;>try(cases hv;done)
  rename_i l J;simp only[J,aA,aE]at hf;obtain⟨rfl,rfl⟩:=hf;refine⟨rfl,?_⟩;have q1:∀q:H,q.length=h.length->(∀id∈cP h cM (l.map (·.2)),q[id]?=h[id]?)->∃h2',opA C run cf s q o=some (r,h2')/\Both (cP h cM (l.map (·.2))) h h' q h2':=by
   intro q w B;have⟨e1,e2,fr,lc⟩:=EG w B;unfold cQ at hv;split at hv<;>try(cases hv;done)
   rename_i X ht;split at hv<;>try(cases hv;done)
   rename_i sz I;split at hv<;>try(cases hv;done)
   rename_i G;split at hv<;>try(cases hv;done)
   rename_i es q8;split at hv<;>try(cases hv;done)
   rename_i hk;simp only[aA,aE]at hv;obtain⟨rfl,rfl⟩:=hv;refine⟨_,?_,fr,lc⟩;simp only[opA,j,J,cQ,ht,I];rw[if_neg G,e2,q8];dsimp only;rw[if_pos hk,e1]
  refine⟨?_,λq w B=>let ⟨U,e,b⟩:=q1 q w B;⟨U,e,b.2⟩⟩;have⟨_,_,b⟩:=q1 h rfl (λ_ _=>rfl);exact b.1
 ·rename_i t x y j;rw[j]at hf;simp only[aA,aE]at hf;obtain⟨rfl,rfl⟩:=hf;refine⟨rfl,?_⟩;split at hv<;>try(cases hv;done)
  rename_i a b D N;unfold iY at hv;split at hv<;>try(cases hv;done)
  rename_i X l c ht;split at hv<;>try(cases hv;done)
  rename_i sz q9 z I O Z;split at hv<;>try(cases hv;done)
  rename_i G;split at hv
  ·rename_i J;simp only[aA,aE]at hv;obtain⟨rfl,rfl⟩:=hv;exact .push s_ λq w B=>by simp only[opA,j,D,N,iY,ht,I,O,Z];rw[if_neg G,if_pos J,w]
  rename_i J;simp only[aA,aE]at hv;obtain⟨rfl,rfl⟩:=hv;exact .push s_ λq w B=>by simp only[opA,j,D,N,iY,ht,I,O,Z];rw[if_neg G,if_neg J,w]
 ·rename_i t a x j;rw[j]at hf;split at hv<;>try(cases hv;done)
  rename_i p v hp D;split at hv<;>try(cases hv;done)
  rename_i U A;simp only[aA,aE]at hv;obtain⟨rfl,rfl⟩:=hv;have z5:=A;unfold ah at A;split at A<;>try(cases A;done)
  rename_i id q2;simp only[hp,aA,aE]at hf;obtain⟨rfl,rfl⟩:=hf;refine⟨rfl,?_⟩;split at A<;>try(cases A;done)
  rename_i cs n K hn;split at A<;>try(cases A;done)
  ·split at A<;>try(cases A;done)
   rename_i G;simp only[aA]at A;subst A;exact .set s_ s_ λq w B=>by simp only[opA,j,hp,D,ah,B id s_,K,hn];rw[if_pos G]
  rename_i nt na;split at A<;>try(cases A;done)
  rename_i G;simp only[aA]at A;subst A;refine .set s_ s_ λq w B=>?_
  have e:ah C.P q t (.ptr id q2) v=some (q.set id (.cells (cs.set q2 v) .live)):=by
   cases v with
   |tuple vs=>exact(nt _ rfl).elim
   |agg vs=>exact(na _ rfl).elim
   |_=>simp only[ah,B id s_,K,hn];rw[if_pos G]
  simp only[opA,j,hp,D,e]
 ·rename_i q3 M j;rw[j]at hf;split at hv<;>try(cases hv;done)
  rename_i x y t u E F;simp only[E]at hf;split at hv
  ·rename_i V;split at hv<;>try(cases hv;done)
   rename_i c d D N;simp only[D,N,aA,aE]at hf;obtain⟨rfl,rfl⟩:=hf;refine⟨rfl,?_⟩;have⟨f,k⟩:=Fi (T:=cF c++gZ c++cF d) (λi hi=>hi) hv;exact⟨f,λq w B=>let ⟨U,e,l⟩:=k q w B;⟨U,by simp only[opA,j,E,F,D,N];rw[if_pos V];exact e,l⟩⟩
  rename_i V;split at hv
  rotate_left 1
  ·rename_i z';split at hv<;>try(cases hv;done)
   rename_i q4;split at hv<;>try(cases hv;done)
   rename_i c n D N;simp only[D,N,aA,aE]at hf;obtain⟨rfl,rfl⟩:=hf;refine⟨rfl,?_⟩;have e:∀q,opA C run cf s q o=nK C.P q t c n:=λq=>by simp only[opA,j,E,F,D,N];rw[if_neg V,if_neg z',if_pos q4]
   simp only[e];unfold nK at hv;split at hv<;>try(cases hv;done)
   rename_i X xs ht;split at hv<;>try(cases hv;done)
   rename_i sz q9 z I O Z;split at hv<;>try(cases hv;done)
   rename_i G;split at hv
   ·rename_i q';simp only[aA,aE]at hv;obtain⟨rfl,rfl⟩:=hv;exact .here λq w B=>by simp only[nK,ht,I,O,Z];rw[if_pos G,if_pos q']
   rename_i q';simp only[aA,aE]at hv;obtain⟨rfl,rfl⟩:=hv;exact .push s_ λq w B=>by simp only[nK,ht,I,O,Z];rw[if_pos G,if_neg q',w]
  rename_i q5;split at hv<;>try(cases hv;done)
  rename_i c d D N;simp only[D,N,aA,aE]at hf;obtain⟨rfl,rfl⟩:=hf;refine⟨rfl,?_⟩;have⟨f,k⟩:=qZ (T:=cF c++gZ c++cF d) (λi hi=>hi) hv;exact⟨f,λq w B=>let ⟨U,e,l⟩:=k q w B;⟨U,by simp only[opA,j,E,F,D,N];rw[if_neg V,if_pos q5];exact e,l⟩⟩
 ·rename_i f q3 M j;rw[j]at hf;split at hv<;>try(cases hv;done)
  ·rename_i g q0 l D w;simp only[D,w]at hf;split at hv
   ·rename_i Q;rw[if_pos Q]at hf;split at hf<;>try(cases hf;done)
    rename_i Y hq z0;simp only[aA,aE]at hf;obtain⟨rfl,rfl⟩:=hf;refine⟨rfl,?_⟩;have⟨f',k⟩:=BR (λe=>Y e) (λe=>hq e) (λe=>z0 e) hv;exact⟨f',λq q6 B=>let ⟨U,e,lc⟩:=k q q6 B;⟨U,by simp only[opA,j,D,w];rw[if_pos Q];exact e,lc⟩⟩
   rename_i Q;rw[if_neg Q]at hf;simp only[aA,aE]at hf;obtain⟨rfl,rfl⟩:=hf;refine⟨rfl,?_⟩;unfold Kn at hv;split at hv<;>try(cases hv;done)
   rename_i vs z1;split at hv<;>try(cases hv;done)
   rename_i v z2;split at hv<;>try(cases hv;done)
   rename_i a z3;simp only[aA,aE]at hv;obtain⟨rfl,rfl⟩:=hv;exact .here λq q6 B=>by simp only[opA,j,D,w];rw[if_neg Q];simp only[Kn,z1,z2,z3]
  rename_i i l D w;simp only[D,w]at hf;cases hf
 ·rename_i t j;rw[j]at hf;simp only[aA,aE]at hf;obtain⟨rfl,rfl⟩:=hf;refine⟨rfl,?_⟩;simp only[aA,aE]at hv;obtain⟨rfl,rfl⟩:=hv;exact .push s_ λq w B=>by simp only[opA,j,w]
 ·rename_i t x i ok j;rw[j]at hf;split at hv<;>try(cases hv;done)
  rename_i a b B Q;simp only[B,aA,aE]at hf;obtain⟨rfl,rfl⟩:=hf;refine⟨rfl,?_⟩;split at hv<;>try(cases hv;done)
  rename_i v z4;simp only[aA,aE]at hv;obtain⟨rfl,rfl⟩:=hv;refine .here λq w S=>?_
  have:mH C.P q t a b ok=mH C.P h t a b ok:=by
   cases a with
   |mp id=>simp only[mH];rw[S id (by simp[Gt])]
   |_=>rfl
  simp only[opA,j,B,Q,this,z4]
 ·rename_i t m k x j;rw[j]at hf;split at hv<;>try(cases hv;done)
  rename_i a b c B Q G;simp only[B,aA,aE]at hf;obtain⟨rfl,rfl⟩:=hf;refine⟨rfl,?_⟩;split at hv<;>try(cases hv;done)
  rename_i U Y;simp only[aA,aE]at hv;obtain⟨rfl,rfl⟩:=hv;obtain⟨id,K,es,rfl,hF⟩:=tQ Y;exact .set K (by intro L st e;cases e) λq w S=>by simp only[opA,j,B,Q,G,hF q S]
 ·rename_i t m k x j;rw[j]at hf;split at hv<;>try(cases hv;done)
  rename_i a b c B Q G;simp only[B,aA,aE]at hf;obtain⟨rfl,rfl⟩:=hf;refine⟨rfl,?_⟩;split at hv<;>try(cases hv;done)
  rename_i U Y;simp only[aA,aE]at hv;obtain⟨rfl,rfl⟩:=hv;obtain⟨id,K,es,rfl,hF⟩:=tQ Y;exact .set K (by intro L st e;cases e) λq w S=>by simp only[opA,j,B,Q,G,hF q S]
 ·rename_i j;rw[j]at hf;cases hf
 ·rename_i j;rw[j]at hf;cases hf
 cases hv
theorem IM{C:Cfg}{run:FuncId->LA->H->Option (AV × H)}{cf:FuncId}{s:PT}{o:Oper}{h h':H}{r:AV}{T:List Nat}{wr:Bool}(hf:lT C s h o=some (T,wr)) (hv:opV C run cf s h o=some (r,h')) :
  (wr=false->h'=h)/\Same T h (λh=>opV C run cf s h o) r h':=by
 cases b:eP o with
 |true=>
  have e:∀h,opV C run cf s h o=opA C run cf s h o:=λh=>by unfold opV;rw[if_pos b]
  rw[e]at hv;have⟨g,i⟩:=PV b hf hv;exact⟨λe=>(by rw[g]at e;cases e),by simp only[e];exact i⟩
 |false=>
  have c:=wV hv b;subst c;refine⟨λ_=>rfl,.here λj p k=>?_⟩;unfold opV at hv ⊢;rw[b]at hv ⊢;simp only[aT,if_false]at hv ⊢;split at hv
  ·rename_i t x l;unfold lT at hf;rw[b,l]at hf;simp only[aT,if_false]at hf;split at hv<;>try(cases hv;done)
   rename_i a m;split at hv<;>try(cases hv;done)
   rename_i v d;simp only[aA,aE]at hv;have:aJ C.P j t a=aJ C.P h' t a:=by
    cases a with
    |ptr id n=>simp only[m,aA,aE]at hf;obtain⟨rfl,rfl⟩:=hf;simp only[aJ];rw[k id s_]
    |_=>rfl
   rw[this,d];dsimp only;rw[hv.1]
  split at hv<;>try(cases hv;done)
  rename_i v f;simp only[aA,aE]at hv;rw[<-hv.1]
theorem vR{ops:Array Oper}(h:zY ops=true){j:Nat}{y:Oper}(hy:ops[j]?=some y) :
  (∀e∈y.after,Region.binds .any e=true->e.on<j)/\∀i x,i<j->ops[i]?=some x->pc ops x y=true->((Region.before ops).getD j 0).testBit i=true:=by
 simp only[zY,av,dR]at h;have a:j<ops.size:=(aR.1 hy).1;have:=h j a;rw[hy]at this;simp only[bI,av,dR]at this;refine⟨λe b c=>?_,λi x d f g=>?_⟩
 ·have:=this.1;simp only[wx,fE,bz,cL,decide_eq_true_eq]at this;rcases this e b with h|h
  ·rw[c]at h;cases h
  exact h
 have:=this.2 i d;rw[f]at this;simp only[bz,cL]at this;rcases this with h|h
 ·rw[g]at h;cases h
 exact h
theorem Cz{a b:List Nat}{id:Nat}(ha:id∈a) (hb:id∈b):qm a b=true:=by unfold qm;rw[dT];exact⟨id,ha,by simpa using hb⟩
theorem Ke{ops:Array Oper}{F:List FP}(h:sq ops F=true){i j:Nat}{x y:FP}(hx:F[i]?=some x) (hy:F[j]?=some y) (hi:i<j) (hm:qm x.2 y.1=true\/qm y.2 x.1=true):((Region.before ops).getD j 0).testBit i=true:=by
 simp only[sq,av,dR]at h;have:=h j (aB.1 hy).1;rw[hy]at this;simp only[av,dR]at this;have:=this i hi;rw[hx]at this;simp only[bz,cL,Bool.or_eq_false_iff]at this;rcases this with⟨a,b⟩|h
 ·rcases hm with e|e
  ·rw[e]at a;cases a
  rw[e]at b;cases b
 exact h
def upd(h:H) (l:List Nat) (g:H):H:=h.mapIdx λid x=>if l.contains id then(g[id]?).getD x else x
def iq(ws:Nat->List Nat) (hs:Nat->H) (W:Nat->Bool):Nat->H
 |0=>hs 0
 |m+1=>if W m then upd (iq ws hs W m) (ws m) (hs (m+1))else iq ws hs W m
theorem wH(h:H) (l:List Nat) (g:H) (id:Nat):(upd h l g)[id]?=(h[id]?).map λx=>if l.contains id then(g[id]?).getD x else x:=by unfold upd;rw[List.getElem?_mapIdx]
theorem Oo{h:H}{l:List Nat}{g:H}{id:Nat}(hid:id∉l):(upd h l g)[id]?=h[id]?:=by
 have a:l.contains id=false:=by simpa using hid
 rw[wH];simp only[a,aT,if_false];simp
theorem SD{h:H}{l:List Nat}{g:H}{id:Nat}(hid:id∈l):(upd h l g)[id]?=(h[id]?).map λx=>(g[id]?).getD x:=by
 have a:l.contains id=true:=by simpa using hid
 rw[wH];simp only[a,if_true]
theorem Im{p:Nat}{T:List Nat}{h h':H}{id:Nat}(hp:id≠p) (hT:id∉T):(fin p T h h')[id]?=h[id]?:=by
 have a:T.contains id=false:=by simpa using hT
 rw[oP];simp only[a,aT,if_false,if_neg hp];simp
theorem F6(h:H) (l:List Nat) (g:H):(upd h l g).length=h.length:=by simp[upd]
section
variable {ws:Nat->List Nat}{hs:Nat->H}
theorem yZ(W:Nat->Bool):∀m,(iq ws hs W m).length=(hs 0).length:=by
 intro m;induction m with
 |zero=>rfl
 |succ m a=>simp only[iq];split<;>simp[F6,a]
theorem AA{W:Nat->Bool}{id m:Nat}(h:id∉ws m):(iq ws hs W (m+1))[id]?=(iq ws hs W m)[id]?:=by
 simp only[iq];split
 ·exact Oo h
 rfl
theorem vU{W W':Nat->Bool}{id:Nat}:∀m,(∀i,i<m->id∈ws i->W i=W' i)->(iq ws hs W m)[id]?=(iq ws hs W' m)[id]?:=by
 intro m;induction m with
 |zero=>intro _;rfl
 |succ m b=>
  intro h;have:=b (λi c=>h i o_);by_cases a:id∈ws m
  ·simp only[iq];rw[h m o_ a];split
   ·rw[wH,wH,this]
   exact this
  rw[AA a,AA a];exact this
theorem Bh{W:Nat->Bool}{id m:Nat}:∀M,m<=M->(∀i,m<=i->i<M->id∈ws i->W i=false)->(iq ws hs W M)[id]?=(iq ws hs W m)[id]?:=by
 intro M;induction M with
 |zero=>intro h _;have:m=0:=o_;subst this;rfl
 |succ M c=>
  intro h a;by_cases e:m=M+1
  ·subst e;rfl
  rw[<-c o_ (λi d f=>a i d o_)];by_cases b:id∈ws M
  ·simp only[iq];rw[a M o_ o_ b];rfl
  exact AA b
end
structure MTrace (C:Cfg) (run:FuncId->LA->H->Option (AV × H)) (cf:FuncId) (ops:Array Oper) (base:Nat) (s0:PT) (h0:H) (val:Nat->AV) (hs:Nat->H) (fp:Nat->FP):Prop where
 zero:hs 0=h0
 step:∀i o,ops[i]?=some o->gz C run cf ops base i o (sel ops val s0 (λ_=>true) i) (hs i)=some (val i,hs (i+1),fp i)
theorem KM{C:Cfg}{run:FuncId->LA->H->Option (AV × H)}{cf:FuncId}{ops:Array Oper}{base:Nat}{s0:PT}{h0:H}{s':PT}{h':H}{F:List FP}(hh:pC C run cf ops base ops.size s0 h0=some (s',h',F)) :
  ∃val hs fp,MTrace C run cf ops base s0 h0 val hs fp/\sel ops val s0 (λ_=>true) ops.size=s'/\hs ops.size=h'/\∀i,i<ops.size->F[i]?=some (fp i):=by
 have l:∀n,n<=ops.size->∀g j c,pC C run cf ops base n s0 h0=some (g,j,c)->∃(val:Nat->AV) (hs:Nat->H) (fp:Nat->FP),hs 0=h0/\(∀i o,i<n->ops[i]?=some o->gz C run cf ops base i o (sel ops val s0 (λ_=>true) i) (hs i)=some (val i,hs (i+1),fp i)) /\
   sel ops val s0 (λ_=>true) n=g/\hs n=j/\c.length=n/\∀i,i<n->c[i]?=some (fp i):=by
  intro n;induction n with
  |zero=>intro _ g j c h;simp only[pC,aA,aE]at h;obtain⟨rfl,rfl,rfl⟩:=h;exact⟨λ_=>AV.undef,λ_=>h0,λ_=>([],[]),rfl,λi o p=>o_,rfl,rfl,rfl,λi p=>o_⟩
  |succ n B=>
   intro M g j c h;simp only[pC]at h;split at h<;>try(cases h;done)
   rename_i D y E o z d;split at h<;>try(cases h;done)
   rename_i v G f q;simp only[aA,aE]at h;obtain⟨rfl,rfl,rfl⟩:=h;have⟨val,hs,fp,r,s,k,t,A,u⟩:=B o_ D y E z
   let val':Nat->AV:=λi=>if i=n then v else val i
   let hs':Nat->H:=λi=>if i=n+1 then G else hs i
   let fp':Nat->FP:=λi=>if i=n then f else fp i
   have a:∀m,m<=n->sel ops val' s0 (λ_=>true) m=sel ops val s0 (λ_=>true) m:=by
    intro m;induction m with
    |zero=>intro _;rfl
    |succ m w=>intro z;simp only[sel,if_true];rw[w o_];simp only[val'];rw[if_neg o_]
   refine⟨val',hs',fp',by simp only[hs'];rw[if_neg o_];exact r,λi I p b=>?_,?_,by simp[hs'],by simp[A],λi p=>?_⟩
   ·by_cases e:i=n
    ·subst e;rw[d]at b;simp only[aA]at b;subst b;rw[a i (aP _),k];have x:hs' i=y:=by simp only[hs'];rw[if_neg o_];exact t
     rw[x,q];simp[val',hs',fp']
    rw[a i o_];have x:hs' i=hs i:=by simp only[hs'];rw[if_neg o_]
    have J:hs' (i+1)=hs (i+1):=by simp only[hs'];rw[if_neg o_]
    have K:val' i=val i:=by simp only[val'];rw[if_neg e]
    have L:fp' i=fp i:=by simp only[fp'];rw[if_neg e]
    rw[x,J,K,L];exact s i I o_ b
   ·simp only[sel,if_true,d,cZ];rw[a n (aP _),k];simp[val']
   by_cases e:i=n
   ·subst e;rw[ap o_,A];simp[fp']
   rw[aH o_];simp only[fp'];rw[if_neg e];exact u i o_
 have⟨val,hs,fp,r,s,k,t,_,u⟩:=l ops.size (aP _) s' h' F hh;exact⟨val,hs,fp,⟨r,λi o d=>s i o (aR.1 d).1 d⟩,k,t,u⟩
theorem sC{C:Cfg}{run:FuncId->LA->H->Option (AV × H)}{cf:FuncId}{ops:Array Oper}{base i:Nat}{o:Oper}{s:PT}{h h2:H}{v:AV}{f:FP}(hh:gz C run cf ops base i o s h=some (v,h2,f)) :
  (Region.wanted o (eR ops s)=true/\∃T wr r h',lT C s h o=some (T,wr)/\opV C run cf s h o=some (r,h')/\h'.length<=h.length+1/\base+i∉T/\h[base+i]?=some .void/\v=r.mv h.length (base+i) /\
   h2=(if wr then fin (base+i) T h h' else h)/\f=(if wr then((base+i)::T,(base+i)::T)else(T,[]))) \/
  (Region.wanted o (eR ops s)=false/\v=AV.undef/\h2=h/\f=([],[])):=by
 unfold gz at hh;split at hh
 ·rename_i a;split at hh<;>try(cases hh;done)
  rename_i T wr r h' c d;split at hh<;>try(cases hh;done)
  rename_i b;simp only[aA,aE]at hh;obtain⟨rfl,rfl,rfl⟩:=hh;refine .inl ⟨a,T,wr,r,h',c,d,b.1,by simpa using b.2.1,?_,rfl,rfl,rfl⟩;have:=b.2.2;unfold dE at this;split at this
  ·assumption
  cases this
 rename_i a;simp only[aA,aE]at hh;obtain⟨rfl,rfl,rfl⟩:=hh;exact .inr ⟨by simpa using a,rfl,rfl,rfl⟩
section
variable {C:Cfg}{run:FuncId->LA->H->Option (AV × H)}{cf:FuncId}{ops:Array Oper}{base:Nat}{s0:PT}{h0:H}{val:Nat->AV}{hs:Nat->H}{fp:Nat->FP}
theorem MTrace.len(tr:MTrace C run cf ops base s0 h0 val hs fp):∀i,i<=ops.size->(hs i).length=(hs 0).length:=by
 intro i;induction i with
 |zero=>intro _;rfl
 |succ i a=>
  intro c;have b:ops[i]?=some (ops[i]' o_):=aX _;rcases sC (tr.step i _ b)with⟨_,T,d,r,f,_,_,_,_,_,_,e,_⟩|⟨_,_,e,_⟩
  ·rw[e];split
   ·rw[Aj];exact a o_
   exact a o_
  rw[e];exact a o_
theorem MTrace.out(tr:MTrace C run cf ops base s0 h0 val hs fp){i:Nat}{o:Oper}(ho:ops[i]?=some o){id:Nat}(hid:id∉(fp i).2):(hs (i+1))[id]?=(hs i)[id]?:=by
 rcases sC (tr.step i o ho)with⟨_,T,a,r,c,_,_,_,_,_,_,e,b⟩|⟨_,_,e,_⟩
 ·rw[e];cases a with
  |false=>rfl
  |true=>rw[b]at hid;simp only[if_true,aV,not_or]at hid;simp only[if_true];exact Im hid.1 hid.2
 rw[e]
theorem MTrace.all(tr:MTrace C run cf ops base s0 h0 val hs fp):∀i,i<=ops.size->iq (λi=>(fp i).2) hs (λ_=>true) i=hs i:=by
 intro i;induction i with
 |zero=>intro _;rfl
 |succ i c=>
  intro d;have e:ops[i]?=some (ops[i]' o_):=aX _;simp only[iq,if_true];rw[c o_];apply dB;intro id;rw[wH];by_cases a:id∈(fp i).2
  ·have b:(fp i).2.contains id=true:=by simpa using a
   simp only[b,if_true];have g:=tr.len i o_;have h:=tr.len (i+1) d;by_cases f:id<(hs i).length
   ·rw[aF f,aF (l:=hs (i+1)) o_];rfl
   rw[cI o_,cI o_];rfl
  have b:(fp i).2.contains id=false:=by simpa using a
  simp only[b,aT,if_false];rw[tr.out e a];simp
end
section
variable {B:Nat}{A0:Nat->Nat->Prop}{n:Nat}{ro:Option Nat}{nd:Nat}
theorem Ss [DFlag] {C:Cfg}(hP:Good C.P){run:FuncId->LA->H->Option (AV × H)}(hrun:Ok C.P run){cf:FuncId}{ops:Array Oper}{Q:Exit->Act->World->Prop}(hok:zY ops=true)
  (hd:∀(i:Nat) o,ops[i]?=some o->∀t,o.dst=some t->t<n){σ0:List (Option Nat)}{h0 h00:H}{w0:World}{s0:PT}{a0:Act}{base:Nat}{val:Nat->AV}{hs:Nat->H}{fp:Nat->FP}(tr:MTrace C run cf ops base s0 h00 val hs fp)
  (hfp:∀i j,i<j->j<ops.size->(qm (fp i).2 (fp j).1=true\/qm (fp j).2 (fp i).1=true)->((Region.before ops).getD j 0).testBit i=true)
  (hQ:∀σ' w' a',HRel C.P B A0 σ' (hs ops.size) w'->Step C.P B A0 σ0 h0 w0 σ' (hs ops.size) w'->SRel C.P (Alw C.P B A0 σ' (hs ops.size)) σ' (hs ops.size) w' n (sel ops val s0 (λ_=>true) ops.size) a'.tmps->a'.defers=a0.defers->Q .normal a' w') :
  ∀(fuel:Nat) (L:Array Bool) (a:Act) (w:World) (σ:List (Option Nat)),L.size=ops.size->HRel C.P B A0 σ (iq (λi=>(fp i).2) hs (λi=>L.getD i false) ops.size) w ->
   Step C.P B A0 σ0 h0 w0 σ (iq (λi=>(fp i).2) hs (λi=>L.getD i false) ops.size) w ->
   SRel C.P (Alw C.P B A0 σ (iq (λi=>(fp i).2) hs (λi=>L.getD i false) ops.size)) σ (iq (λi=>(fp i).2) hs (λi=>L.getD i false) ops.size) w n (sel ops val s0 (λi=>L.getD i false) ops.size) a.tmps->a.defers=a0.defers ->
   (∀j o,ops[j]?=some o->L.getD j false=true->∀e∈o.after,Region.binds .any e=true->L.getD e.on false=true) ->
   unl (λi=>L.getD i false) ops.size<=fuel->wpAnyIn (FR ro) nd C.P .any ops Q fuel L a w:=by
 have N:∀(L:Array Bool) (a:Act) (w:World) (σ:List (Option Nat)),L.size=ops.size->HRel C.P B A0 σ (iq (λi=>(fp i).2) hs (λi=>L.getD i false) ops.size) w ->
   Step C.P B A0 σ0 h0 w0 σ (iq (λi=>(fp i).2) hs (λi=>L.getD i false) ops.size) w ->
   SRel C.P (Alw C.P B A0 σ (iq (λi=>(fp i).2) hs (λi=>L.getD i false) ops.size)) σ (iq (λi=>(fp i).2) hs (λi=>L.getD i false) ops.size) w n (sel ops val s0 (λi=>L.getD i false) ops.size) a.tmps->a.defers=a0.defers ->
   (∀i,i<ops.size->L.getD i false=true)->Q .normal a w:=by
  intro L a w σ hL hr g c q s;have e1:iq (λi=>(fp i).2) hs (λi=>L.getD i false) ops.size=hs ops.size:=by rw[<-tr.all ops.size (aP _)];apply dB;intro id;exact vU ops.size λi f _=>s i f
  rw[e1]at hr g c;refine hQ σ w a hr g ⟨c.1,λt=>?_⟩ q;have:=c.2 t;rwa[pO (W':=λ_=>true) ops.size (λi f _=>s i f)]at this
 intro fuel;induction fuel with
 |zero=>
  intro L a w σ hL hr g c q O hu;have s:=Dy (W:=λi=>L.getD i false) ops.size o_;refine⟨?_,N L a w σ hL hr g c q s⟩;cases q7:Region.ready .any ops L with
  |nil=>rfl
  |cons j js=>
   have hj:j∈Region.ready .any ops L:=by rw[q7];simp
   have⟨M,o,D,_⟩:=mem_ready.1 hj;have q8:j<ops.size:=(aR.1 D).1;have F:=s j q8;rw[rQ o_]at M;rw[M]at F;cases F
 |succ fuel ih=>
  intro L a w σ hL hr g c q O hu;refine⟨λq7=>?_,λj hj=>?_⟩
  ·refine N L a w σ hL hr g c q ?_;intro i;induction i using Nat.strongRecOn with
   |ind i y'=>
    intro f;cases G:L.getD i false with
    |true=>rfl
    |false=>
     exfalso;have D:ops[i]?=some (ops[i]'f):=aX f;have:i∈Region.ready .any ops L:=mem_ready.2 ⟨by rw[rQ o_];exact G,_,D,λe he hb=>by have q8:=(vR hok D).1 e he hb;exact y' e.on q8 o_⟩
     rw[q7]at this;cases this
  have⟨y0,o,D,S⟩:=mem_ready.1 hj;have q9:j<ops.size:=(aR.1 D).1;have q1:L.getD j false=false:=by rw[<-rQ o_];exact y0
  have z5:∀i,((Region.before ops).getD j 0).testBit i=true->L.getD i false=true:=oR (W:=λi=>L.getD i false) O j o D S;have U:∀i x,ops[i]?=some x->((Region.before ops).getD i 0).testBit j=true->L.getD i false=false:=λi x p hb=>by
   cases G:L.getD i false with
   |false=>rfl
   |true=>have:=oR (W:=λi=>L.getD i false) O i x p (O i x p G) j hb;rw[q1]at this;cases this
  have z':∀i x,i<j->ops[i]?=some x->pc ops x o=true->L.getD i false=true:=λi x f p hc=>z5 i ((vR hok D).2 i x f p hc)
  have q4:∀i x,j<i->ops[i]?=some x->pc ops o x=true->L.getD i false=false:=λi x f p hc=>U i x p ((vR hok p).2 j o f D hc)
  have q2:∀i,i<j->(∃id,id∈(fp i).2/\id∈(fp j).1)->L.getD i false=true:=λi f ⟨id,M,F⟩=>z5 i (hfp i j f q9 (.inl (Cz M F)))
  have V:∀i,j<i->i<ops.size->(∃id,id∈(fp i).2/\id∈(fp j).1)->L.getD i false=false:=λi f X ⟨id,M,F⟩=>U i _ (aX X) (hfp j i f X (.inr (Cz M F)))
  have y1:∀i,j<i->i<ops.size->(∃id,id∈(fp j).2/\id∈(fp i).1)->L.getD i false=false:=λi f X ⟨id,M,F⟩=>U i _ (aX X) (hfp j i f X (.inl (Cz M F)))
  have E:∀(i:Nat) t,(ops[i]?).bind (·.dst)=some t->∃x,ops[i]?=some x/\x.dst=some t:=λi t h=>by
   cases p:ops[i]? with
   |none=>rw[p]at h;cases h
   |some x=>rw[p]at h;exact⟨x,rfl,h⟩
  have Y:∀t∈reads ops o,(sel ops val s0 (λi=>L.getD i false) ops.size).get t=(sel ops val s0 (λ_=>true) j).get t:=λt ht=>by
   rw[wM (m:=j) ops.size o_ (λi M F y=>?_)]
   ·refine pO j (λi f y=>?_);have⟨x,p,Z⟩:=E i t y;exact z' i x f p (by simp[pc,Z,ht])
   have⟨x,p,Z⟩:=E i t y;by_cases e:i=j
   ·subst e;exact q1
   exact q4 i x o_ p (by simp[pc,Z,ht])
  have k:∀id∈(fp j).1,(iq (λi=>(fp i).2) hs (λi=>L.getD i false) ops.size)[id]?=(hs j)[id]?:=λid b=>by
   rw[Bh (m:=j) ops.size o_ (λi M F f=>?_),<-tr.all j o_]
   ·exact vU j λi f G=>q2 i f ⟨id,G,b⟩
   by_cases e:i=j
   ·subst e;exact q1
   exact V i o_ F ⟨id,f,b⟩
  have z0:=wF Y;have q':∀x∈o.op.operands.toList,ev (sel ops val s0 (λi=>L.getD i false) ops.size) x=ev (sel ops val s0 (λ_=>true) j) x:=λx p=>FA (λt ht=>Y t (by simp[reads,ht])) p
  have K:∀i,i≠j->(L.setIfInBounds j true).getD i false=L.getD i false:=λi f=>getD_set_ne false (λe=>f e.symm)
  have z1:(L.setIfInBounds j true).getD j false=true:=by simp[hL,q9]
  have after:∀ {A:Nat->Nat->Prop}{σ':List (Option Nat)}{h':H}{w':World}{v:Value},SRel C.P A σ' h' w' n (sel ops val s0 (λi=>L.getD i false) ops.size) a.tmps->Rel C.P A σ' h' w' (val j) v ->
    SRel C.P A σ' h' w' n (sel ops val s0 (λi=>(L.setIfInBounds j true).getD i false) ops.size) (a.put o.dst v).tmps:=by
   intro A σ' h' w' v c hv;have hp:=SRel.put (d:=o.dst) c (hd j o D) hv;refine⟨hp.1,λt=>?_⟩;have:=hp.2 t;rw[oY]at this;by_cases e:o.dst=some t
   ·rw[if_pos e]at this;have e2:(sel ops val s0 (λi=>(L.setIfInBounds j true).getD i false) ops.size).get t=val j:=by
     rw[wM (m:=j+1) ops.size o_ (λi M F y=>?_)]
     ·simp only[sel];rw[if_pos z1,oY,if_pos (by rw[D];exact e)]
     have⟨x,p,Z⟩:=E i t y;rw[K i o_];exact q4 i x o_ p (by simp[pc,e,Z])
    rw[e2];exact this
   rw[if_neg e]at this;rw[pO (W':=λi=>L.getD i false) ops.size (λi f y=>?_)]
   ·exact this
   by_cases ei:i=j
   ·subst ei;rw[D]at y;exact absurd y e
   exact K i ei
  have q0:∀j' o',ops[j']?=some o'->(L.setIfInBounds j true).getD j' false=true->∀e∈o'.after,Region.binds .any e=true->(L.setIfInBounds j true).getD e.on false=true:=λj' o' q3 G e he hb=>by
   refine getD_set_true ?_;by_cases ej:j'=j
   ·subst ej;rw[D]at q3;simp only[aA]at q3;subst q3;exact S e he hb
   rw[K j' ej]at G;exact O j' o' q3 G e he hb
  have z2:unl (λi=>(L.setIfInBounds j true).getD i false) ops.size<=fuel:=by have:=(Hy (W:=λi=>L.getD i false) (W':=λi=>(L.setIfInBounds j true).getD i false) q1 z1 K ops.size).1 q9;omega
  have z3:(L.setIfInBounds j true).size=ops.size:=by simpa using hL
  have keep:∀id,id∉(fp j).2->(iq (λi=>(fp i).2) hs (λi=>(L.setIfInBounds j true).getD i false) ops.size)[id]?=(iq (λi=>(fp i).2) hs (λi=>L.getD i false) ops.size)[id]?:=λid b=>
   vU ops.size λi f G=>by
    by_cases ei:i=j
    ·subst ei;exact absurd G b
    exact K i ei
  have turn:∀id,id∈(fp j).2->id∈(fp j).1->(iq (λi=>(fp i).2) hs (λi=>(L.setIfInBounds j true).getD i false) ops.size)[id]?=(hs (j+1))[id]?:=λid b I=>by
   rw[Bh (m:=j+1) ops.size o_ (λi M F f=>by rw[K i o_];exact V i o_ F ⟨id,f,I⟩)];simp only[iq];rw[if_pos z1,SD b];have e1:=yZ (ws:=λi=>(fp i).2) (hs:=hs) (λi=>(L.setIfInBounds j true).getD i false) j;have e2:=tr.len (j+1) o_;by_cases hl:id<(hs 0).length
   ·rw[aF (l:=iq _ _ _ _) (by rw[e1];exact hl),aF (l:=hs (j+1)) (by rw[e2];exact hl)];rfl
   rw[cI (l:=iq _ _ _ _) (by rw[e1];omega),cI (l:=hs (j+1)) (by rw[e2];omega)];rfl
  have z6:=yZ (ws:=λi=>(fp i).2) (hs:=hs) (λi=>L.getD i false) ops.size;have z4:=tr.len j o_;unfold wpOpIn;simp only[D];rw[vO c,z0];rcases sC (tr.step j o D)with⟨G,T,wr,r,h',hf,hv,y8,y2,y3,J,z7,z⟩|⟨G,J,z7,z⟩
  ·rw[if_pos G];rw[<-HC q']at hf;rw[<-Bv q']at hv;have⟨l1,l2,l3⟩:=IM hf hv;have y4:∀id∈T,id∈(fp j).1:=λid b=>by rw[z];cases wr<;>simp[b]
   have q5:∀id∈T,(iq (λi=>(fp i).2) hs (λi=>L.getD i false) ops.size)[id]?=(hs j)[id]?:=λid b=>k id (y4 id b)
   have⟨h3,e3,lc⟩:=l3 (iq (λi=>(fp i).2) hs (λi=>L.getD i false) ops.size) o_ q5;dsimp only at e3;have y5:=M6 hf q5;have⟨m1,m2,m3⟩:=IM y5 e3;refine Co hP rfl hrun hr c e3 λu w1 z8=>?_
   cases wr with
   |false=>
    have e4:=m1 rfl;subst e4;have⟨σ1,k1,k2,k3⟩:=z8;have e5:(fp j).2=[]:=by rw[z];rfl
    have e6:iq (λi=>(fp i).2) hs (λi=>(L.setIfInBounds j true).getD i false) ops.size=iq (λi=>(fp i).2) hs (λi=>L.getD i false) ops.size:=by apply dB;intro id;exact keep id (by rw[e5];simp)
    have e7:val j=r:=by rw[J];exact Cv (.inl (cI o_)) _ k3
    refine ih (L.setIfInBounds j true) (a.put o.dst u) w1 σ1 z3 (by rw[e6];exact k1) (by rw[e6];exact g.trans k2) (by rw[e6];exact after (c.step k2) (by rw[e7];exact k3)) (by rw[jq];exact q) q0 z2
   |true=>
    have y6:base+j∈(fp j).1/\base+j∈(fp j).2:=by rw[z];simp
    have z9:(iq (λi=>(fp i).2) hs (λi=>L.getD i false) ops.size)[base+j]?=some .void:=by rw[k _ y6.1];exact y3
    have y9:h3.length=h'.length:=lc.len;have pl:=IK hr z9 y2 o_ m2 z8;have e6:iq (λi=>(fp i).2) hs (λi=>(L.setIfInBounds j true).getD i false) ops.size=fin (base+j) T (iq (λi=>(fp i).2) hs (λi=>L.getD i false) ops.size) h3:=by
     apply dB;intro id;by_cases b:id∈(fp j).2
     ·have I:id∈(fp j).1:=by rw[z]at b ⊢;simpa using b
      rw[turn id b I,z7];simp only[if_true];rw[oP,oP,k id I];have e8:(iq (λi=>(fp i).2) hs (λi=>L.getD i false) ops.size).length=(hs j).length:=o_;rw[e8,lc.new _ (aP _)];by_cases e9:id=base+j
      ·simp only[e9,if_true]
      have hT:id∈T:=by
       rw[z]at b;simp only[if_true,aV]at b;rcases b with h|h
       ·exact absurd h e9
       exact h
      simp only[if_neg e9];rw[lc.same id hT]
     rw[keep id b];have q6:id≠base+j/\id∉T:=by rw[z]at b;simpa[not_or]using b
     rw[Im q6.1 q6.2]
    rw[<-e6]at pl;have⟨σ1,k1,k2,k3⟩:=pl;have e7:val j=r.mv (iq (λi=>(fp i).2) hs (λi=>L.getD i false) ops.size).length (base+j):=by rw[J,z4,z6]
    exact ih (L.setIfInBounds j true) (a.put o.dst u) w1 σ1 z3 k1 (g.trans k2) (after (c.step k2) (by rw[e7];exact k3)) (by rw[jq];exact q) q0 z2
  rw[if_neg (by rw[G];simp)];have y7:=after (v:=undef) c (by rw[J];exact uI);refine⟨λ_ _=>trivial,?_⟩;have e6:iq (λi=>(fp i).2) hs (λi=>(L.setIfInBounds j true).getD i false) ops.size=iq (λi=>(fp i).2) hs (λi=>L.getD i false) ops.size:=by apply dB;intro id;exact keep id (by rw[z];simp)
  exact ih (L.setIfInBounds j true) (a.put o.dst undef) w σ z3 (by rw[e6];exact hr) (by rw[e6];exact g) (by rw[e6];exact y7) (by rw[jq];exact q) q0 z2
theorem U6 [DFlag] {P:Program}{σ:List (Option Nat)}{h:H}{w:World}(hr:HRel P B A0 σ h w):∀m,HRel P B A0 (σ++List.replicate m none) (h++List.replicate m .void) w/\Step P B A0 σ h w (σ++List.replicate m none) (h++List.replicate m .void) w:=by
 intro m;induction m with
 |zero=>simpa using⟨hr,Step.refl _ _ _⟩
 |succ m d=>
  have⟨a,f⟩:=d;have c:∀b,(none:Option Nat)=some b->w.heap.size<=b:=λb g=>by cases g
  have i:=HRel.push a (.refl w) .void none c (λk st e=>by cases e) (λu l e=>by cases e) (λL st e=>by cases e) (λn e=>by cases e);have j:=Step.push a (.refl w) .void none c;rw[List.replicate_succ',List.replicate_succ',<-List.append_assoc,<-List.append_assoc];exact⟨i,f.trans j⟩
end
end Go.V
