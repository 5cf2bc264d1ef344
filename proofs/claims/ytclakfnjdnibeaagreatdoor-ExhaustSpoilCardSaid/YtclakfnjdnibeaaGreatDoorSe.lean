/- A part of the proof. -/
import Derived.Test.YtclakfnjdnibeaaGreatDoorSd
import Derived.Test.YtclakfnjdnibeaaGreatDoorV35
set_option maxHeartbeats 8000000
set_option maxRecDepth 8000
namespace TL
def qo:ByteArray:=⟨#[112,97,105,114]⟩
def vQ:ByteArray:=⟨#[101,110,99]⟩
def pH:ByteArray:=⟨#[97,101,110,99]⟩
def nPk:ByteArray:=⟨#[112,107]⟩
def pG:ByteArray:=⟨#[115,105,103,110]⟩
def Ec:ByteArray:=⟨#[104,97,115,104]⟩
def iu(t:T) (n:ByteArray):Bool:=decide (t.kind=3)&&decide (t.name=n)
def bld(t:T):Bool:=decide (t.kind=3)&&(decide (t.name=qo)||decide (t.name=vQ)||decide (t.name=pH)||decide (t.name=nPk)||decide (t.name=pG)||decide (t.name=Ec))
def rf(t:T):Option T:=
 if iu t vQ=true then t.kids[1]?
 else if iu t pH=true then(t.kids[1]?).bind λp=>if iu p nPk=true then p.kids[0]? else none
 else none
inductive Prt:T->T->Lq->Prop where
 |pair {t u:T}:iu t qo=true->u∈t.kids->Prt t u []
 |sign {t u:T}:iu t pG=true->t.kids[0]?=some u->Prt t u []
 |key {t u k:T}:rf t=some k->t.kids[0]?=some u->Prt t u [k]
inductive Dr (P:T->Prop) (K:T->Prop):T->Prop where
 |ax {t:T}:K t->Dr P K t
 |pub {t:T}:P t->Dr P K t
 |bld {t:T}:bld t=true->(∀k∈t.kids,Dr P K k)->Dr P K t
 |opn {t u:T}{ks:Lq}:Dr P K t->Prt t u ks->(∀k∈ks,Dr P K k)->Dr P K u
theorem ea{t:T}{n:ByteArray}(h:iu t n=true):t.kind=3/\t.name=n:=by simpa[iu]using h
theorem qu{t k:T}(h:rf t=some k):t.kind=3/\(t.name=vQ\/t.name=pH):=by
 unfold rf at h;split at h
 ·rename_i e;exact⟨(ea e).1,.inl (ea e).2⟩
 split at h
 ·rename_i e;exact⟨(ea e).1,.inr (ea e).2⟩
 cases h
theorem Ig{t u:T}{ks:Lq}(h:Prt t u ks):u∈t.kids:=by
 cases h with
 |pair _ h=>exact h
 |sign _ h=>exact ai h
 |key _ h=>exact ai h
theorem QW{t u:T}{ks:Lq}(h:Prt t u ks):bld t=true:=by
 cases h with
 |pair a _=>simp[TL.bld,(ea a).1,(ea a).2]
 |sign a _=>simp[TL.bld,(ea a).1,(ea a).2]
 |key a _=>rcases qu a with⟨c,b|b⟩<;>simp[TL.bld,c,b]
inductive Rt (P:T->Prop) (X:T->Prop):T->Prop where
 |mem {t:T}:X t->Rt P X t
 |pub {t:T}:P t->Rt P X t
 |bld {t:T}:bld t=true->(∀k∈t.kids,Rt P X k)->Rt P X t
theorem uQ(k:Int) (n:ByteArray) (s:Int) (l:Lq):(T.mk k n s l).kind=k:=rfl
theorem uL(k:Int) (n:ByteArray) (s:Int) (l:Lq):(T.mk k n s l).name=n:=rfl
theorem Iy(k:Int) (n:ByteArray) (s:Int) (l:Lq):(T.mk k n s l).kids=l:=rfl
theorem Kf{P K S X:T->Prop}(hSk:∀t,S t->∀k∈t.kids,S k) (hSp:∀t u ks,S t->Prt t u ks->∀k∈ks,S k)
  (hXS:∀t,X t->S t) (hK:∀t,K t->X t) (hP:∀t,S t->P t->X t) (hB:∀t,S t->bld t=true->(∀k∈t.kids,X k)->X t)
  (hO:∀t u ks,X t->Prt t u ks->(∀k∈ks,X k)->X u) (hPb:∀t,P t->bld t=false){t:T}(h:Dr P K t) (hS:S t):X t:=by
 have j:∀t,Rt P X t->S t->X t:=λt h=>by
  induction h with
  |mem h=>exact λ_=>h
  |pub h=>exact λb=>hP _ b h
  |bld c _ e=>exact λb=>hB _ b c λk a=>e k a (hSk _ b k a)
 have m:Rt P X t:=by
  clear hS;induction h with
  |ax h=>exact .mem (hK _ h)
  |pub h=>exact .pub h
  |bld c _ e=>exact .bld c λk a=>e k a
  |opn o d n f g=>
   rename_i t u ks;have:=QW d;cases f with
   |mem l=>exact .mem (hO _ _ _ l d λk a=>j k (g k a) (hSp _ _ _ (hXS _ l) d k a))
   |pub i=>rw[hPb _ i]at this;cases this
   |bld c a=>exact a u (Ig d)
 exact j t m hS
theorem ON{P K K':T->Prop}{f:T->T}(hf:∀t:T,t.kind=3->f t=.mk 3 t.name t.sort (t.kids.map f)) (hK:∀t,K t->Dr P K' (f t)) (hP:∀t,P t->Dr P K' (f t)){t:T}(h:Dr P K t):Dr P K' (f t):=by
 have c:∀t n,iu t n=true->iu (f t) n=true:=λt n h=>by have:=ea h;rw[hf t this.1];simp[iu,uQ,uL,this.2]
 have b:∀t:T,t.kind=3->(f t).kids=t.kids.map f:=λt h=>by rw[hf t h];rfl
 have g:∀t k,rf t=some k->rf (f t)=some (f k):=λt k h=>by
  have d:=(qu h).1;unfold rf at h ⊢;rw[b t d];by_cases j:iu t vQ=true
  ·rw[if_pos j]at h;rw[if_pos (c _ _ j),ba,h];rfl
  rw[if_neg j]at h;have:¬iu (f t) vQ=true:=by intro e;apply j;have:=ea e;rw[hf t d,uL]at this;simp[iu,d,this.2]
  rw[if_neg this];by_cases q:iu t pH=true
  ·rw[if_pos q]at h;rw[if_pos (c _ _ q),ba];cases l:t.kids[1]? with
   |none=>rw[l]at h;cases h
   |some p=>
    rw[l]at h;simp only[cn,bq]at h ⊢;by_cases o:iu p nPk=true
    ·rw[if_pos o]at h;rw[if_pos (c _ _ o),b p (ea o).1,ba,h];rfl
    rw[if_neg o]at h;cases h
  rw[if_neg q]at h;cases h
 have i:∀t u r,Prt t u r->Prt (f t) (f u) (r.map f):=λt u r h=>by
  cases h with
  |pair a m=>exact .pair (c _ _ a) (by rw[b t (ea a).1];exact lH m)
  |sign a m=>exact .sign (c _ _ a) (by rw[b t (ea a).1,ba,m];rfl)
  |key a m=>exact .key (g _ _ a) (by rw[b t (qu a).1,ba,m];rfl)
 induction h with
 |ax h=>exact hK _ h
 |pub h=>exact hP _ h
 |bld s _ A=>
  rename_i t _;have d:t.kind=3:=by have:=s;simp only[TL.bld,am,decide_eq_true_eq]at this;exact this.1
  refine .bld (t:=f t) (by rw[hf t d,TL.bld,uQ,uL];rw[TL.bld,d]at s;exact s) ?_;rw[b t d];intro k v;obtain⟨w,x,rfl⟩:=bV.1 v;exact A w x
 |opn _ l _ y z=>
  refine .opn y (i _ _ _ l) λk v=>?_
  obtain⟨w,x,rfl⟩:=bV.1 v;exact z w x
theorem qQ(t:T):T.mk t.kind t.name t.sort t.kids=t:=by cases t;rfl
theorem vY{P K K':T->Prop}(hK:∀t,K t->Dr P K' t){t:T}(h:Dr P K t):Dr P K' t:=
 ON (f:=id) (λt h=>by rw[List.map_id,<-h];exact(qQ t).symm) hK (λ_ h=>.pub h) h
end TL
namespace Go.VZ
open Go Go.V Go.Proofs Tryz TL
def after(θ:T->T) (l:Lb):T->T:=λx=>oc θ (fk l x)
theorem om{θ:T->T}{l:Lb}:∀t:T,oc (after θ l) t=oc θ (dK l t):=by
 refine T.ind λt b=>?_
 rw[jM];by_cases k:t.kind=1
 ·rw[if_pos k,F5 k];rfl
 rw[if_neg k,qz (t:=.mk t.kind t.name t.sort (t.kids.map (dK l))) k,qz k];change _=T.mk t.kind t.name t.sort ((t.kids.map (dK l)).map (oc θ));rw[jx];congr 1
 exact lI λa c=>b a c
structure Dm where
 knows:Lq
 term:T
def Sol(P:T->Prop) (θ:T->T) (l:List Dm):Prop:=∀d∈l,Dr P (λt=>∃k∈d.knows,t=oc θ k) (oc θ d.term)
def pe(s:Lb) (d:Dm):Dm:=⟨d.knows.map (dK s),dK s d.term⟩
theorem QI{P:T->Prop}{θ:T->T}{s:Lb}{l:List Dm}(h:Sol P θ (l.map (pe s))):Sol P (after θ s) l:=λd b=>by have:=h _ (lH b);rw[om];refine vY (λt c=>?_) this;obtain⟨k,e,rfl⟩:=c;obtain⟨a,f,rfl⟩:=bV.1 e;exact .ax ⟨a,f,(om a).symm⟩
theorem PG{t:T}(h:bld t=true):t.kind=3:=by simp only[TL.bld,am,decide_eq_true_eq]at h;exact h.1
theorem SX{θ:T->T}{t:T}(h:bld t=true):bld (oc θ t)=true/\(oc θ t).kids=t.kids.map (oc θ):=by have k:=PG h;rw[qz o_];exact⟨by rw[TL.bld]at h ⊢;exact h,rfl⟩
theorem Jz{P:T->Prop}{θ:T->T}{pre post:List Dm}{d:Dm}(hb:bld d.term=true) (h:Sol P θ (pre++(d.term.kids.map (Dm.mk d.knows)++post))):Sol P θ (pre++d::post):=λe c=>by
 rcases ac.1 c with c|c
 ·exact h e (dN _ c)
 rcases ao.1 c with rfl|c
 ·have⟨a,b⟩:=SX (θ:=θ) hb;refine .bld a λk f=>?_
  rw[b]at f;obtain⟨g,i,rfl⟩:=bV.1 f;exact h ⟨e.knows,g⟩ (de _ (dN _ (lH i)))
 exact h e (de _ (de _ c))
mutual
def EC(θ:T->T) (z:Lb):T->T
 |.mk k n s l=>match z.find? λb=>decide (b.2.cmp (.mk k n s l)=0)with
  |some b=>θ b.1
  |none=>if k=3 then .mk 3 n s (IR θ z l)else .mk k n s l
def IR(θ:T->T) (z:Lb):Lq->Lq
 |[]=>[]
 |t::l=>EC θ z t::IR θ z l
end
theorem Bf(θ:T->T) (z:Lb):∀l,IR θ z l=l.map (EC θ z)
 |[]=>rfl
 |t::l=>by rw[IR,Bf θ z l];rfl
theorem vu(θ:T->T) (z:Lb) (t:T):EC θ z t=match z.find? λb=>decide (b.2.cmp t=0)with
  |some b=>θ b.1
  |none=>if t.kind=3 then .mk 3 t.name t.sort (t.kids.map (EC θ z))else t:=by cases t;rw[EC,Bf];rfl
def CI(z:Lb) (t:T):Prop:=∀y∈cZ bY t,y.kind=1/\y.kids=[]/\(∃b∈z,b.1=y)\/y.kind=2/\y.kids=[]/\(∀b∈z,b.2≠y)\/y.kind=3
def RA(z:Lb):Prop:=(∀b∈z,b.2.kind=2)/\z.Pairwise λb c=>b.2≠c.2
theorem uC{z:Lb}{t:T}(h:∀b∈z,b.2≠t):z.find? (λb=>decide (b.2.cmp t=0))=none:=by rw[List.find?_eq_none];intro b a e;exact h b a (cmp_zero.1 (by simpa using e))
theorem EB:∀ {z:Lb}{v:T},RA z->(∃b∈z,b.1=v)->∃b,z.find? (λb=>decide (b.2.cmp (fk z v)=0))=some b/\b.1=v
 |[],v,_,⟨b,hb,_⟩=>by simp at hb
 |c::z,v,hz,hv=>by
  have⟨hk,hp⟩:=hz;rw[cR]at hp;rw[fk];by_cases e:c.1.cmp v=0
  ·rw[if_pos e];exact⟨c,by rw[List.find?_cons_of_pos];simp[cmp_zero],cmp_zero.1 e⟩
  rw[if_neg e];have a:∃b∈z,b.1=v:=by
   have⟨b,hb,h⟩:=hv;rcases ao.1 hb with rfl|hb
   ·exact absurd (cmp_zero.2 h) e
   exact⟨b,hb,h⟩
  have⟨b,d,hb⟩:=EB (z:=z) ⟨λb hb=>hk b (bZ _ hb),hp.2⟩ a;refine⟨b,?_,hb⟩;rw[List.find?_cons_of_neg,d];have f:=List.mem_of_find?_eq_some d;have g:=List.find?_some d;have i:b.2=fk z v:=cmp_zero.1 (by simpa using g);have:=hp.1 b f;simp only[decide_eq_true_eq,cmp_zero];rw[<-i];exact this
theorem zh{θ:T->T}{z:Lb}(hz:RA z):∀t:T,CI z t->EC θ z (dK z t)=oc θ t:=by
 refine T.ind λt h f=>?_
 rcases f t (fT t)with⟨k,d,c⟩|⟨k,d,c⟩|k
 ·rw[jM,if_pos k,F5 k,vu];have⟨b,i,e⟩:=EB hz c;rw[i,<-e]
 ·rw[jM,if_neg o_,qz o_,d,bD,bD];have:T.mk t.kind t.name t.sort []=t:=by rw[<-d];exact qQ t
  rw[this,vu,uC c];dsimp only;rw[if_neg o_]
 rw[jM,if_neg o_,qz o_,vu,uC (λb c e=>by have:=hz.1 b c;rw[e,uQ]at this;omega)];dsimp only;rw[uQ,if_pos k,uL,Iy,jx,k];congr 1
 exact lI λa g=>h a g λy j=>f y (mem_walk.2 (.inr ⟨a,g,j⟩))
theorem Mg{P:T->Prop}{θ:T->T}{z:Lb}{pre post:List Dm}{d:Dm}(hz:RA z) (hP:∀t,P t->t.kind=2\/t.kind=3/\t.kids=[]) (hPz:∀b∈z,¬P b.2)
  (hk:∀e∈pre,∀k∈e.knows,k∈d.knows) (ho:∀k∈d.knows,CI z k) (hoe:∀e∈pre,CI z e.term) (hot:CI z d.term)
  (hd:Dr P (λt=>∃k,(k∈d.knows\/∃e∈pre,k=e.term)/\t=dK z k) (dK z d.term)) (h:Sol P θ (pre++post)):Sol P θ (pre++d::post):=λe g=>by
 rcases ac.1 g with g|g
 ·exact h e (dN _ g)
 rcases ao.1 g with rfl|g
 ·rw[<-zh hz _ hot];refine ON (f:=EC θ z) (λt a=>?_) (λt a=>?_) (λt a=>?_) hd
  ·rw[vu,uC (λb j e=>by have:=hz.1 b j;rw[e]at this;omega)];dsimp only;rw[if_pos a]
  ·obtain⟨k,c|⟨l,i,rfl⟩,rfl⟩:=a
   ·rw[zh hz _ (ho k c)];exact .ax ⟨k,c,rfl⟩
   rw[zh hz _ (hoe l i)];refine vY (λt a=>?_) (h l (dN _ i));obtain⟨k,c,rfl⟩:=a;exact .ax ⟨k,hk l i k c,rfl⟩
  have n:∀b∈z,b.2≠t:=λb j e=>hPz b j (by rw[e];exact a)
  have:EC θ z t=t:=by
   rw[vu,uC n];dsimp only;rcases hP t a with k|⟨k,m⟩
   ·rw[if_neg o_]
   rw[if_pos k,m,bD,<-k,<-m];exact qQ t
  rw[this];exact .pub a
 exact h e (de _ g)
def B4:ByteArray:=⟨#[122,101,114,111]⟩
def KX:ByteArray:=⟨#[111,110,101]⟩
def EU(n:ByteArray):Bool:=decide (3<=n.size)&&decide (n.data.toList.take 2=[101,35])&&(n.data.toList.drop 2).all λc=>decide (48<=c)&&decide (c<=57)
def sW(t:T):Bool:=
 if t.kind=3 then(decide (t.name=B4)||decide (t.name=KX))&&decide (t.kids.length=0)
 else if t.kind=2 then decide (t.sort=1)||decide (t.sort=5)||(decide (t.name=⟨#[103]⟩)&&decide (t.sort=4))||((decide (t.sort=2)||decide (t.sort=3)||decide (t.sort=4)||decide (t.sort=0))&&EU t.name)
 else false
theorem M1{t:T}(h:sW t=true):t.kind=2\/t.kind=3/\t.kids=[]:=by
 unfold sW at h;split at h
 ·rename_i k;simp only[am,decide_eq_true_eq]at h;exact .inr ⟨k,List.length_eq_zero_iff.1 h.2⟩
 split at h
 ·rename_i k;exact .inl k
 cases h
theorem QU{t:T}(h:sW t=true):bld t=false:=by
 unfold sW at h;split at h
 ·simp only[am,bo,decide_eq_true_eq]at h;rw[TL.bld];rcases h.1 with e|e<;>rw[e]<;>simp[qo,vQ,pH,nPk,pG,Ec,B4,KX]
 rename_i k;rw[TL.bld];simp[k]
def AQ(u:Lq) (kn:List Bool) (t:T):Prop:=∃j:Nat,u[j]?=some t/\kn[j]?=some true
def FN(u:Lq) (kn:List Bool) (t:T):Prop:=(sW t=true->AQ u kn t)/\(bld t=true->(∀k∈t.kids,AQ u kn k)->AQ u kn t)/\(AQ u kn t->∀v ks,Prt t v ks->(∀k∈ks,AQ u kn k)->AQ u kn v)
theorem Ep{t k:T}(h:rf t=some k):k∈t.kids\/∃p∈t.kids,k∈p.kids:=by
 unfold rf at h;split at h
 ·exact .inl (ai h)
 split at h
 ·cases a:t.kids[1]? with
  |none=>rw[a]at h;cases h
  |some p=>
   rw[a]at h;simp only[cn]at h;split at h
   ·exact .inr ⟨p,ai a,ai h⟩
   cases h
 cases h
theorem Kk{K:T->Prop}{u:Lq}{kn:List Bool}(hu:∀t∈u,∀k∈t.kids,k∈u) (hK:∀t,K t->AQ u kn t) (hc:∀t∈u,FN u kn t){t:T}(h:Dr (λt=>sW t=true) K t) (ht:t∈u):AQ u kn t:=
 Kf (S:=λt=>t∈u) (X:=AQ u kn) (λt ht k b=>hu t ht k b)
  (λt v e ht c k b=>by
   cases c with
   |pair _ _=>simp at b
   |sign _ _=>simp at b
   |key a _=>
    simp only[bJ]at b;subst b;rcases Ep a with h|⟨p,c,h⟩
    ·exact hu t ht _ h
    exact hu p (hu t ht p c) _ h)
  (λt ⟨j,d,_⟩=>ai d) hK (λt ht c=>(hc t ht).1 c) (λt ht f b=>(hc t ht).2.1 f b)
  (λt v e ht c b=>(hc t (by have⟨j,d,_⟩:=ht;exact ai d)).2.2 ht v e c b) (λt=>QU) h ht
def inS(s:Lb) (v:T):Bool:=s.any λc=>decide (c.1.cmp v=0)
def wb(s u:Lb):Lb:=(s.map λb=>(b.1,dK u b.2))++u.filter λb=>!inS s b.1
def lO(s u:Lb):Lb:=(wb s u).foldl mu []
theorem inS_iff{s:Lb}{v:T}:inS s v=true↔v∈s.map (·.1):=by simp only[inS,nV,decide_eq_true_eq,bV];exact⟨λ⟨c,a,e⟩=>⟨c,a,cmp_zero.1 e⟩,λ⟨c,a,e⟩=>⟨c,a,cmp_zero.2 e⟩⟩
theorem Kv{l:Lb}{v:T}(h:v∉l.map (·.1)):fk l v=v:=by
 induction l with
 |nil=>rfl
 |cons a l b=>simp only[aS,ao,not_or]at h;rw[fk,if_neg (λe=>h.1 (cmp_zero.1 e).symm),b h.2]
theorem Ny(l m:Lb) (v:T):fk (l++m) v=if inS l v=true then fk l v else fk m v:=by
 induction l with
 |nil=>simp[inS]
 |cons a l b=>
  rw[cP,fk,fk];by_cases e:a.1.cmp v=0
  ·rw[if_pos e,if_pos (by simp[inS,e]),if_pos e]
  rw[if_neg e,if_neg e,b];have:inS (a::l) v=inS l v:=by simp[inS,e]
  rw[this]
theorem Ez(u:Lb):∀(s:Lb) (v:T),inS s v=true->fk (s.map λb=>(b.1,dK u b.2)) v=dK u (fk s v)
 |[],v,h=>by simp[inS]at h
 |a::s,v,h=>by
  rw[aS,fk,fk];by_cases e:a.1.cmp v=0
  ·rw[if_pos e,if_pos e]
  rw[if_neg e,if_neg e];exact Ez u s v (by simpa[inS,e]using h)
theorem xc{s:Lb}:∀(u:Lb) (v:T),inS s v=false->fk (u.filter λb=>!inS s b.1) v=fk u v
 |[],_,_=>rfl
 |a::u,v,h=>by
  by_cases e:a.1.cmp v=0
  ·have e':=cmp_zero.1 e;rw[ja (by rw[e',h];rfl),fk,fk,if_pos e,if_pos e]
  rw[fk,if_neg e];by_cases q:(!inS s a.1)=true
  ·rw[ja (p:=λb:T × T=>!inS s b.1) q,fk,if_neg e,xc u v h]
  rw[mL (p:=λb:T × T=>!inS s b.1) q,xc u v h]
theorem yY{s u:Lb}(hs:(s.map (·.1)).Nodup) (hu:(u.map (·.1)).Nodup):((wb s u).map (·.1)).Nodup:=by rw[wb,br,List.nodup_append];refine⟨by rw[jx];exact hs,hu.sublist ((oS).map _),?_⟩;intro a f b g e;subst e;rw[jx]at f;obtain⟨c,d,rfl⟩:=bV.1 g;rw[cO]at d;have:inS s c.1=true:=inS_iff.2 f;rw[this]at d;simp at d
theorem Nx{s u:Lb}(hs:(s.map (·.1)).Nodup) (hu:(u.map (·.1)).Nodup){v:T}(hv:v.kind=1):fk (lO s u) v=dK u (fk s v):=by
 rw[lO,HJ (yY hs hu),wb,Ny];have a:inS (s.map λb=>(b.1,dK u b.2)) v=inS s v:=by simp[inS,List.any_map,Function.comp_def]
 rw[a];by_cases h:inS s v=true
 ·rw[if_pos h,Ez u s v h]
 rw[if_neg h,xc u v (by simpa using h),Kv (λe=>h (inS_iff.2 e)),jM,if_pos hv]
theorem Mz{s u:Lb}(hs:(s.map (·.1)).Nodup) (hu:(u.map (·.1)).Nodup):∀t:T,dK (lO s u) t=dK u (dK s t):=by
 refine T.ind λt b=>?_
 by_cases k:t.kind=1
 ·rw[jM,if_pos k,Nx hs hu k,jM s t,if_pos k]
 rw[jM,if_neg k,jM s t,if_neg k,jM u,uQ,if_neg k,uL,Iy,jx];congr 1
 exact lI λa c=>b a c
theorem Mh{P:T->Prop}{θ:T->T}{s u:Lb}{l:List Dm}(hs:(s.map (·.1)).Nodup) (hu:(u.map (·.1)).Nodup) (h:Sol P (after (after θ u) s) l):Sol P (after θ (lO s u)) l:=by
 have e:∀t,oc (after θ (lO s u)) t=oc (after (after θ u) s) t:=λt=>by rw[om,om,om,Mz hs hu]
 intro d a;rw[e];refine vY (λt b=>?_) (h d a);obtain⟨k,c,rfl⟩:=b;exact .ax ⟨k,c,(e k).symm⟩
def nf(bad:ByteArray->Bool) (t:T):Prop:=∀y∈cZ bY t,y.kind=3->bad y.name=false
theorem xQ{bad:ByteArray->Bool}{t k:T}(h:nf bad t) (hk:k∈t.kids):nf bad k:=λy a=>h y (mem_walk.2 (.inr ⟨k,hk,a⟩))
theorem TH{bad:ByteArray->Bool}{t:T}{l:Lq}(h:nf bad t) (hl:∀k∈l,nf bad k):nf bad (.mk t.kind t.name t.sort l):=λy a=>by
 rcases mem_walk.1 a with rfl|⟨k,b,a⟩
 ·exact h t (fT t)
 exact hl k b y a
theorem C4{bad:ByteArray->Bool}{x y:T}(hy:nf bad y):∀t:T,nf bad t->nf bad (jc x y t):=by
 refine T.ind λt b h=>?_
 rw[zG];split
 ·exact hy
 refine TH h λk c=>?_
 obtain⟨d,a,rfl⟩:=bV.1 c;exact b d a (xQ h a)
theorem UY{bad:ByteArray->Bool}{u:Lb}(hu:∀b∈u,nf bad b.2){v:T}(hv:nf bad v):nf bad (fk u v):=by
 rcases AW u v with e|⟨b,a,_,e⟩
 ·rw[e];exact hv
 rw[e];exact hu b a
theorem NG{bad:ByteArray->Bool}{u:Lb}(hu:∀b∈u,nf bad b.2):∀t:T,nf bad t->nf bad (dK u t):=by
 refine T.ind λt c h=>?_
 rw[jM];split
 ·exact UY hu h
 refine TH h λk d=>?_
 obtain⟨e,a,rfl⟩:=bV.1 d;exact c e a (xQ h a)
theorem Qb{bad:ByteArray->Bool}{s u:Lb}(hs:∀b∈s,nf bad b.2) (hu:∀b∈u,nf bad b.2):∀b∈lO s u,nf bad b.2:=λb a=>by
 have:=(nK (wb s u) []).mem_iff.1 a;rw[bk,cO,wb,ac]at this;rcases this.1 with h|h
 ·obtain⟨c,d,rfl⟩:=bV.1 h;exact NG hu _ (hs c d)
 exact hu b (cO.1 h).1
theorem Hn{a b x y:T}(h:kz a b=.ok x y):y=a\/y=b:=by
 have d:∀u v:T,HM u v=.ok x y->y=v:=λu v c=>by
  unfold HM at c;split at c
  ·cases c
  split at c
  ·cases c
  simp only[Ch.ok.injEq]at c;exact c.2.symm
 unfold kz at h;split at h
 ·split at h
  ·split at h
   ·simp only[Ch.ok.injEq]at h;exact .inl h.2.symm
   split at h
   ·cases h
   simp only[Ch.ok.injEq]at h;exact .inr h.2.symm
  exact .inr (d a b h)
 split at h
 ·exact .inl (d b a h)
 cases h
theorem Cp{bad:ByteArray->Bool}{ins:T × T->Lb->Lb}(hins:∀b s c,c∈ins b s->c=b\/c∈s):∀(n:Nat) (ps s r:Lb) (e:Int),(∀p∈ps,nf bad p.1/\nf bad p.2)->(∀b∈s,nf bad b.2)->kB ins n ps s=some (r,e)->∀b∈r,nf bad b.2
 |n,[],s,r,e,_,hs,h=>by simp only[kB,aA,aD]at h;obtain⟨rfl,_⟩:=h;exact hs
 |0,_::_,s,r,e,_,_,h=>by simp[kB]at h
 |n+1,(a,b)::ps,s,r,e,hp,hs,h=>by
  have f:=hp (a,b) (cJ);have g:∀p∈ps,nf bad p.1/\nf bad p.2:=λp d=>hp p (bZ _ d)
  rw[kB]at h;by_cases m:a.cmp b=0
  ·rw[if_pos m]at h;exact Cp hins n ps s r e g hs h
  rw[if_neg m]at h;by_cases o:jY a b=true
  ·rw[if_pos o]at h;refine Cp hins n _ s r e (λp d=>?_) hs h;rcases ac.1 d with d|d
   ·have:=eK d;exact⟨xQ f.1 this.1,xQ f.2 this.2⟩
   exact g p d
  rw[if_neg o]at h;cases k:kz a b with
  |bad u=>rw[k]at h;simp only[aA,aD]at h;obtain⟨rfl,_⟩:=h;intro b l;simp at l
  |ok x y=>
   rw[k]at h;dsimp only at h;have i:nf bad y:=by
    rcases Hn k with rfl|rfl
    ·exact f.1
    exact f.2
   by_cases t:okU x y ps s=true
   ·rw[if_pos t]at h;refine Cp hins n _ _ r e (λp d=>?_) (λc d=>?_) h
    ·obtain⟨q,j,rfl⟩:=bV.1 d;exact⟨C4 i _ (g q j).1,C4 i _ (g q j).2⟩
    rcases hins _ _ _ d with rfl|d
    ·exact i
    obtain⟨q,j,rfl⟩:=bV.1 d;exact C4 i _ (hs q j)
   rw[if_neg t]at h;simp only[aA,aD]at h;obtain⟨rfl,_⟩:=h;intro b l;simp at l
structure Sy where
 name:ByteArray
 least:Int
 most:Int
 kind:Int
def Qd:ByteArray:=⟨#[120,111,114]⟩
def Qg:ByteArray:=⟨#[101,120,112]⟩
def Qe:ByteArray:=⟨#[109,117,108]⟩
def Qf:ByteArray:=⟨#[105,110,118]⟩
def nSk:ByteArray:=⟨#[115,107]⟩
def Gy:ByteArray:=⟨#[115,104,107]⟩
def vP:ByteArray:=⟨#[110,101,119]⟩
def aAh:ByteArray:=⟨#[102,115,116]⟩
def aAg:ByteArray:=⟨#[115,110,100]⟩
def aAi:ByteArray:=⟨#[100,101,99]⟩
def XV:ByteArray:=⟨#[97,100,101,99]⟩
def XU:ByteArray:=⟨#[111,112,101,110]⟩
def XT:ByteArray:=⟨#[114,101,97,100]⟩
def syms:List Sy:=[⟨qo,2,2,1⟩,⟨vQ,2,2,1⟩,⟨pH,2,2,1⟩,⟨nPk,1,1,1⟩,⟨pG,2,2,1⟩,⟨Ec,1,1,1⟩,⟨Qd,2,8,1⟩,⟨B4,0,0,1⟩,⟨Qg,2,2,1⟩,⟨Qe,2,8,1⟩,⟨Qf,1,1,1⟩,⟨KX,0,0,1⟩,⟨nSk,1,1,2⟩,⟨Gy,2,2,2⟩,⟨vP,1,8,2⟩,⟨aAh,1,1,3⟩,⟨aAg,1,1,3⟩,⟨aAi,2,2,3⟩,⟨XV,2,2,3⟩,⟨XU,2,2,3⟩,⟨XT,1,1,3⟩]
def sP(n:ByteArray):Option Sy:=syms.find? λs=>decide (s.name=n)
def oT(n:ByteArray):Int:=((sP n).map Sy.kind).getD 0
def mJ(t:T):Bool:=match sP t.name with
 |some s=>decide (s.least<=(t.kids.length:Int))&&decide ((t.kids.length:Int)<=s.most)
 |none=>false
def lZ(t:T):Bool:=if t.name=vP then decide (((t.kids[0]?).map T.kind).getD 0=2)else t.kids.all λk=>decide (k.kind≠3)&&decide (k.sort=1)
mutual
def gK:T->Int
 |.mk k n s l=>if k≠3 then 0 else if oT n=0 then 10 else if mJ (.mk k n s l)=false then 6 else if oT n=2/\lZ (.mk k n s l)=false then 10 else jN l
def jN:Lq->Int
 |[]=>0
 |t::l=>thn (gK t) (jN l)
end
theorem uK(t:T):gK t=if t.kind≠3 then 0 else if oT t.name=0 then 10 else if mJ t=false then 6 else if oT t.name=2/\lZ t=false then 10 else jN t.kids:=by cases t;rw[gK];rfl
def dy(t:T):Int:=thn (bh t) (gK t)
def D4(n:ByteArray):Bool:=decide (n=Qd)||decide (n=B4)||decide (n=Qg)||decide (n=Qe)||decide (n=Qf)||decide (n=KX)
def gZ(n:ByteArray):Bool:=D4 n||decide (oT n=3)
def uw(t:T):Bool:=decide (dy t=0)&&(cZ bY t).all λy=>!(decide (y.kind=3)&&gZ y.name)
theorem RC{t:T}(h:uw t=true):dy t=0/\nf gZ t:=by simp only[uw,am,decide_eq_true_eq,bI,cN,kJ,decide_eq_false_iff_not]at h;exact⟨h.1,λy a k=>by exact(h.2 y a).elim (λe=>absurd k e) id⟩
def eS(t:T):Int:=if dy t≠0 then dy t else if((ez t).any λv=>decide (v.sort=1)||decide (v.sort=5))=true then 10 else if uw t=false then 10 else if 60<t.size then 3 else 0
def pC:Lq->Int
 |[]=>0
 |t::l=>if eS t≠0 then eS t else pC l
def mF(d:Dm):Int:=if 40<d.knows.length then 3 else if pC d.knows≠0 then pC d.knows else eS d.term
def kr(l:Lq) (t:T):Bool:=l.any λu=>decide (u.cmp t=0)
theorem memE_iff{l:Lq}{t:T}:kr l t=true↔t∈l:=by simp only[kr,nV,decide_eq_true_eq];exact⟨λ⟨u,a,e⟩=>cmp_zero.1 e▸a,λh=>⟨t,h,cmp_zero.2 rfl⟩⟩
def mS(prev bound:Lq) (d:Dm):Int:=if mF d≠0 then mF d else if(prev.all (kr d.knows))=false then 9 else if((dv d.knows).all (kr bound))=false then 13 else 0
def kQ:Lq->Lq->List Dm->Int
 |_,_,[]=>0
 |prev,bound,d::l=>if mS prev bound d≠0 then mS prev bound d else kQ d.knows (bound++ez d.term) l
def cD(l:List Dm):Int:=if 40<l.length then 3 else kQ [] [] l
theorem iI{t:T}(h:eS t=0):dy t=0/\(∀v∈ez t,v.sort≠1/\v.sort≠5)/\nf gZ t/\t.size<=60:=by
 unfold eS at h;split at h
 ·rename_i e;exact absurd h e
 rename_i e;split at h
 ·cases h
 rename_i a;split at h
 ·cases h
 rename_i b;split at h
 ·cases h
 rename_i d;refine⟨Decidable.not_not.1 e,λv c=>?_,(RC (by simpa using b)).2,o_⟩;simp only[nV,bo,decide_eq_true_eq,not_exists,not_and,not_or]at a;exact a v c
theorem yI:∀ {l:Lq},pC l=0->∀t∈l,eS t=0
 |[],_,t,ht=>by simp at ht
 |a::l,h,t,ht=>by
  rw[pC]at h;split at h
  ·rename_i e;exact absurd h e
  rename_i e;rcases ao.1 ht with rfl|ht
  ·exact Decidable.not_not.1 e
  exact yI h t ht
theorem pD{d:Dm}(h:mF d=0):d.knows.length<=40/\(∀t∈d.knows,eS t=0)/\eS d.term=0:=by
 unfold mF at h;split at h
 ·cases h
 rename_i e;split at h
 ·rename_i a;exact absurd h a
 rename_i a;exact⟨o_,yI (Decidable.not_not.1 a),h⟩
theorem Bk{prev bound:Lq}{d:Dm}(h:mS prev bound d=0):mF d=0/\(∀k∈prev,k∈d.knows)/\∀v∈dv d.knows,v∈bound:=by
 unfold mS at h;split at h
 ·rename_i e;exact absurd h e
 rename_i e;split at h
 ·cases h
 rename_i a;split at h
 ·cases h
 rename_i b;simp only[iy,bI,memE_iff]at a b;exact⟨Decidable.not_not.1 e,a,b⟩
theorem uj:∀ {l:List Dm}{prev bound:Lq},kQ prev bound l=0->∀pre d post,l=pre++d::post->mF d=0/\(∀k∈prev,k∈d.knows)/\∀e∈pre,∀k∈e.knows,k∈d.knows
 |[],_,_,_,pre,d,post,e=>by simp at e
 |a::l,prev,bound,h,pre,d,post,e=>by
  rw[kQ]at h;split at h
  ·rename_i e1;exact absurd h e1
  rename_i e1;have hs:=Bk (Decidable.not_not.1 e1);cases pre with
  |nil=>simp only[bk,bw]at e;obtain⟨rfl,rfl⟩:=e;exact⟨hs.1,hs.2.1,s_⟩
  |cons b pre=>
   simp only[cP,bw]at e;obtain⟨rfl,rfl⟩:=e;have c:=uj h pre d post rfl;refine⟨c.1,λk f=>c.2.1 k (hs.2.1 k f),λx g k f=>?_⟩;rcases ao.1 g with rfl|g
   ·exact c.2.1 k f
   exact c.2.2 x g k f
theorem mO{l:List Dm}(h:cD l=0):l.length<=40/\∀pre d post,l=pre++d::post->mF d=0/\∀e∈pre,∀k∈e.knows,k∈d.knows:=by
 unfold cD at h;split at h
 ·cases h
 exact⟨o_,λpre d post e=>by have:=uj h pre d post e;exact⟨this.1,this.2.2⟩⟩
theorem se{l:List Dm}(h:cD l=0){d:Dm}(hd:d∈l):mF d=0:=by have⟨b,a,e⟩:=List.append_of_mem hd;exact((mO h).2 b d a e).1
def bp(l:List Dm):Lq:=l.flatMap λd=>d.knows++[d.term]
theorem qI{l:List Dm}(h:cD l=0):∀t∈bp l,eS t=0:=λt a=>by
 have⟨d,b,a⟩:=bR.1 a;have:=pD (se h b);rcases ac.1 a with a|a
 ·exact this.2.1 t a
 rw[bJ.1 a];exact this.2.2
end Go.VZ
namespace Go.V
open Go
theorem Si(a b:ByteArray):(a==b)=decide (a=b):=by
 cases a with|mk a=>cases b with|mk b=>
 show(a==b)=_;rw[fO];simp
mutual
theorem AV.same_refl:∀a:AV,AV.same a a=true
 |.bool b=>by simp[AV.same]
 |.int k n=>by simp[AV.same]
 |.str s=>by simp[AV.same]
 |.nilptr=>rfl
 |.ptr a b=>by simp[AV.same]
 |.iptr e o=>by simp[AV.same,AV.same_refl e]
 |.isl es x=>by simp[AV.same,AV.sames_refl es]
 |.msl a b c d e=>by simp[AV.same]
 |.nilmap=>rfl
 |.nilFunc=>rfl
 |.func f cs=>by simp[AV.same,AV.sames_refl cs]
 |.nilIface=>rfl
 |.iface t v=>by simp[AV.same,AV.same_refl v]
 |.agg cs=>by simp[AV.same,AV.sames_refl cs]
 |.tuple cs=>by simp[AV.same,AV.sames_refl cs]
 |.yield i=>by simp[AV.same]
 |.mp i=>by simp[AV.same]
theorem AV.sames_refl:∀l:LA,AV.sames l l=true
 |[]=>rfl
 |a::l=>by simp[AV.sames,AV.same_refl a,AV.sames_refl l]
end
theorem In:∀h g:H,nlB h (h++g)=true
 |[],g=>by cases g<;>rfl
 |o::h,g=>by have:=In h g;cases o<;>simp[nlB,AV.sames_refl,this]
theorem uu:∀(h:H) (j:Nat),(bj h)[j]?=(match h[j]? with|some (.cells cs .live)=>some (.cells cs .frozen)|x=>x)
 |[],j=>by simp[bj]
 |o::h,0=>by
  cases o with
  |cells cs st=>cases st<;>rfl
  |_=>rfl
 |o::h,j+1=>by
  have:=uu h j;cases o with
  |cells cs st=>cases st<;>simpa[bj]using this
  |_=>simpa[bj]using this
theorem E2(h g:H):freeze (h++g) (news h (h++g))=h++bj g:=by
 apply cU;intro j;rw[mI];by_cases c:j<h.length
 ·have a:j∉news h (h++g):=by simp[news];omega
  rw[aP c,aP c];cases e:h[j]? with
  |none=>rfl
  |some o=>cases o with
   |cells d b=>cases b<;>simp[a]
   |_=>rfl
 rw[aj o_,aj o_,uu];cases e:g[j-h.length]? with
 |none=>rfl
 |some o=>
  have f:=(aB.1 e).1;have a:j∈news h (h++g):=by simp[news];omega
  cases o with
  |cells d b=>cases b<;>simp[a]
  |_=>rfl
end Go.V
namespace Go.VZ
open Go Go.V Go.Proofs Tryz TL
theorem Rx{f:FuncId}{args:LA}{h g:H}{r v:AV}(hb:eE C.P f=true) (hm:C.mode f=.openF) (hc:Go.V.Call C f args h=some (r,h++g)) (hs:fc (h++bj g) dD r=some v):ak C h (.func f []) (some args)=some (v,h++bj g):=by simp only[ak,hb,if_true,bm];unfold dM;rw[hm];dsimp only;rw[hc];simp only[In,if_true,E2,hs]
def Pre(h0 h:H):Prop:=∃g,h=h0++g
theorem Pre.refl(h:H):Pre h h:=⟨[],s_⟩
theorem Pre.app{h0 h:H}(p:Pre h0 h) (g:H):Pre h0 (h++g):=by obtain⟨a,rfl⟩:=p;exact⟨a++g,s_⟩
theorem Pre.set{h0 h:H}(p:Pre h0 h){i:Nat}(hi:h0.length<=i) (o:VObj):Pre h0 (h.set i o):=by obtain⟨a,rfl⟩:=p;exact⟨a.set (i-h0.length) o,by rw[oK];simp[show ¬i<h0.length by omega]⟩
theorem Pre.get{h0 h:H}(p:Pre h0 h){j:Nat}{o:VObj}(e:h0[j]?=some o):h[j]?=some o:=by obtain⟨a,rfl⟩:=p;exact ga e
theorem Pre.trans{a b c:H}(p:Pre a b) (q:Pre b c):Pre a c:=by obtain⟨g,rfl⟩:=p;obtain⟨k,rfl⟩:=q;exact⟨g++k,s_⟩
theorem Pre.len{h0 h:H}(p:Pre h0 h):h0.length<=h.length:=by obtain⟨a,rfl⟩:=p;simp
theorem QS:dI prog program=some prog:=rfl
theorem My{t:TypeId}{d:TypeDesc}(h:prog.underlying t=some d):dI prog (underlying t)=some d:=by unfold underlying;rw[ie,QS,cn,h];rfl
end Go.VZ
namespace Go.VZ
open Go Go.V Go.Proofs Tryz TL
def yq{α:Type}(p:α->Bool):List α->Nat->Int
 |[],_=>-1
 |a::l,k=>if p a=true then k else yq p l (k+1)
theorem Ev{α:Type}(p:α->Bool):∀(l:List α) (k:Nat),decide (0<=yq p l k)=l.any p
 |[],k=>by simp[yq]
 |a::l,k=>by
  rw[yq,qa];by_cases h:p a=true
  ·rw[if_pos h,h,Bool.true_or,decide_eq_true o_]
  rw[if_neg h,Ev p l (k+1)];simp[h]
def Y4(l:Lq) (g:FuncId) (caps:LA) (p:T->Bool) (h0:H) (m:Nat) (st:PT) (h:H):Prop:=∃k:Nat,m=l.length-k/\k<=l.length/\h=h0/\st.get 0=aM l/\st.get 1=.func g caps/\st.get 7=.int .i64 l.length/\st.get 8=.int .i64 k/\yq p l 0=yq p (l.drop k) k
theorem Kq(l:Lq) (g:FuncId) (caps:LA) (p:T->Bool) (hl:l.length<4000000) (hp:∀k∈l,∀h,ak C h (.func g caps) (some [enc k])=some (.bool (p k),h)) (h0:H):Go.V.Call C 142 [aM l,.func g caps] h0=some (.int .i64 (yq p l 0),h0):=by
 suffices hh:∃r j,Go.V.Call C 142 [aM l,.func g caps] h0=some (r,j)/\(r=.int .i64 (yq p l 0)/\j=h0) by
  obtain⟨r,j,a,rfl,rfl⟩:=hh;exact a
 refine lC rfl func142 rfl k_ (by simp[f142]) λR t=>?_
 have n:=fI l;simp[go_sem,n];refine bL (Y4 l g caps p h0) l.length ⟨0,rfl,aN _,rfl,g_,g_,g_,g_,rfl⟩ ?_;rintro m x h ⟨k,rfl,y,rfl,u,v,o,q,d⟩;by_cases b:k<l.length
 ·have c:(k:Int)<l.length:=o_;have e:=eJ l k b;have f:=hp l[k] (aF b);have w:=wS k o_;rw[aI b,yq]at d;by_cases i:p l[k]=true
  ·rw[if_pos i]at d;rw[i]at f;simp[go_sem,u,v,o,q,c,e,gd,f];refine t _ _ _ (.inr rfl) ⟨.int .i64 k,by simp[aY,cC,f142,go_sem],by rw[d],rfl⟩
  rw[if_neg i]at d;have s:p l[k]=false:=by simpa using i
  rw[s]at f;simp[go_sem,u,v,o,q,c,e,gd,f,-Int.natCast_add,w];exact⟨l.length-(k+1),o_,k+1,rfl,b,rfl,g_,g_,g_,g_,d⟩
 have:k=l.length:=o_;subst this;rw[ae,yq]at d;simp[go_sem,o,q];refine t _ _ _ (.inr rfl) ⟨.int .i64 (-1),by simp[aY,cC,f142,go_sem],by rw[d],rfl⟩
theorem qE(l:Lq) (g:FuncId) (caps:LA) (p:T->Bool) (hl:l.length<4000000) (hp:∀k∈l,∀h,ak C h (.func g caps) (some [enc k])=some (.bool (p k),h)):az C 93 [aM l,.func g caps]=some (.bool (l.any p)):=by
 refine ay func93 rfl λR a=>?_
 have b:∀h,ak C h (.func 142 []) (some [aM l,.func g caps])=some (.int .i64 (yq p l 0),h):=λh=>(gQ k_ rfl).trans (Kq l g caps p hl hp h)
 have c:=Ev p l 0;simp[go_sem,kC,b];refine a ⟨.bool (decide (0<=yq p l 0)),by simp[aY,cC,f93,go_sem],by rw[c];exact aK rfl rfl⟩
theorem Xl(x:T) (h:H):aW C.P h 39 (.iptr (.agg (enc x).cells) 0)=some (enc x):=by rw[show AV.agg (enc x).cells=enc x by rw[au,bE]];exact gd x h
def ZE(l:Lq) (x:T) (m:Nat) (st:PT) (h:H):Prop:=∃k:Nat,m=l.length-k/\k<=l.length/\h[0]?=some (.cells (enc x).cells .live)/\st.get 0=aM l/\st.get 3=.ptr 0 0/\st.get 5=.int .i64 k/\decide (x∈l)=decide (x∈l.drop k)
theorem gi{h:H}{i:Nat}{t:T}(hi:h[i]?=some (.cells (enc t).cells .live)):aW C.P h 39 (.ptr i 0)=some (enc t):=wM t hi
theorem Nv(l:Lq) (x:T) (hs:∀t∈l,t.size<4000000) (hx:x.size<4000000) (hl:l.length<4000000):az C 66 [aM l,enc x]=some (.bool (decide (x∈l))):=by
 refine ay func66 rfl λR v=>?_
 have fin:∀(g:PT) (h:H) (e:Bool),g.get 4=.bool e->decide (x∈l)=e->R .ret g h:=λg h e w j=>v ⟨.bool e,by simp[aY,cC,f66,w],by rw[j];exact aK rfl rfl⟩
 have c:=fI l;simp[go_sem,kf];rw[<-au];refine bL (ZE l x) l.length ⟨0,rfl,aN _,rfl,g_,g_,g_,rfl⟩ ?_;rintro m g h ⟨k,rfl,z,q,n,r,o,d⟩;have s:=gi q;by_cases a:k<l.length
 ·have b:(k:Int)<l.length:=o_;have f:=eJ l k a;have y:=wS k o_;have u:=lr l[k] x (hs _ (aF a)) hx;rw[aI a]at d;by_cases i:l[k].cmp x=0
  ·have j:=cmp_zero.1 i;simp[go_sem,n,r,o,c,b,f,gd,s,u,i];exact fin _ _ true g_ (by rw[d];simp[j])
  have p:¬x=l[k]:=λe=>i (cmp_zero.2 e.symm)
  simp[go_sem,n,r,o,c,b,f,gd,s,u,i,-Int.natCast_add,y];exact⟨l.length-(k+1),o_,k+1,rfl,a,q,g_,g_,g_,by rw[d];simp only[ao,p,false_or]⟩
 have:k=l.length:=o_;subst this;rw[ae]at d;simp[go_sem,n,o,c];exact fin _ _ false g_ (by rw[d];simp)
theorem KT(x t:T) (hx:x.size<4000000) (ht:t.size<4000000):az C 361 [enc x,enc t]=some (.bool (occ x t)):=by
 refine ay func361 rfl λR c=>?_
 obtain⟨b,a⟩:∃g:H,g=two x t:=⟨_,rfl⟩
 have d:aW C.P b 39 (.ptr 0 0)=some (enc x):=by rw[a];exact qd x t
 have e:aW C.P b 39 (.ptr 1 0)=some (enc t):=by rw[a];exact qc x t
 have f:=wl t ht;have j:=kE bY jj t;have i:∀h,ak C h (.func 66 []) (some [aM (cZ bY t),enc x])=some (.bool (occ x t),h):=λh=>aX (args':=[aM (cZ bY t),enc x]) (by rw[bE];rfl) (by simp[aq];rfl) s_ (Nv _ x (ot rH t ht) hx o_)
 unfold two at a;simp[go_sem,kf];rw[<-a];simp[go_sem,d,e,f,i];refine c ⟨.bool (occ x t),by simp[aY,cC,f361,go_sem],aK rfl rfl⟩
theorem JJ(x t:T) (hx:x.size<4000000) (ht:t.size<4000000) (h:H):ak C h (.func 361 []) (some [enc x,enc t])=some (.bool (occ x t),h):=aX (jU _ _) (by simp[aq]) s_ (KT x t hx ht)
theorem KD{x y:T}(n:Nat) (hy:y.size<=n) (h0:0<n) (t:T):(jc x y t).size<=n*t.size:=by
 induction t using T.ind with
 |_ t c=>
  have d:=size_kids t;rw[zG];split
  ·have:=size_pos t;exact cW hy (Nat.le_mul_of_pos_right _ this)
  rw[size_kids];show sizes (t.kids.map (jc x y))+1<=_;have:∀m:Lq,(∀k∈m,(jc x y k).size<=n*k.size)->sizes (m.map (jc x y))<=n*sizes m:=by
   intro m;induction m with
   |nil=>intro _;simp[sizes]
   |cons a m e=>
    intro b;have g:=b a s_;have h:=e λk f=>b k (by simp[f])
    simp only[aS,sizes,qH];omega
  have:=this t.kids c;rw[d,qH];omega
def ZF(x y t:T) (m:Nat) (st:PT) (h:H):Prop:=∃(k:Nat) (v:AV),m=t.kids.length-k/\k<=t.kids.length/\h[0]?=some (.cells (enc t).cells .live)/\h[1]?=some (.cells (enc x).cells .live)/\h[2]?=some (.cells (enc y).cells .live)/\h[3]?=some (.cells zc .live) /\
 st.get 3=.ptr 0 0/\st.get 4=.ptr 1 0/\st.get 5=.ptr 2 0/\st.get 6=.ptr 3 0/\st.get 7=v/\st.get 8=.int .i64 k/\OwnR 39 h v (((t.kids.take k).map (jc x y)).map enc)
theorem pP(a b c:T):jd [enc a,enc b,enc c]=some [enc a,enc b,enc c]:=by rw[bE a,bE b,bE c];rfl
theorem vI{h:H}{i:Nat}(t:T) (hi:h[i]?=some (.cells zc .live)):cL C.P h 39 (.ptr i 0) (enc t)=some (h.set i (.cells (enc t).cells .live)):=UA t hi
theorem UK(x y t:T) (hx:x.size<4000000) (_hy:y.size<4000000) (ht:t.size<4000000) (hc:∀k∈t.kids,az C 362 [enc k,enc x,enc y]=some (enc (jc x y k))):az C 362 [enc t,enc x,enc y]=some (enc (jc x y t)):=by
 refine hJ rfl func362 rfl k_ (by simp[f362]) λR J=>?_
 have fin:∀(s:PT) (b:T) (h:H),s.get 6=.ptr 3 0->h[3]?=some (.cells (enc b).cells .live)->b=jc x y t->R .ret s h:=λs b h K L ht=>by
  refine J _ _ _ (.inr rfl) ⟨enc b,?_,?_⟩
  ·simp[aY,cC,f362,K,gi L]
  rw[<-ht];exact aK (qx b) (aq b)
 have q':∀(s:PT) (b:T) (h:H),s.get 6=.ptr 3 0->h[3]?=some (.cells (enc b).cells .live)->b=jc x y t->R .normal s h:=λs b h K L ht=>by
  refine J _ _ _ (.inl rfl) ⟨enc b,?_,?_⟩
  ·simp[aY,cC,f362,K,gi L]
  rw[<-ht];exact aK (qx b) (aq b)
 have d:=zG x y t;have q2:=size_kids t;have q1:=len_sizes t.kids;have r:=fI t.kids;obtain⟨p,a⟩:∃g:H,g=[.cells (enc t).cells .live,.cells (enc x).cells .live,.cells (enc y).cells .live,.cells zc .live]:=⟨_,rfl⟩
 have c:p[0]?=some (.cells (enc t).cells .live):=by rw[a];rfl
 have n:p[1]?=some (.cells (enc x).cells .live):=by rw[a];rfl
 have o:p[2]?=some (.cells (enc y).cells .live):=by rw[a];rfl
 have l:p[3]?=some (.cells zc .live):=by rw[a];rfl
 have M:=gi c;have u:=gi n;have I:=gi o;have c1:=lr t x ht hx;have e3:=vI y l;have w:=(aB.1 l).1;simp[go_sem,kf,Jd,aV];rw[<-au t,<-au x,<-au y];unfold zc at a;rw[<-a];by_cases q:t.cmp x=0
 ·rw[if_pos q]at d;simp[go_sem,M,u,I,c1,q,e3];exact fin _ y _ g_ (aH w) d.symm
 rw[if_neg q]at d;simp[go_sem,M,u,c1,q];have z:p.length=4:=by rw[a];rfl
 refine bL (ZF x y t) t.kids.length ⟨0,.isl [] (.tok 4),rfl,aN _,ga c,ga n,ga o,ga l,g_,g_,g_,g_,by simp[go_sem,z],g_,.inr ⟨4,rfl,by rw[a];rfl⟩⟩ ?_;clear z e3 w M u I c n o l a p;rintro m s h ⟨k,v,rfl,hk,c,n,o,l,N,O,Q,g6,g7,S,e⟩;have U:=Iv c;have u:=gi n;have I:=gi o;by_cases f:k<t.kids.length
 ·have A:(k:Int)<t.kids.length:=o_;have V:=eJ t.kids k f;have w2:=wS k o_;have ck:∀h,ak C h (.func 362 []) (some [enc t.kids[k],enc x,enc y])=some (enc (jc x y t.kids[k]),h):=λh=>aX (pP _ _ _) (by simp[aq]) s_ (hc _ (aF f))
  have⟨v',h',ha,ho,i,q3⟩:=eW (ys:=[jc x y t.kids[k]]) (x:=.full) e (by simp only[aU,ag,aG,aQ];omega);have X:(t.kids.take k).map (jc x y)++[jc x y t.kids[k]]=(t.kids.take (k+1)).map (jc x y):=by rw[<-dL f,br];rfl
  rw[X]at ho;simp only[aS,bD]at ha;have B:=cM e c;have D:=cM e n;have E:=cM e o;simp[go_sem,N,S,U,r,A];refine gS 7 _ (by simp[gM]) rfl ?_;simp[go_sem,N,O,Q,g7,S,U,V,gd,u,I,ck,dp,ha,-Int.natCast_add,w2];refine⟨?_,t.kids.length-(k+1),o_,k+1,v',rfl,f,i.get c B,i.get n D,i.get o E,i.get l (cM e l),g_,g_,g_,g_,g_,g_,ho⟩;rcases e with rfl|⟨id,rfl,hd⟩
  ·simp[go_sem,O,Q,ij,iK,iO,kW,fL,ce]
  simp only[bv,ne_eq,aA]at B D E;simp[go_sem,O,Q,ij,iK,iO,kW,fL,ce]
  (try omega)
 have:k=t.kids.length:=o_;subst this;rw[ah]at e;generalize Y:(t.kids.map (jc x y)).map enc=es at e;obtain⟨j,rfl⟩:=e.isl;have F:cL C.P h 37 (.ptr 0 3) (.isl es j)=some (h.set 0 (.cells [.int .i64 t.kind,.str t.name,.int .i64 t.sort,.isl es j] .live)):=by rw[au]at c;simp[cL,c,s23]
 have Z:=(aB.1 c).1;have e5:aW C.P (h.set 0 (.cells [.int .i64 t.kind,.str t.name,.int .i64 t.sort,.isl es j] .live)) 39 (.ptr 0 0)=some (.agg [.int .i64 t.kind,.str t.name,.int .i64 t.sort,.isl es j]):=by simp[aW,aH Z,aZ,a25,s25]
 have n3:(h.set 0 (.cells [.int .i64 t.kind,.str t.name,.int .i64 t.sort,.isl es j] .live))[3]?=some (.cells zc .live):=by rw[aE o_];exact l
 generalize h.set 0 (.cells [.int .i64 t.kind,.str t.name,.int .i64 t.sort,.isl es j] .live)=h2 at F e5 n3;have e6:cL C.P h2 39 (.ptr 3 0) (.agg [.int .i64 t.kind,.str t.name,.int .i64 t.sort,.isl es j])=some (h2.set 3 (.cells [.int .i64 t.kind,.str t.name,.int .i64 t.sort,.isl es j] .live)):=by simp[cL,n3,s25,zc]
 have e7:=(aB.1 n3).1;generalize G:AV.agg [.int .i64 t.kind,.str t.name,.int .i64 t.sort,.isl es j]=zz at e5 e6;simp[go_sem,N,g6,g7,S,U,r,F,e5,e6];refine J _ _ _ (.inr rfl) ⟨zz,?_,?_⟩
 ·simp[aY,cC,f362,go_sem,g6,aW,aH e7,aZ,a25,s25,<-G]
 rw[d,bE,<-G,<-Y];exact aK rfl rfl
theorem Gq(x y:T) (hx:x.size<4000000) (hy:y.size<4000000) (t:T):t.size<4000000->az C 362 [enc t,enc x,enc y]=some (enc (jc x y t)):=by
 induction t using T.ind with
 |_ t b=>exact λc=>UK x y t hx hy c (λk a=>b k a (by have:=kid_size a;omega))
theorem Do(x y t:T) (hx:x.size<4000000) (hy:y.size<4000000) (ht:t.size<4000000) (h:H):ak C h (.func 362 []) (some [enc t,enc x,enc y])=some (enc (jc x y t),h):=aX (pP _ _ _) (by simp[aq]) s_ (Gq x y hx hy t ht)
theorem DV(x y:Operand) (a b:ByteArray):iN C.P .eql 9 x y (.str a) (.str b)=some (.bool (decide (a=b))):=by rw[eM]
theorem Yg(a b:T) (_ha:a.kids.length<4000000) (_hb:b.kids.length<4000000):az C 351 [enc a,enc b]=some (.bool (jY a b)):=by
 refine ay func351 rfl λR o=>?_
 have fin:∀(k:PT) (h:H) (e:Bool),k.get 4=.bool e->jY a b=e->R .ret k h:=λk h e p q=>o ⟨.bool e,by simp[aY,cC,f351,p],by rw[q];exact aK rfl rfl⟩
 obtain⟨d,c⟩:∃g:H,g=two a b:=⟨_,rfl⟩
 have t:aW C.P d 3 (.ptr 0 0)=some (.int .i64 a.kind):=by rw[c];exact oz a b
 have l:aW C.P d 3 (.ptr 1 0)=some (.int .i64 b.kind):=by rw[c];exact oy a b
 have m:aW C.P d 9 (.ptr 0 1)=some (.str a.name):=by rw[c];exact qL a b
 have n:aW C.P d 9 (.ptr 1 1)=some (.str b.name):=by rw[c];exact qK a b
 have a3:aW C.P d 37 (.ptr 0 3)=some (aM a.kids):=by rw[c];exact mQ a b
 have b3:aW C.P d 37 (.ptr 1 3)=some (aM b.kids):=by rw[c];exact ox a b
 have r:=fI a.kids;have s:=fI b.kids;unfold two at c;simp[go_sem,kf];rw[<-c];by_cases f:a.kind=3
 rotate_left
 ·simp[go_sem,f];exact fin _ _ false g_ (by simp[jY,f])
 by_cases i:b.kind=3
 rotate_left
 ·simp[go_sem,l,f,i];exact fin _ _ false g_ (by simp[jY,i])
 by_cases j:a.name=b.name
 rotate_left
 ·simp[go_sem,l,m,n,DV,f,i,j];exact fin _ _ false g_ (by simp[jY,j])
 simp[go_sem,l,m,n,a3,b3,r,s,DV,f,i,j];exact fin _ _ (decide (a.kids.length=b.kids.length)) (by simp[go_sem];omega) (by simp[jY,f,i,j])
theorem PV(a b:T) (_ha:a.kids.length<4000000) (_hb:b.kids.length<4000000):az C 321 [enc a,enc b]=some (.bool (jY a b)):=by
 refine ay func321 rfl λR o=>?_
 have fin:∀(k:PT) (h:H) (e:Bool),k.get 4=.bool e->jY a b=e->R .ret k h:=λk h e p q=>o ⟨.bool e,by simp[aY,cC,f321,p],by rw[q];exact aK rfl rfl⟩
 obtain⟨d,c⟩:∃g:H,g=two a b:=⟨_,rfl⟩
 have t:aW C.P d 3 (.ptr 0 0)=some (.int .i64 a.kind):=by rw[c];exact oz a b
 have l:aW C.P d 3 (.ptr 1 0)=some (.int .i64 b.kind):=by rw[c];exact oy a b
 have m:aW C.P d 9 (.ptr 0 1)=some (.str a.name):=by rw[c];exact qL a b
 have n:aW C.P d 9 (.ptr 1 1)=some (.str b.name):=by rw[c];exact qK a b
 have a3:aW C.P d 37 (.ptr 0 3)=some (aM a.kids):=by rw[c];exact mQ a b
 have b3:aW C.P d 37 (.ptr 1 3)=some (aM b.kids):=by rw[c];exact ox a b
 have r:=fI a.kids;have s:=fI b.kids;unfold two at c;simp[go_sem,kf];rw[<-c];by_cases f:a.kind=3
 rotate_left
 ·simp[go_sem,f];exact fin _ _ false g_ (by simp[jY,f])
 by_cases i:b.kind=3
 rotate_left
 ·simp[go_sem,l,f,i];exact fin _ _ false g_ (by simp[jY,i])
 by_cases j:a.name=b.name
 rotate_left
 ·simp[go_sem,l,m,n,DV,f,i,j];exact fin _ _ false g_ (by simp[jY,j])
 simp[go_sem,l,m,n,a3,b3,r,s,DV,f,i,j];exact fin _ _ (decide (a.kids.length=b.kids.length)) (by simp[go_sem];omega) (by simp[jY,f,i,j])
theorem SE(a b:T) (ha:a.kids.length<4000000) (hb:b.kids.length<4000000) (h:H):ak C h (.func 321 []) (some [enc a,enc b])=some (.bool (jY a b),h):=aX (jU _ _) (by simp[aq]) s_ (PV a b ha hb)
def yQ(p q:T):T × T × Int:=if p.sort≠q.sort/\p.sort≠0 then(p,q,11)else(p,q,0)
def kS(p q:T):T × T × Int:=
 if p.kind≠1 then(p,q,11)
 else if q.kind=1 then(if(p.sort=q.sort/\p.cmp q<0)\/(p.sort≠q.sort/\q.sort=0)then yQ q p else yQ p q)
 else if p.sort≠0/\(q.kind≠2\/q.sort≠p.sort)then(p,q,11)
 else if occ p q=true then(p,q,12)else(p,q,0)
def jr(a b:T):T × T × Int:=if a.kind≠1 then kS b a else kS a b
theorem FS(a b:T):match kz a b with
  |.bad e=>(jr a b).2.2=e/\e≠0
  |.ok x y=>jr a b=(x,y,0):=by
 unfold kz jr kS yQ HM;by_cases f:a.kind=1<;>by_cases g:b.kind=1<;>simp only[ne_eq,f,g,not_true_eq_false,not_false_eq_true,if_false,if_true]
 ·by_cases c:(a.sort=b.sort/\a.cmp b<0)\/(¬a.sort=b.sort/\b.sort=0)
  ·rw[if_pos c,if_pos c,if_neg o_]
  rw[if_neg c,if_neg c];by_cases d:¬a.sort=b.sort/\¬a.sort=0
  ·rw[if_pos d,if_pos d];exact⟨rfl,o_⟩
  rw[if_neg d,if_neg d]
 ·by_cases c:¬a.sort=0/\(¬b.kind=2\/¬b.sort=a.sort)
  ·rw[if_pos c,if_pos c];exact⟨rfl,o_⟩
  rw[if_neg c,if_neg c];by_cases d:occ a b=true
  ·rw[if_pos d,if_pos d];exact⟨rfl,o_⟩
  rw[if_neg d,if_neg d]
 ·by_cases c:¬b.sort=0/\(¬a.kind=2\/¬a.sort=b.sort)
  ·rw[if_pos c,if_pos c];exact⟨rfl,o_⟩
  rw[if_neg c,if_neg c];by_cases d:occ b a=true
  ·rw[if_pos d,if_pos d];exact⟨rfl,o_⟩
  rw[if_neg d,if_neg d]
 exact⟨trivial,o_⟩
theorem oF(t:PT) (n m:Nat) (v:AV) (h:m≠n):(t.set n v).get m=t.get m:=by rw[PT.get_set,if_neg h]
theorem HI(t:PT) (n:Nat) (v:AV):(t.set n v).get n=v:=by rw[PT.get_set,if_pos rfl]
theorem jt(t:T) (h:H):nR C.P h 39 (enc t)=some (.ptr h.length 0,h++[.cells (enc t).cells .live]):=by rw[kf,au]
theorem IN:iH C.P 39=some (.agg zc):=Jd
theorem kG{R:Ex->PT->H->Prop}{k:List It}{s:PT}{p q:T}(id:Nat) (d1 d2:Nat) (e:Int){p0 p1 p2 p3 p4:String}{a0 a1 a2 a3 a4:Array Edge}{n0 n1 n2 n3 n4:TypeId}
  (hm:C.mix 322 id=true) (g2:s.get 2=.ptr 0 0) (g3:s.get 3=.ptr 1 0) (g4:s.get 4=.ptr 2 0) (g5:s.get 5=.ptr 3 0) (hd:d1≠d2/\6<d1/\6<d2)
  (ht:sO #[⟨some d1,.load 39 (.tmp 2),n0,p0,a0,none⟩,⟨some d2,.load 39 (.tmp 3),n1,p1,a1,none⟩,⟨none,.store 39 (.tmp 4) (.tmp d1),n2,p2,a2,none⟩,⟨none,.store 39 (.tmp 5) (.tmp d2),n3,p3,a3,none⟩,⟨some 6,.assign (.const (.int .i64 e)),n4,p4,a4,none⟩]=true)
  (hf:ri #[⟨some d1,.load 39 (.tmp 2),n0,p0,a0,none⟩,⟨some d2,.load 39 (.tmp 3),n1,p1,a1,none⟩,⟨none,.store 39 (.tmp 4) (.tmp d1),n2,p2,a2,none⟩,⟨none,.store 39 (.tmp 5) (.tmp d2),n3,p3,a3,none⟩,⟨some 6,.assign (.const (.int .i64 e)),n4,p4,a4,none⟩] [([0],[]),([1],[]),([6,2],[6,2]),([7,3],[7,3]),([],[])]=true)
  (hk:∀(s':PT) (h':H),s'.get 4=.ptr 2 0->s'.get 5=.ptr 3 0->s'.get 6=.int .i64 e->h'[2]?=some (.cells (enc p).cells .live)->h'[3]?=some (.cells (enc q).cells .live)->N C 322 R k s' h') :
  W C 322 R (.region id #[⟨some d1,.load 39 (.tmp 2),n0,p0,a0,none⟩,⟨some d2,.load 39 (.tmp 3),n1,p1,a1,none⟩,⟨none,.store 39 (.tmp 4) (.tmp d1),n2,p2,a2,none⟩,⟨none,.store 39 (.tmp 5) (.tmp d2),n3,p3,a3,none⟩,⟨some 6,.assign (.const (.int .i64 e)),n4,p4,a4,none⟩] true) k s ([.cells (enc p).cells .live,.cells (enc q).cells .live,.cells zc .live,.cells zc .live]:H):=by
 refine ue id _ hm ht ?_;show MX C 322 _ 4 _ 0 _ _ _ _;generalize b:([.cells (enc p).cells .live,.cells (enc q).cells .live,.cells zc .live,.cells zc .live]:H)++List.replicate _ VObj.void=H0;have a:Pl ([.cells (enc p).cells .live,.cells (enc q).cells .live,.cells zc .live,.cells zc .live]:H) H0 5:=b▸Pl.mk' _ 5;have c:H0.length=9:=a.len;clear b;have d:H0[0]?=some (.cells (enc p).cells .live):=a.get rfl;have f:H0[1]?=some (.cells (enc q).cells .live):=a.get rfl;have g:H0[2]?=some (.cells zc .live):=a.get rfl;have h:H0[3]?=some (.cells zc .live):=a.get rfl;have j:dZ H0[4+0]?=true:=a.isV (i:=0) d_;have l:dZ H0[4+1]?=true:=a.isV (i:=1) d_;have m:dZ H0[4+2]?=true:=a.isV (i:=2) d_;have n:dZ H0[4+3]?=true:=a.isV (i:=3) d_;have o:dZ H0[4+4]?=true:=a.isV (i:=4) d_;refine eF (.ptr 0 0) (enc p) g_ (gi d) (ig o_) j (fR _ _ _) ?_;refine eF (.ptr 1 0) (enc q) (by simp only[ev];rw[oF _ _ _ _ o_,g3]) (gi f) (ig o_) l (fR _ _ _) ?_;refine lR 2 0 (enc p) (.cells (enc p).cells .live) ?_ ?_ (vI p g) o_ m ?_
 ·simp only[ev];rw[oF _ _ _ _ o_,oF _ _ _ _ o_,g4]
 ·simp only[ev];rw[oF _ _ _ _ o_,HI]
 rw[uM];have r:dZ (H0.set 2 (.cells (enc p).cells .live))[4+3]?=true:=kw n o_;have t:dZ (H0.set 2 (.cells (enc p).cells .live))[4+4]?=true:=kw o o_;have u:(H0.set 2 (.cells (enc p).cells .live))[3]?=some (.cells zc .live):=by rw[aE o_];exact h
 refine lR 3 0 (enc q) (.cells (enc q).cells .live) ?_ ?_ (vI q u) o_ r ?_
 ·simp only[ev];rw[oF _ _ _ _ o_,oF _ _ _ _ o_,g5]
 ·simp only[ev];rw[HI]
 rw[uM];refine bc (.int .i64 e) rfl rfl (kw t o_) rfl rfl ?_;refine⟨hf,hk _ _ ?_ ?_ ?_ ?_ ?_⟩
 ·rw[oF _ _ _ _ o_,oF _ _ _ _ o_,oF _ _ _ _ o_,g4]
 ·rw[oF _ _ _ _ o_,oF _ _ _ _ o_,oF _ _ _ _ o_,g5]
 ·rw[HI]
 ·rw[aE o_,aH o_]
 rw[aH (by simp;omega)]
theorem tW(p q:T):aW C.P ([.cells (enc p).cells .live,.cells (enc q).cells .live,.cells zc .live,.cells zc .live]:H) 39 (.ptr 0 0)=some (enc p):=gi rfl
theorem tV(p q:T):aW C.P ([.cells (enc p).cells .live,.cells (enc q).cells .live,.cells zc .live,.cells zc .live]:H) 39 (.ptr 1 0)=some (enc q):=gi rfl
theorem DP(p q:T):aW C.P ([.cells (enc p).cells .live,.cells (enc q).cells .live,.cells zc .live,.cells zc .live]:H) 3 (.ptr 0 0)=some (.int .i64 p.kind):=by simp[aW,aZ,a3,s3,au]
theorem I6(p q:T):aW C.P ([.cells (enc p).cells .live,.cells (enc q).cells .live,.cells zc .live,.cells zc .live]:H) 3 (.ptr 1 0)=some (.int .i64 q.kind):=by simp[aW,aZ,a3,s3,au]
theorem zM(p q:T):aW C.P ([.cells (enc p).cells .live,.cells (enc q).cells .live,.cells zc .live,.cells zc .live]:H) 3 (.ptr 0 2)=some (.int .i64 p.sort):=by simp[aW,aZ,a3,s3,au]
theorem zL(p q:T):aW C.P ([.cells (enc p).cells .live,.cells (enc q).cells .live,.cells zc .live,.cells zc .live]:H) 3 (.ptr 1 2)=some (.int .i64 q.sort):=by simp[aW,aZ,a3,s3,au]
theorem DO(p q:T):∃g,cL C.P ([.cells (enc p).cells .live,.cells (enc q).cells .live,.cells zc .live,.cells zc .live]:H) 39 (.ptr 0 0) (enc q)=some g/\cL C.P g 39 (.ptr 1 0) (enc p)=some ([.cells (enc q).cells .live,.cells (enc p).cells .live,.cells zc .live,.cells zc .live]:H):=by
 refine⟨[.cells (enc q).cells .live,.cells (enc q).cells .live,.cells zc .live,.cells zc .live],?_,?_⟩
 ·simp[cL,s25,au];rw[bE];rfl
 simp[cL,s25,au];rw[bE];rfl
theorem La(a b:T) (ha:a.size<4000000) (hb:b.size<4000000):az C 322 [enc a,enc b]=some (.tuple [enc (jr a b).1,enc (jr a b).2.1,.int .i64 (jr a b).2.2]):=by
 refine hJ rfl func322 rfl k_ (by simp[f322]) λR V=>?_
 have fin:∀(u v:T) (e:Int),(u,v,e)=jr a b->∀(x:Ex),(x=.normal\/x=.ret)->∀(s:PT) (h:H),s.get 4=.ptr 2 0->s.get 5=.ptr 3 0->s.get 6=.int .i64 e->h[2]?=some (.cells (enc u).cells .live)->h[3]?=some (.cells (enc v).cells .live)->R x s h:=λu v e X x Y s h g i j k l=>by
  refine V _ _ _ Y ⟨.tuple [enc u,enc v,.int .i64 e],?_,?_⟩
  ·simp[aY,cC,dx,f322,g,i,j,gi k,gi l]
  rw[<-X];exact dF (by rw[bE,bE];rfl) (by simp[aq,mC]) s_
 have⟨g1,G,I⟩:=DO a b;have J:=DP a b;have K:=tW a b;have L:=tV a b;simp[go_sem,jt,IN,aV];by_cases r:a.kind=1
 ·have _:=r;have t:=DP a b;have w:=I6 a b;have y:=zM a b;have E:=zL a b;have B:=tW a b;have D:=tV a b;have Z:=tW b a;have z1:=tV b a;have N:=zM b a;have z3:=zL b a;have O:=sM a b ha hb;have F:=JJ a b ha hb;have⟨g2,Q,S⟩:=DO a b;have d:jr a b=kS a b:=by unfold jr;simp[r]
  have m:a.kind=1:=r;by_cases q:b.kind=1
  ·have _:=q;by_cases c:a.sort=b.sort
   ·have _:=c;by_cases f:a.cmp b<0
    ·have _:=f;simp[go_sem,r,t,w,y,E,B,D,O,Q,S,N,z3,q,c,f];refine kG 10 57 58 0 (by rw[gM];decide) g_ g_ g_ g_ d_ k_ k_ ?_;intro z A g i j k l;simp[go_sem];exact fin b a 0 (by rw[d];unfold kS yQ;simp[m,q,c,f]) _ (.inr rfl) _ _ g i j k l
    have _:=f;simp[go_sem,r,t,w,y,E,B,D,O,q,c,f];refine kG 10 57 58 0 (by rw[gM];decide) g_ g_ g_ g_ d_ k_ k_ ?_;intro z A g i j k l;simp[go_sem];exact fin a b 0 (by rw[d];unfold kS yQ;simp[m,q,c,f]) _ (.inr rfl) _ _ g i j k l
   have _:=c;have q':¬b.sort=a.sort:=λe=>c e.symm
   by_cases f:b.sort=0
   ·have _:=f;have U:¬a.sort=0:=λe=>c (e.trans f.symm)
    have M:¬0=a.sort:=λe=>U e.symm
    simp[go_sem,r,t,w,y,E,B,D,Q,S,N,z3,q,f,U,M];refine kG 10 57 58 0 (by rw[gM];decide) g_ g_ g_ g_ d_ k_ k_ ?_;intro z A g i j k l;simp[go_sem];exact fin b a 0 (by rw[d];unfold kS yQ;simp[m,q,f,U]) _ (.inr rfl) _ _ g i j k l
   have _:=f;by_cases n:a.sort=0
   ·have _:=n;have M:¬0=b.sort:=λe=>f e.symm
    simp[go_sem,r,t,w,y,E,B,D,q,f,n,M];refine kG 10 57 58 0 (by rw[gM];decide) g_ g_ g_ g_ d_ k_ k_ ?_;intro z A g i j k l;simp[go_sem];exact fin a b 0 (by rw[d];unfold kS yQ;simp[m,q,f,n,M]) _ (.inr rfl) _ _ g i j k l
   have _:=n;simp[go_sem,r,t,w,y,E,B,D,q,c,f,n];refine kG 9 55 56 11 (by rw[gM];decide) g_ g_ g_ g_ d_ k_ k_ ?_;intro z A g i j k l;simp[go_sem];exact fin a b 11 (by rw[d];unfold kS yQ;simp[m,q,c,f,n]) _ (.inr rfl) _ _ g i j k l
  have _:=q;by_cases c:a.sort=0
  ·have _:=c;by_cases o:occ a b=true
   ·have _:=o;simp[go_sem,r,t,w,y,B,D,F,q,o,c];refine kG 14 79 80 12 (by rw[gM];decide) g_ g_ g_ g_ d_ k_ k_ ?_;intro z A g i j k l;simp[go_sem];exact fin a b 12 (by rw[d];unfold kS;simp[m,q,o,c]) _ (.inr rfl) _ _ g i j k l
   have _:=o;have p:occ a b=false:=by simpa using o
   simp[go_sem,r,t,w,y,B,D,F,q,p,c];refine kG 15 81 82 0 (by rw[gM];decide) g_ g_ g_ g_ d_ k_ k_ ?_;intro z A g i j k l;simp[go_sem];exact fin a b 0 (by rw[d];unfold kS;simp[m,q,p,c]) _ (.inr rfl) _ _ g i j k l
  have _:=c;by_cases f:b.kind=2
  ·have _:=f;by_cases n:b.sort=a.sort
   ·have _:=n;by_cases o:occ a b=true
    ·have _:=o;simp[go_sem,r,t,w,y,E,B,D,F,o,c,f,n];refine kG 14 79 80 12 (by rw[gM];decide) g_ g_ g_ g_ d_ k_ k_ ?_;intro z A g i j k l;simp[go_sem];exact fin a b 12 (by rw[d];unfold kS;simp[m,o,c,f,n]) _ (.inr rfl) _ _ g i j k l
    have _:=o;have p:occ a b=false:=by simpa using o
    simp[go_sem,r,t,w,y,E,B,D,F,p,c,f,n];refine kG 15 81 82 0 (by rw[gM];decide) g_ g_ g_ g_ d_ k_ k_ ?_;intro z A g i j k l;simp[go_sem];exact fin a b 0 (by rw[d];unfold kS;simp[m,p,c,f,n]) _ (.inr rfl) _ _ g i j k l
   have _:=n;simp[go_sem,r,t,w,y,E,c,f,n];refine kG 12 74 75 11 (by rw[gM];decide) g_ g_ g_ g_ d_ k_ k_ ?_;intro z A g i j k l;simp[go_sem];exact fin a b 11 (by rw[d];unfold kS;simp[m,c,f,n]) _ (.inr rfl) _ _ g i j k l
  have _:=f;simp[go_sem,r,t,w,y,q,c,f];refine kG 12 74 75 11 (by rw[gM];decide) g_ g_ g_ g_ d_ k_ k_ ?_;intro z A g i j k l;simp[go_sem];exact fin a b 11 (by rw[d];unfold kS;simp[m,q,c,f]) _ (.inr rfl) _ _ g i j k l
 have _:=r;have t:=DP b a;have w:=I6 b a;have y:=zM b a;have E:=zL b a;have B:=tW b a;have D:=tV b a;have Z:=tW a b;have z1:=tV a b;have N:=zM a b;have z3:=zL a b;have O:=sM b a hb ha;have F:=JJ b a hb ha;have⟨g2,Q,S⟩:=DO b a;have d:jr a b=kS b a:=by unfold jr;simp[r]
 by_cases m:b.kind=1
 ·have _:=m;have q:¬a.kind=1:=r;by_cases c:b.sort=0
  ·have _:=c;by_cases o:occ b a=true
   ·have _:=o;simp[go_sem,J,K,L,G,I,r,t,w,y,B,D,F,m,o,c];refine kG 14 79 80 12 (by rw[gM];decide) g_ g_ g_ g_ d_ k_ k_ ?_;intro z A g i j k l;simp[go_sem];exact fin b a 12 (by rw[d];unfold kS;simp[m,q,o,c]) _ (.inr rfl) _ _ g i j k l
   have _:=o;have p:occ b a=false:=by simpa using o
   simp[go_sem,J,K,L,G,I,r,t,w,y,B,D,F,m,p,c];refine kG 15 81 82 0 (by rw[gM];decide) g_ g_ g_ g_ d_ k_ k_ ?_;intro z A g i j k l;simp[go_sem];exact fin b a 0 (by rw[d];unfold kS;simp[m,q,p,c]) _ (.inr rfl) _ _ g i j k l
  have _:=c;by_cases f:a.kind=2
  ·have _:=f;by_cases n:a.sort=b.sort
   ·have _:=n;by_cases o:occ b a=true
    ·have _:=o;simp[go_sem,J,K,L,G,I,t,w,y,E,B,D,F,m,o,c,f,n];refine kG 14 79 80 12 (by rw[gM];decide) g_ g_ g_ g_ d_ k_ k_ ?_;intro z A g i j k l;simp[go_sem];exact fin b a 12 (by rw[d];unfold kS;simp[m,o,c,f,n]) _ (.inr rfl) _ _ g i j k l
    have _:=o;have p:occ b a=false:=by simpa using o
    simp[go_sem,J,K,L,G,I,t,w,y,E,B,D,F,m,p,c,f,n];refine kG 15 81 82 0 (by rw[gM];decide) g_ g_ g_ g_ d_ k_ k_ ?_;intro z A g i j k l;simp[go_sem];exact fin b a 0 (by rw[d];unfold kS;simp[m,p,c,f,n]) _ (.inr rfl) _ _ g i j k l
   have _:=n;simp[go_sem,J,K,L,G,I,t,w,y,E,m,c,f,n];refine kG 12 74 75 11 (by rw[gM];decide) g_ g_ g_ g_ d_ k_ k_ ?_;intro z A g i j k l;simp[go_sem];exact fin b a 11 (by rw[d];unfold kS;simp[m,c,f,n]) _ (.inr rfl) _ _ g i j k l
  have _:=f;simp[go_sem,J,K,L,G,I,r,t,w,y,m,c,f];refine kG 12 74 75 11 (by rw[gM];decide) g_ g_ g_ g_ d_ k_ k_ ?_;intro z A g i j k l;simp[go_sem];exact fin b a 11 (by rw[d];unfold kS;simp[m,q,c,f]) _ (.inr rfl) _ _ g i j k l
 have _:=m;simp[go_sem,J,K,L,G,I,r,t,m];refine kG 4 15 16 11 (by rw[gM];decide) g_ g_ g_ g_ d_ k_ k_ ?_;intro z A g i j k l;simp[go_sem];exact fin b a 11 (by rw[d];unfold kS;simp[m]) _ (.inr rfl) _ _ g i j k l
theorem SD(a b:T) (ha:a.size<4000000) (hb:b.size<4000000) (h:H):ak C h (.func 322 []) (some [enc a,enc b])=some (.tuple [enc (jr a b).1,enc (jr a b).2.1,.int .i64 (jr a b).2.2],h):=aX (jU _ _) (by simp[aq]) s_ (La a b ha hb)
theorem Jm:C.P.underlying 284=some (.slice 283):=underlying284
theorem Gh:cr C.P 283=some 8:=k_
theorem Yh:fJ C.P 283=some true:=k_
theorem aBN:hG C.P 283=some 112:=k_
theorem Wx:gH C.P 283=true:=k_
theorem Xo:ii C.P 284=some 283:=k_
theorem b86:hG C.P 84=some 112:=k_
theorem z86:gH C.P 84=true:=k_
theorem aA3:ii C.P 45=some 84:=k_
attribute [go_sem] Jm Gh Yh Xo aA3
def z8:LA:=zc++zc
theorem Wr:iH C.P 283=some (.agg z8):=k_
theorem ME:iH C.P 84=some (.agg z8):=k_
theorem zi(l:Lb):gn 8 (l.map bS)=true:=by cases l<;>simp[gn,bS,aV]
theorem OC(e:AV):bF C.P 283 (.iptr e 0) 0=some (.iptr e 0):=k_
theorem OB(e:AV):bF C.P 283 (.iptr e 0) 1=some (.iptr e 4):=k_
theorem RQ(i:Nat):bF C.P 283 (.ptr i 0) 0=some (.ptr i 0):=k_
theorem RP(i:Nat):bF C.P 283 (.ptr i 0) 1=some (.ptr i 4):=k_
attribute [go_sem] OC OB RQ RP
theorem NW(l:Lb) (x:Ext):fB C.P 284 (.isl (l.map bS) x)=some (.int .i64 l.length):=by simp[fB,Jm]
theorem Qn(l:Lb):fB C.P 284 (binds l)=some (.int .i64 l.length):=NW l _
theorem Ns(l:Lb) (k:Nat) (hk:k<l.length) (x:Ext):bH C.P 284 (.isl (l.map bS) x) (.int .i64 k)=some (.iptr (bS l[k]) 0):=by simp[bH,Jm,Gh,hk,bS,aV]
theorem Xm{h:H}{i:Nat}{b:T × T}(hi:h[i]?=some (.cells (bS b).cells .live)):aW C.P h 283 (.ptr i 0)=some (bS b):=by simp[aW,hi,aZ,Yh,Gh,bS,aV]
theorem XA{h:H}{i:Nat}(b:T × T) (hi:h[i]?=some (.cells z8 .live)):cL C.P h 283 (.ptr i 0) (bS b)=some (h.set i (.cells (bS b).cells .live)):=by simp[cL,hi,Gh,bS,z8,zc,aV]
theorem MZ{h:H}{i:Nat}(b:T × T) (hi:h[i]?=some (.cells z8 .live)):cL C.P h 84 (.ptr i 0) (bS b)=some (h.set i (.cells (bS b).cells .live)):=by simp[cL,hi,s86,bS,z8,zc,aV]
theorem PI(a b:T):fK C.P 283 [(0,enc a),(1,enc b)]=some (bS (a,b)):=by
 rw[bE a,bE b];have e:∀(k s c d:Int) (n f:ByteArray) (l g:LA),fK C.P 283 [(0,.agg [.int .i64 k,.str n,.int .i64 s,.isl l .unk]),(1,.agg [.int .i64 c,.str f,.int .i64 d,.isl g .unk])]=some (.agg [.int .i64 k,.str n,.int .i64 s,.isl l .unk,.int .i64 c,.str f,.int .i64 d,.isl g .unk]):=λk s c d n f l g=>k_
 exact e _ _ _ _ _ _ _ _
theorem yf(a b:T):fK C.P 84 [(0,enc a),(1,enc b)]=some (bS (a,b)):=by
 rw[bE a,bE b];have e:∀(k s c d:Int) (n f:ByteArray) (l g:LA),fK C.P 84 [(0,.agg [.int .i64 k,.str n,.int .i64 s,.isl l .unk]),(1,.agg [.int .i64 c,.str f,.int .i64 d,.isl g .unk])]=some (.agg [.int .i64 k,.str n,.int .i64 s,.isl l .unk,.int .i64 c,.str f,.int .i64 d,.isl g .unk]):=λk s c d n f l g=>k_
 exact e _ _ _ _ _ _ _ _
theorem pE(b:T × T):bf (bS b)=true:=rfl
theorem nP(h:H) (b:T × T):cI C.P h 284 1 [(0,bS b)]=some (.isl [bS b] .full,h):=cG Jm Gh Wx rfl o_ rfl rfl rfl s_ rfl
theorem ft(h:H) (b:T × T):cI C.P h 45 1 [(0,bS b)]=some (.isl [bS b] .full,h):=cG u46 s86 z86 rfl o_ rfl rfl rfl s_ rfl
theorem xz{h:H}{v:AV}{xs ys:Lb}{x:Ext}(o:OwnR 283 h v (xs.map bS)) (hl:xs.length+ys.length<=100000000000) :
  ∃v' h',bu C.P false h 284 v (.isl (ys.map bS) x)=some (v',h')/\OwnR 283 h' v' ((xs++ys).map bS)/\Keep h h' (bv v)/\(bv v'=bv v\/bv v=none/\bv v'=some h.length):=by
 have:=jG (x:=x) Jm Gh aBN Wx rfl o (zi xs) (zi ys) (by simp only[aU];omega);rwa[<-br]at this
theorem lQ{h:H}{v:AV}{xs ys:Lb}{x:Ext}(o:OwnR 84 h v (xs.map bS)) (hl:xs.length+ys.length<=100000000000) :
  ∃v' h',bu C.P false h 45 v (.isl (ys.map bS) x)=some (v',h')/\OwnR 84 h' v' ((xs++ys).map bS)/\Keep h h' (bv v)/\(bv v'=bv v\/bv v=none/\bv v'=some h.length):=by
 have:=jG (x:=x) u46 s86 b86 z86 rfl o (zi xs) (zi ys) (by simp only[aU];omega);rwa[<-br]at this
theorem uO(i k:Nat) (b:T × T):VObj.mv i k (.cells (bS b).cells .live)=.cells (bS b).cells .live:=rfl
theorem Io(i k:Nat):VObj.mv i k (.cells z8 .live)=.cells z8 .live:=rfl
theorem wD{e e':TypeId}(hne:e≠e'){h:H}{v w:AV}{xs ys:LA}(o:OwnR e h v xs) (p:OwnR e' h w ys):∀i,bv v=some i->bv w≠some i:=by
 intro i c d;rcases o with rfl|⟨a,rfl,g⟩
 ·cases c
 rcases p with rfl|⟨b,rfl,f⟩
 ·cases d
 simp only[bv,aA]at c d;subst c;subst d;rw[g]at f;simp only[aA,VObj.tok.injEq]at f;exact hne f.2
theorem NB{x y:T}{ps:Lb}{k:Nat}(hk:k<ps.length):okP x y (ps.take (k+1))=(okP x y (ps.take k)&&(decide (bh (jc x y ps[k].1)=0)&&decide (bh (jc x y ps[k].2)=0))):=by rw[<-dL hk,okP,oM,okP];simp
theorem M9{x y:T}{s:Lb}{k:Nat}(hk:k<s.length):okS x y (s.take (k+1))=(okS x y (s.take k)&&decide (bh (jc x y s[k].2)=0)):=by rw[<-dL hk,okS,oM,okS];simp
theorem KB{x y:T}{ps:Lb}{k:Nat}(hk:k<ps.length):qO x y (ps.take k)++[(jc x y ps[k].1,jc x y ps[k].2)]=qO x y (ps.take (k+1)):=by rw[<-dL hk,qO,qO,br];rfl
def Zh(x y:T) (ps s:Lb) (m:Nat) (st:PT) (h:H):Prop:=∃(k:Nat) (v:AV),m=ps.length-k/\k<=ps.length/\h[0]?=some (.cells (enc x).cells .live)/\h[1]?=some (.cells (enc y).cells .live)/\st.get 2=binds ps/\st.get 3=binds s/\st.get 4=.ptr 0 0/\st.get 5=.ptr 1 0/\st.get 11=v/\st.get 12=.bool (okP x y (ps.take k))/\st.get 13=.int .i64 k /\
 OwnR 283 h v ((qO x y (ps.take k)).map bS)
def Zg(x y:T) (ps s:Lb) (m:Nat) (st:PT) (h:H):Prop:=∃(k:Nat) (w v:AV) (o:Lb) (d:Bool),m=s.length-k/\k<=s.length/\o.length<=k+(if d=true then 1 else 0)/\h[0]?=some (.cells (enc x).cells .live)/\h[1]?=some (.cells (enc y).cells .live)/\st.get 3=binds s/\st.get 4=.ptr 0 0/\st.get 5=.ptr 1 0/\st.get 11=w/\st.get 12=.bool (okP x y ps&&okS x y (s.take k))/\st.get 15=v/\st.get 16=.bool d/\st.get 17=.int .i64 k /\
 OwnR 283 h w ((qO x y ps).map bS)/\OwnR 84 h v (o.map bS)/\kI (x,y) (mU x y s)=(if d=true then o++(mU x y s).drop k else o++kI (x,y) ((mU x y s).drop k))
def CC(l:Lb):Prop:=∀p∈l,p.1.size<=400/\p.2.size<=400
theorem xW{x y t:T}(hy:y.size<=400) (ht:t.size<=400):(jc x y t).size<4000000:=by have:=KD (x:=x) 400 hy o_ t;have:400*t.size<=400*400:=lG _ ht;omega
theorem Sf(x y:T) (ps s:Lb) (hx:x.size<=400) (hy:y.size<=400) (hp:CC ps) (hs:CC s) (hpl:ps.length<4000000) (hsl:s.length<4000000) :
  az C 323 [enc x,enc y,binds ps,binds s]=some (.tuple [binds (qO x y ps),binds (kI (x,y) (mU x y s)),.bool (okU x y ps s)]):=by
 refine ay func323 rfl λR hR=>?_
 have y3:=Qn ps;simp[go_sem,jt];refine bL (Zh x y ps s) ps.length ⟨0,.isl [] (.tok 4),rfl,aN _,rfl,rfl,g_,g_,g_,g_,g_,by simp[go_sem,okP],g_,.inr ⟨4,rfl,rfl⟩⟩ ?_;rintro m st h ⟨k,v,rfl,hk,m0,m1,g2,g3,g4,g5,L,e,X,go⟩;have z6:0<h.length:=(aB.1 m0).1;have z7:1<h.length:=(aB.1 m1).1;by_cases E:k<ps.length
 ·have q3:(k:Int)<ps.length:=o_;have K:bH C.P 284 (binds ps) (.int .i64 k)=some (.iptr (bS ps[k]) 0):=Ns ps k E .unk;have w2:=wS k o_;have y0:=hp _ (aF E);have t:=NB (x:=x) (y:=y) E;have z0:=KB (x:=x) (y:=y) E;generalize ps[k]=p at K y0 t z0;obtain⟨A,eA⟩:∃A,A=jc x y p.1:=⟨_,rfl⟩
  obtain⟨B,eB⟩:∃B,B=jc x y p.2:=⟨_,rfl⟩
  have sA:A.size<4000000:=by rw[eA];exact xW hy y0.1
  have sB:B.size<4000000:=by rw[eB];exact xW hy y0.2
  have cA:=Do x y p.1 o_ o_ o_;have cB:=Do x y p.2 o_ o_ o_;rw[<-eA]at cA t z0;rw[<-eB]at cB t z0;simp[go_sem,g2,X,y3,q3];refine tu 6 _ (λc h'=>c.get 2=binds ps/\c.get 3=binds s/\c.get 4=.ptr 0 0/\c.get 5=.ptr 1 0/\c.get 11=v/\c.get 12=.bool (okP x y (ps.take k))/\c.get 13=.int .i64 k/\c.get 14=.ptr (h.length+17) 0/\h'[h.length+17]?=some (.cells (bS (A,B)).cells .live)/\Keep h h' none) (by rw[gM];decide) k_ ?_ ?_
  ·generalize M:h++List.replicate _ VObj.void=H0;have a:Pl h H0 19:=M▸Pl.mk' h 19;have z3:=a.len;clear M;have p0:=gi (a.get m0);have p1:=gi (a.get m1);have q7:cY H0 dD [enc p.1,enc x,enc y]=[]:=(eo (h:=H0) (pP _ _ _) (by simp[aq]) dD (by simp[dD])).2;have y6:cY H0 dD [enc p.2,enc x,enc y]=[]:=(eo (h:=H0) (pP _ _ _) (by simp[aq]) dD (by simp[dD])).2;refine bc (binds ps) rfl rfl (a.isV (i:=0) d_) (by simp[opN,go_sem,g2]) rfl ?_;refine bc (.int .i64 k) rfl rfl (a.isV (i:=1) d_) (by simp[opN,go_sem,X]) rfl ?_;refine bc (.iptr (bS p) 0) rfl rfl (a.isV (i:=2) d_) (by simp[opN,go_sem,K]) rfl ?_;refine bc (.iptr (bS p) 0) rfl rfl (a.isV (i:=3) d_) (by simp[opN,go_sem]) rfl ?_;refine eF (.iptr (bS p) 0) (enc p.1) g_ (kH p H0) (by simp[nH]) (a.isV (i:=4) d_) (fR _ _ _) ?_;refine eF (.ptr 0 0) (enc x) g_ p0 (ig o_) (a.isV (i:=5) d_) (fR _ _ _) ?_;refine eF (.ptr 1 0) (enc y) g_ p1 (ig o_) (a.isV (i:=6) d_) (fR _ _ _) ?_;refine wu (args:=[.tmp 29,.tmp 30,.tmp 31]) [enc p.1,enc x,enc y] (enc A) k_ rfl g_ q7 (cA _) (a.isV (i:=7) d_) (fR _ _ _) ?_;refine bc (binds ps) rfl rfl (a.isV (i:=8) d_) (by simp[opN,go_sem,g2]) rfl ?_;refine bc (.int .i64 k) rfl rfl (a.isV (i:=9) d_) (by simp[opN,go_sem,X]) rfl ?_;refine bc (.iptr (bS p) 0) rfl rfl (a.isV (i:=10) d_) (by simp[opN,go_sem,K]) rfl ?_;refine bc (.iptr (bS p) 4) rfl rfl (a.isV (i:=11) d_) (by simp[opN,go_sem]) rfl ?_;refine eF (.iptr (bS p) 4) (enc p.2) g_ (nI p H0) (by simp[nH]) (a.isV (i:=12) d_) (fR _ _ _) ?_;refine eF (.ptr 0 0) (enc x) g_ p0 (ig o_) (a.isV (i:=13) d_) (fR _ _ _) ?_;refine eF (.ptr 1 0) (enc y) g_ p1 (ig o_) (a.isV (i:=14) d_) (fR _ _ _) ?_;refine wu (args:=[.tmp 37,.tmp 38,.tmp 39]) [enc p.2,enc x,enc y] (enc B) k_ rfl g_ y6 (cB _) (a.isV (i:=15) d_) (fR _ _ _) ?_;refine bc (bS (A,B)) rfl rfl (a.isV (i:=16) d_) (by simp[opN,go_sem,gJ,fi,PI]) rfl ?_;refine rA _ Wr (a.isV (i:=17) d_) ?_;simp only[aV,Io];have F:h.length+17<H0.length:=o_;obtain⟨H1,n⟩:∃g,g=H0.set (h.length+17) (.cells z8 .live):=⟨_,rfl⟩
   have q8:H1[h.length+17]?=some (.cells z8 .live):=by rw[n];exact aH F
   have y4:dZ H1[h.length+18]?=true:=by rw[n];exact kw (a.isV (i:=18) d_) o_
   rw[<-n];refine lR (h.length+17) 0 (bS (A,B)) _ g_ g_ (XA (A,B) q8) o_ y4 ?_;rw[uO];refine⟨?_,?_⟩
   ·unfold ri;generalize hb:Region.before _=b;have q9:(b.getD 18 0).testBit 17=true:=by rw[<-hb];kernel_rfl
    clear hb;have o1:0≠h.length+7:=o_;have o2:0≠h.length+15:=o_;have o3:0≠h.length+17:=o_;have o4:0≠h.length+18:=o_;have o5:1≠h.length+7:=o_;have o6:1≠h.length+15:=o_;have o7:1≠h.length+17:=o_;have o8:1≠h.length+18:=o_;simp[nH,rW,List.range,List.range.loop];simpa[bA]using q9
   have N:h.length+17<H1.length:=by rw[n];simpa using F
   refine⟨g_,g_,g_,g_,g_,g_,g_,g_,aH N,?_⟩;exact⟨by rw[n];simp;omega,λj hj _=>by rw[aE o_,n,aE o_,a.old j hj]⟩
  rintro c h' ⟨g2,g3,g4,g5,L,e,X,z9,mp,kp⟩;have u:=kp.get m0 s_;have z:=kp.get m1 s_;have q':=go.keep kp s_;have lA:=Qx mp;have lB:=Qw mp;have lP:=Xm mp;have vA:=lq A sA;have vB:=lq B sB;have⟨v',h2,ha,ho,f,y1⟩:=xz (ys:=[(A,B)]) (x:=.full) q' (by simp only[qO,aU,ag,aG,aQ];omega);rw[z0]at ho;simp only[aS,bD]at ha;cases V:okP x y (ps.take k)
  ·rw[V,iQ]at t;rw[V]at e;simp[go_sem,L,e,X,z9,lP,pE,nP,ha,-Int.natCast_add,w2];exact⟨ps.length-(k+1),o_,k+1,v',rfl,E,f.get u (cM q' u),f.get z (cM q' z),g_,g_,g_,g_,g_,by simp[go_sem,t],g_,ho⟩
  rw[V,ee]at t;rw[V]at e;by_cases q1:bh A=0
  ·rw[decide_eq_true q1,ee]at t;by_cases q2:bh B=0
   ·rw[decide_eq_true q2]at t;simp[go_sem,L,e,X,z9,lA,lB,vA,vB,q1,q2,lP,pE,nP,ha,-Int.natCast_add,w2];exact⟨ps.length-(k+1),o_,k+1,v',rfl,E,f.get u (cM q' u),f.get z (cM q' z),g_,g_,g_,g_,g_,by simp[go_sem,t],g_,ho⟩
   rw[decide_eq_false q2]at t;simp[go_sem,L,e,X,z9,lA,lB,vA,vB,q1,q2,lP,pE,nP,ha,-Int.natCast_add,w2];exact⟨ps.length-(k+1),o_,k+1,v',rfl,E,f.get u (cM q' u),f.get z (cM q' z),g_,g_,g_,g_,g_,by simp[go_sem,t],g_,ho⟩
  rw[decide_eq_false q1,iQ]at t;simp[go_sem,L,e,X,z9,lA,vA,q1,lP,pE,nP,ha,-Int.natCast_add,w2];exact⟨ps.length-(k+1),o_,k+1,v',rfl,E,f.get u (cM q' u),f.get z (cM q' z),g_,g_,g_,g_,g_,by simp[go_sem,t],g_,ho⟩
 have:k=ps.length:=o_;subst this;rw[ah]at go e;simp[go_sem,g2,X,y3];have z4:=xV s;refine bL (Zg x y ps s) s.length ⟨0,v,.isl [] (.tok h.length),[],false,rfl,aN _,s_,ga m0,ga m1,g_,g_,g_,g_,by simp[go_sem,e,okS],g_,g_,g_,go.keep (Keep.append _ _ none) s_,.inr ⟨h.length,rfl,s_⟩,s_⟩ ?_;clear z6 z7 go X e L g5 g4 g3 g2 m0 m1 st h v;rintro m st h ⟨k,w,v,o,d,rfl,hk,Y,m0,m1,g3,g4,g5,L,e,I,q4,D,gw,gv,z2⟩;have lx:=gi m0;have ly:=gi m1;have y9:o.length<=k+1:=by split at Y<;>omega
 by_cases E:k<s.length
 ·have q3:(k:Int)<s.length:=o_;have K:bH C.P 45 (binds s) (.int .i64 k)=some (.iptr (bS s[k]) 0):=sS s k E .unk;have w2:=wS k o_;have y5:=hs _ (aF E);have t:=M9 (x:=x) (y:=y) E;have z':(mU x y s).drop k=(s[k].1,jc x y s[k].2)::(mU x y s).drop (k+1):=by
   rw[aI (by simpa[mU]using E)];congr 1
   simp[mU]
  generalize s[k]=b at K y5 t z';obtain⟨B,eB⟩:∃B,B=jc x y b.2:=⟨_,rfl⟩
  have sB:B.size<4000000:=by rw[eB];exact xW hy y5.2
  have cB:=Do x y b.2 o_ o_ o_;rw[<-eB]at cB t z';have lb:=kH b;have y':=sM x b.1 o_ o_;cases d
  ·by_cases q:x.cmp b.1<0
   ·have⟨v1,Z,z5,y2,z1,_⟩:=lQ (ys:=[(x,y)]) (x:=.full) gv (by simp only[aG,aQ];omega);simp only[aS,bD]at z5;have y7:=gw.keep z1 (wD d_ gw gv);have n0:=z1.get m0 (cM gv m0);have n1:=z1.get m1 (cM gv m1);simp[go_sem,g3,g4,g5,I,q4,D,z4,q3,K,py,lb,lx,ly,y',q,yf,pE,fi,ft,z5];refine tu 17 _ (λc h'=>c.get 3=binds s/\c.get 4=.ptr 0 0/\c.get 5=.ptr 1 0/\c.get 11=w/\c.get 12=.bool (okP x y ps&&okS x y (s.take k))/\c.get 15=v1/\c.get 16=.bool true/\c.get 17=.int .i64 k/\c.get 18=.ptr (Z.length+14) 0/\h'[Z.length+14]?=some (.cells (bS (b.1,B)).cells .live)/\Keep Z h' none) (by rw[gM];decide) k_ ?_ ?_
    ·have z6:0<Z.length:=(aB.1 n0).1;have z7:1<Z.length:=(aB.1 n1).1;generalize M:Z++List.replicate _ VObj.void=H0;have a:Pl Z H0 16:=M▸Pl.mk' Z 16;have z3:=a.len;clear M;have p0:=gi (a.get n0);have p1:=gi (a.get n1);have q7:cY H0 dD [enc b.2,enc x,enc y]=[]:=(eo (h:=H0) (pP _ _ _) (by simp[aq]) dD (by simp[dD])).2;refine bc (binds s) rfl rfl (a.isV (i:=0) d_) (by simp[opN,go_sem,g3]) rfl ?_;refine bc (.int .i64 k) rfl rfl (a.isV (i:=1) d_) (by simp[opN,go_sem,D]) rfl ?_;refine bc (.iptr (bS b) 0) rfl rfl (a.isV (i:=2) d_) (by simp[opN,go_sem,K]) rfl ?_;refine bc (.iptr (bS b) 0) rfl rfl (a.isV (i:=3) d_) (by simp[opN,go_sem,py]) rfl ?_;refine eF (.iptr (bS b) 0) (enc b.1) g_ (kH b H0) (by simp[nH]) (a.isV (i:=4) d_) (fR _ _ _) ?_;refine bc (binds s) rfl rfl (a.isV (i:=5) d_) (by simp[opN,go_sem,g3]) rfl ?_;refine bc (.int .i64 k) rfl rfl (a.isV (i:=6) d_) (by simp[opN,go_sem,D]) rfl ?_;refine bc (.iptr (bS b) 0) rfl rfl (a.isV (i:=7) d_) (by simp[opN,go_sem,K]) rfl ?_;refine bc (.iptr (bS b) 4) rfl rfl (a.isV (i:=8) d_) (by simp[opN,go_sem,zN]) rfl ?_;refine eF (.iptr (bS b) 4) (enc b.2) g_ (nI b H0) (by simp[nH]) (a.isV (i:=9) d_) (fR _ _ _) ?_;refine eF (.ptr 0 0) (enc x) g_ p0 (ig o_) (a.isV (i:=10) d_) (fR _ _ _) ?_;refine eF (.ptr 1 0) (enc y) g_ p1 (ig o_) (a.isV (i:=11) d_) (fR _ _ _) ?_;refine wu (args:=[.tmp 92,.tmp 93,.tmp 94]) [enc b.2,enc x,enc y] (enc B) k_ rfl g_ q7 (cB _) (a.isV (i:=12) d_) (fR _ _ _) ?_;refine bc (bS (b.1,B)) rfl rfl (a.isV (i:=13) d_) (by simp[opN,go_sem,gJ,fi,yf]) rfl ?_;refine rA _ ME (a.isV (i:=14) d_) ?_;simp only[aV,Io];have F:Z.length+14<H0.length:=o_;obtain⟨H1,n⟩:∃g,g=H0.set (Z.length+14) (.cells z8 .live):=⟨_,rfl⟩
     have q8:H1[Z.length+14]?=some (.cells z8 .live):=by rw[n];exact aH F
     have q5:dZ H1[Z.length+15]?=true:=by rw[n];exact kw (a.isV (i:=15) d_) o_
     rw[<-n];refine lR (Z.length+14) 0 (bS (b.1,B)) _ g_ g_ (MZ (b.1,B) q8) o_ q5 ?_;rw[uO];refine⟨?_,?_⟩
     ·unfold ri;generalize hb:Region.before _=bb;have q9:(bb.getD 15 0).testBit 14=true:=by rw[<-hb];kernel_rfl
      clear hb;have o1:0≠Z.length+12:=o_;have o2:0≠Z.length+14:=o_;have o3:0≠Z.length+15:=o_;have o4:1≠Z.length+12:=o_;have o5:1≠Z.length+14:=o_;have o6:1≠Z.length+15:=o_;simp[nH,rW,List.range,List.range.loop];simpa[bA]using q9
     have N:Z.length+14<H1.length:=by rw[n];simpa using F
     refine⟨g_,g_,g_,g_,g_,g_,g_,g_,g_,aH N,?_⟩;exact⟨by rw[n];simp;omega,λj hj _=>by rw[aE o_,n,aE o_,a.old j hj]⟩
    rintro c h' ⟨g3,g4,g5,L,e,I,q4,D,O,mp,kp⟩;have u:=kp.get n0 s_;have z:=kp.get n1 s_;have q6:=y7.keep kp s_;have J:=y2.keep kp s_;have lB:=Qw mp;have lP:=ldB mp;have vB:=lq B sB;have⟨v',h2,ha,ho,f,y1⟩:=lQ (ys:=[(b.1,B)]) (x:=.full) J (by simp only[aL,aG,aQ];omega);simp only[aS,bD]at ha;have Q:=q6.keep f (wD d_ q6 J);have S:=cM J u;have U:=cM J z;have G:kI (x,y) (mU x y s)=(if true=true then((o++[(x,y)])++[(b.1,B)])++(mU x y s).drop (k+1)else((o++[(x,y)])++[(b.1,B)])++kI (x,y) ((mU x y s).drop (k+1))):=by rw[z2,z'];simp[kI,q]
    cases V:(okP x y ps&&okS x y (s.take k))
    ·rw[V]at e;have r:(okP x y ps&&okS x y (s.take (k+1)))=false:=by rw[t,<-gc,V,iQ]
     simp[go_sem,e,I,D,O,lP,pE,ft,ha,-Int.natCast_add,w2];exact⟨s.length-(k+1),o_,k+1,w,v',_,true,rfl,E,by simp at Y ⊢;omega,f.get u S,f.get z U,g_,g_,g_,g_,by simp[go_sem,r],g_,g_,g_,Q,ho,G⟩
    rw[V]at e;by_cases q1:bh B=0
    ·have r:(okP x y ps&&okS x y (s.take (k+1)))=true:=by rw[t,<-gc,V,decide_eq_true q1];rfl
     simp[go_sem,e,I,D,O,lB,vB,q1,lP,pE,ft,ha,-Int.natCast_add,w2];exact⟨s.length-(k+1),o_,k+1,w,v',_,true,rfl,E,by simp at Y ⊢;omega,f.get u S,f.get z U,g_,g_,g_,g_,by simp[go_sem,r],g_,g_,g_,Q,ho,G⟩
    have r:(okP x y ps&&okS x y (s.take (k+1)))=false:=by rw[t,<-gc,V,decide_eq_false q1];rfl
    simp[go_sem,e,I,D,O,lB,vB,q1,lP,pE,ft,ha,-Int.natCast_add,w2];exact⟨s.length-(k+1),o_,k+1,w,v',_,true,rfl,E,by simp at Y ⊢;omega,f.get u S,f.get z U,g_,g_,g_,g_,by simp[go_sem,r],g_,g_,g_,Q,ho,G⟩
   simp[go_sem,g3,g4,q4,D,z4,q3,K,py,lb,lx,y',q];refine tu 17 _ (λc h'=>c.get 3=binds s/\c.get 4=.ptr 0 0/\c.get 5=.ptr 1 0/\c.get 11=w/\c.get 12=.bool (okP x y ps&&okS x y (s.take k))/\c.get 15=v/\c.get 16=.bool false/\c.get 17=.int .i64 k/\c.get 18=.ptr (h.length+14) 0/\h'[h.length+14]?=some (.cells (bS (b.1,B)).cells .live)/\Keep h h' none) (by rw[gM];decide) k_ ?_ ?_
   ·have z6:0<h.length:=(aB.1 m0).1;have z7:1<h.length:=(aB.1 m1).1;generalize M:h++List.replicate _ VObj.void=H0;have a:Pl h H0 16:=M▸Pl.mk' h 16;have z3:=a.len;clear M;have p0:=gi (a.get m0);have p1:=gi (a.get m1);have q7:cY H0 dD [enc b.2,enc x,enc y]=[]:=(eo (h:=H0) (pP _ _ _) (by simp[aq]) dD (by simp[dD])).2;refine bc (binds s) rfl rfl (a.isV (i:=0) d_) (by simp[opN,go_sem,g3]) rfl ?_;refine bc (.int .i64 k) rfl rfl (a.isV (i:=1) d_) (by simp[opN,go_sem,D]) rfl ?_;refine bc (.iptr (bS b) 0) rfl rfl (a.isV (i:=2) d_) (by simp[opN,go_sem,K]) rfl ?_;refine bc (.iptr (bS b) 0) rfl rfl (a.isV (i:=3) d_) (by simp[opN,go_sem,py]) rfl ?_;refine eF (.iptr (bS b) 0) (enc b.1) g_ (kH b H0) (by simp[nH]) (a.isV (i:=4) d_) (fR _ _ _) ?_;refine bc (binds s) rfl rfl (a.isV (i:=5) d_) (by simp[opN,go_sem,g3]) rfl ?_;refine bc (.int .i64 k) rfl rfl (a.isV (i:=6) d_) (by simp[opN,go_sem,D]) rfl ?_;refine bc (.iptr (bS b) 0) rfl rfl (a.isV (i:=7) d_) (by simp[opN,go_sem,K]) rfl ?_;refine bc (.iptr (bS b) 4) rfl rfl (a.isV (i:=8) d_) (by simp[opN,go_sem,zN]) rfl ?_;refine eF (.iptr (bS b) 4) (enc b.2) g_ (nI b H0) (by simp[nH]) (a.isV (i:=9) d_) (fR _ _ _) ?_;refine eF (.ptr 0 0) (enc x) g_ p0 (ig o_) (a.isV (i:=10) d_) (fR _ _ _) ?_;refine eF (.ptr 1 0) (enc y) g_ p1 (ig o_) (a.isV (i:=11) d_) (fR _ _ _) ?_;refine wu (args:=[.tmp 92,.tmp 93,.tmp 94]) [enc b.2,enc x,enc y] (enc B) k_ rfl g_ q7 (cB _) (a.isV (i:=12) d_) (fR _ _ _) ?_;refine bc (bS (b.1,B)) rfl rfl (a.isV (i:=13) d_) (by simp[opN,go_sem,gJ,fi,yf]) rfl ?_;refine rA _ ME (a.isV (i:=14) d_) ?_;simp only[aV,Io];have F:h.length+14<H0.length:=o_;obtain⟨H1,n⟩:∃g,g=H0.set (h.length+14) (.cells z8 .live):=⟨_,rfl⟩
    have q8:H1[h.length+14]?=some (.cells z8 .live):=by rw[n];exact aH F
    have q5:dZ H1[h.length+15]?=true:=by rw[n];exact kw (a.isV (i:=15) d_) o_
    rw[<-n];refine lR (h.length+14) 0 (bS (b.1,B)) _ g_ g_ (MZ (b.1,B) q8) o_ q5 ?_;rw[uO];refine⟨?_,?_⟩
    ·unfold ri;generalize hb:Region.before _=bb;have q9:(bb.getD 15 0).testBit 14=true:=by rw[<-hb];kernel_rfl
     clear hb;have o1:0≠h.length+12:=o_;have o2:0≠h.length+14:=o_;have o3:0≠h.length+15:=o_;have o4:1≠h.length+12:=o_;have o5:1≠h.length+14:=o_;have o6:1≠h.length+15:=o_;simp[nH,rW,List.range,List.range.loop];simpa[bA]using q9
    have N:h.length+14<H1.length:=by rw[n];simpa using F
    refine⟨g_,g_,g_,g_,g_,g_,g_,g_,g_,aH N,?_⟩;exact⟨by rw[n];simp;omega,λj hj _=>by rw[aE o_,n,aE o_,a.old j hj]⟩
   rintro c h' ⟨g3,g4,g5,L,e,I,q4,D,O,mp,kp⟩;have u:=kp.get m0 s_;have z:=kp.get m1 s_;have q6:=gw.keep kp s_;have J:=gv.keep kp s_;have lB:=Qw mp;have lP:=ldB mp;have vB:=lq B sB;have⟨v',h2,ha,ho,f,y1⟩:=lQ (ys:=[(b.1,B)]) (x:=.full) J (by simp only[aG,aQ];omega);simp only[aS,bD]at ha;have Q:=q6.keep f (wD d_ q6 J);have S:=cM J u;have U:=cM J z;have G:kI (x,y) (mU x y s)=(if false=true then(o++[(b.1,B)])++(mU x y s).drop (k+1)else(o++[(b.1,B)])++kI (x,y) ((mU x y s).drop (k+1))):=by rw[z2,z'];simp[kI,q]
   cases V:(okP x y ps&&okS x y (s.take k))
   ·rw[V]at e;have r:(okP x y ps&&okS x y (s.take (k+1)))=false:=by rw[t,<-gc,V,iQ]
    simp[go_sem,e,I,D,O,lP,pE,ft,ha,-Int.natCast_add,w2];exact⟨s.length-(k+1),o_,k+1,w,v',_,false,rfl,E,by simp at Y ⊢;omega,f.get u S,f.get z U,g_,g_,g_,g_,by simp[go_sem,r],g_,g_,g_,Q,ho,G⟩
   rw[V]at e;by_cases q1:bh B=0
   ·have r:(okP x y ps&&okS x y (s.take (k+1)))=true:=by rw[t,<-gc,V,decide_eq_true q1];rfl
    simp[go_sem,e,I,D,O,lB,vB,q1,lP,pE,ft,ha,-Int.natCast_add,w2];exact⟨s.length-(k+1),o_,k+1,w,v',_,false,rfl,E,by simp at Y ⊢;omega,f.get u S,f.get z U,g_,g_,g_,g_,by simp[go_sem,r],g_,g_,g_,Q,ho,G⟩
   have r:(okP x y ps&&okS x y (s.take (k+1)))=false:=by rw[t,<-gc,V,decide_eq_false q1];rfl
   simp[go_sem,e,I,D,O,lB,vB,q1,lP,pE,ft,ha,-Int.natCast_add,w2];exact⟨s.length-(k+1),o_,k+1,w,v',_,false,rfl,E,by simp at Y ⊢;omega,f.get u S,f.get z U,g_,g_,g_,g_,by simp[go_sem,r],g_,g_,g_,Q,ho,G⟩
  simp[go_sem,g3,q4,D,z4,q3];refine tu 17 _ (λc h'=>c.get 3=binds s/\c.get 4=.ptr 0 0/\c.get 5=.ptr 1 0/\c.get 11=w/\c.get 12=.bool (okP x y ps&&okS x y (s.take k))/\c.get 15=v/\c.get 16=.bool true/\c.get 17=.int .i64 k/\c.get 18=.ptr (h.length+14) 0/\h'[h.length+14]?=some (.cells (bS (b.1,B)).cells .live)/\Keep h h' none) (by rw[gM];decide) k_ ?_ ?_
  ·have z6:0<h.length:=(aB.1 m0).1;have z7:1<h.length:=(aB.1 m1).1;generalize M:h++List.replicate _ VObj.void=H0;have a:Pl h H0 16:=M▸Pl.mk' h 16;have z3:=a.len;clear M;have p0:=gi (a.get m0);have p1:=gi (a.get m1);have q7:cY H0 dD [enc b.2,enc x,enc y]=[]:=(eo (h:=H0) (pP _ _ _) (by simp[aq]) dD (by simp[dD])).2;refine bc (binds s) rfl rfl (a.isV (i:=0) d_) (by simp[opN,go_sem,g3]) rfl ?_;refine bc (.int .i64 k) rfl rfl (a.isV (i:=1) d_) (by simp[opN,go_sem,D]) rfl ?_;refine bc (.iptr (bS b) 0) rfl rfl (a.isV (i:=2) d_) (by simp[opN,go_sem,K]) rfl ?_;refine bc (.iptr (bS b) 0) rfl rfl (a.isV (i:=3) d_) (by simp[opN,go_sem,py]) rfl ?_;refine eF (.iptr (bS b) 0) (enc b.1) g_ (kH b H0) (by simp[nH]) (a.isV (i:=4) d_) (fR _ _ _) ?_;refine bc (binds s) rfl rfl (a.isV (i:=5) d_) (by simp[opN,go_sem,g3]) rfl ?_;refine bc (.int .i64 k) rfl rfl (a.isV (i:=6) d_) (by simp[opN,go_sem,D]) rfl ?_;refine bc (.iptr (bS b) 0) rfl rfl (a.isV (i:=7) d_) (by simp[opN,go_sem,K]) rfl ?_;refine bc (.iptr (bS b) 4) rfl rfl (a.isV (i:=8) d_) (by simp[opN,go_sem,zN]) rfl ?_;refine eF (.iptr (bS b) 4) (enc b.2) g_ (nI b H0) (by simp[nH]) (a.isV (i:=9) d_) (fR _ _ _) ?_;refine eF (.ptr 0 0) (enc x) g_ p0 (ig o_) (a.isV (i:=10) d_) (fR _ _ _) ?_;refine eF (.ptr 1 0) (enc y) g_ p1 (ig o_) (a.isV (i:=11) d_) (fR _ _ _) ?_;refine wu (args:=[.tmp 92,.tmp 93,.tmp 94]) [enc b.2,enc x,enc y] (enc B) k_ rfl g_ q7 (cB _) (a.isV (i:=12) d_) (fR _ _ _) ?_;refine bc (bS (b.1,B)) rfl rfl (a.isV (i:=13) d_) (by simp[opN,go_sem,gJ,fi,yf]) rfl ?_;refine rA _ ME (a.isV (i:=14) d_) ?_;simp only[aV,Io];have F:h.length+14<H0.length:=o_;obtain⟨H1,n⟩:∃g,g=H0.set (h.length+14) (.cells z8 .live):=⟨_,rfl⟩
   have q8:H1[h.length+14]?=some (.cells z8 .live):=by rw[n];exact aH F
   have q5:dZ H1[h.length+15]?=true:=by rw[n];exact kw (a.isV (i:=15) d_) o_
   rw[<-n];refine lR (h.length+14) 0 (bS (b.1,B)) _ g_ g_ (MZ (b.1,B) q8) o_ q5 ?_;rw[uO];refine⟨?_,?_⟩
   ·unfold ri;generalize hb:Region.before _=bb;have q9:(bb.getD 15 0).testBit 14=true:=by rw[<-hb];kernel_rfl
    clear hb;have o1:0≠h.length+12:=o_;have o2:0≠h.length+14:=o_;have o3:0≠h.length+15:=o_;have o4:1≠h.length+12:=o_;have o5:1≠h.length+14:=o_;have o6:1≠h.length+15:=o_;simp[nH,rW,List.range,List.range.loop];simpa[bA]using q9
   have N:h.length+14<H1.length:=by rw[n];simpa using F
   refine⟨g_,g_,g_,g_,g_,g_,g_,g_,g_,aH N,?_⟩;exact⟨by rw[n];simp;omega,λj hj _=>by rw[aE o_,n,aE o_,a.old j hj]⟩
  rintro c h' ⟨g3,g4,g5,L,e,I,q4,D,O,mp,kp⟩;have u:=kp.get m0 s_;have z:=kp.get m1 s_;have q6:=gw.keep kp s_;have J:=gv.keep kp s_;have lB:=Qw mp;have lP:=ldB mp;have vB:=lq B sB;have⟨v',h2,ha,ho,f,y1⟩:=lQ (ys:=[(b.1,B)]) (x:=.full) J (by simp only[aG,aQ];omega);simp only[aS,bD]at ha;have Q:=q6.keep f (wD d_ q6 J);have S:=cM J u;have U:=cM J z;have G:kI (x,y) (mU x y s)=(if true=true then(o++[(b.1,B)])++(mU x y s).drop (k+1)else(o++[(b.1,B)])++kI (x,y) ((mU x y s).drop (k+1))):=by rw[z2,z'];simp
  cases V:(okP x y ps&&okS x y (s.take k))
  ·rw[V]at e;have r:(okP x y ps&&okS x y (s.take (k+1)))=false:=by rw[t,<-gc,V,iQ]
   simp[go_sem,e,I,D,O,lP,pE,ft,ha,-Int.natCast_add,w2];exact⟨s.length-(k+1),o_,k+1,w,v',_,true,rfl,E,by simp at Y ⊢;omega,f.get u S,f.get z U,g_,g_,g_,g_,by simp[go_sem,r],g_,g_,g_,Q,ho,G⟩
  rw[V]at e;by_cases q1:bh B=0
  ·have r:(okP x y ps&&okS x y (s.take (k+1)))=true:=by rw[t,<-gc,V,decide_eq_true q1];rfl
   simp[go_sem,e,I,D,O,lB,vB,q1,lP,pE,ft,ha,-Int.natCast_add,w2];exact⟨s.length-(k+1),o_,k+1,w,v',_,true,rfl,E,by simp at Y ⊢;omega,f.get u S,f.get z U,g_,g_,g_,g_,by simp[go_sem,r],g_,g_,g_,Q,ho,G⟩
  have r:(okP x y ps&&okS x y (s.take (k+1)))=false:=by rw[t,<-gc,V,decide_eq_false q1];rfl
  simp[go_sem,e,I,D,O,lB,vB,q1,lP,pE,ft,ha,-Int.natCast_add,w2];exact⟨s.length-(k+1),o_,k+1,w,v',_,true,rfl,E,by simp at Y ⊢;omega,f.get u S,f.get z U,g_,g_,g_,g_,by simp[go_sem,r],g_,g_,g_,Q,ho,G⟩
 have:k=s.length:=o_;subst this;rw[ah]at e;have z':(mU x y s).drop s.length=[]:=by rw[show s.length=(mU x y s).length by simp[mU],ae]
 rw[z']at z2;have fin:∀(st:PT) (h:H) (e1 e2:Ext) (l:Lb),st.get 8=.isl ((qO x y ps).map bS) e1->st.get 9=.isl (l.map bS) e2->st.get 10=.bool (okP x y ps&&okS x y s)->l=kI (x,y) (mU x y s)->R .ret st h:=λst h e1 e2 l h8 h9 y8 hl=>by refine hR ⟨.tuple [.isl ((qO x y ps).map bS) e1,.isl (l.map bS) e2,.bool (okP x y ps&&okS x y s)],by simp[aY,dx,cC,f323,h8,h9,y8],?_⟩;rw[<-hl];exact dF rfl rfl s_
 obtain⟨e1,rfl⟩:=gw.isl;cases d
 ·have⟨v1,Z,z5,y2,z1,_⟩:=lQ (ys:=[(x,y)]) (x:=.full) gv (by simp only[aG,aQ];omega);simp only[aS,bD]at z5;obtain⟨e2,rfl⟩:=y2.isl;simp[go_sem,g3,g4,g5,L,e,I,q4,D,z4,lx,ly,yf,pE,fi,ft,z5];exact fin _ _ e1 e2 (o++[(x,y)]) g_ g_ g_ (by rw[z2];simp[kI])
 obtain⟨e2,rfl⟩:=gv.isl;simp[go_sem,g3,L,e,I,q4,D,z4];exact fin _ _ e1 e2 o g_ g_ g_ (by rw[z2];simp)
end Go.VZ
