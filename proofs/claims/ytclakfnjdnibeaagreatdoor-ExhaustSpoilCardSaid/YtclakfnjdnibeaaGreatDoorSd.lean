/- A part of the proof. -/
import Derived.Test.YtclakfnjdnibeaaGreatDoorSc
import Derived.Shelf.Strconv.Itoa3
import Derived.Shelf.LaysM
import Derived.Test.YtclakfnjdnibeaaGreatDoorSxzb
import Derived.ChangeArms
import Derived.Test.YtclakfnjdnibeaaGreatDoorRows
set_option maxHeartbeats 4000000
set_option maxRecDepth 16000
namespace Go.VZ
open Go Go.V Go.Proofs Tryz TL
theorem JM(t:T) (c:Int) (hs:t.size<4000000) (h:H):ak C h (.func 78 []) (some [enc t,.int .i64 c])=some (aM (mo ((cZ bY t).filter (isK c))),h):=aX (args':=[enc t,.int .i64 c]) (by rw[bE];rfl) (by simp[aq,mC]) s_ (Qz t c hs)
def ez(t:T):Lq:=mo ((cZ bY t).filter (isK 1))
theorem Pw(t:T) (hs:t.size<4000000):az C 41 [enc t]=some (aM (ez t)):=by
 refine ay func41 rfl λR a=>?_
 have b:=JM t 1 hs;have c:aW C.P [.cells [.int .i64 t.kind,.str t.name,.int .i64 t.sort,aM t.kids] .live,.tok 0 39] 39 (.ptr 0 0)=some (enc t):=by simp[aW,aZ,a25,s25];rw[bE]
 simp[go_sem,kC,kf,c,b];exact a ⟨aM (ez t),by simp[aY,cC,f41,go_sem,ez],aK rfl rfl⟩
theorem zS(t:T) (hs:t.size<4000000) (h:H):ak C h (.func 41 []) (some [enc t])=some (aM (ez t),h):=aX (cg _) (by simp[aq]) s_ (Pw t hs)
def dv(l:Lq):Lq:=mo (l.flatMap ez)
def aBo(l:Lq) (m:Nat) (st:PT) (h:H):Prop:=∃k:Nat,m=l.length-k/\k<=l.length/\st.get 0=aM l/\st.get 4=.int .i64 k/\OwnR 39 h (st.get 3) (((l.take k).flatMap ez).map enc)
theorem nB(t:T):(ez t).length<=t.size:=by have a:=nq ((cZ bY t).filter (isK 1));have b:=dA (isK 1) (cZ bY t);have c:=kE bY jj t;unfold ez;omega
theorem mN(l:Lq):(l.flatMap ez).length<=sizes l:=by
 induction l with
 |nil=>simp[sizes]
 |cons a l b=>have:=nB a;rw[cF,aL,sizes];omega
theorem mB{t:T}{n:Nat}(h:t.size<n):∀x∈ez t,x.size<n:=λx a=>ot rH t h x (cO.1 (mem_setS.1 a)).1
theorem MJ(l:Lq) (hs:∀x∈l,x.size<4000000) (hl:sizes l<4000000):az C 15 [aM l]=some (aM (dv l)):=by
 refine ay func15 rfl λR t=>?_
 have c:=fI l;have p:=len_sizes l;simp[go_sem];refine bL (aBo l) l.length ⟨0,rfl,aN _,g_,g_,.inr ⟨1,g_⟩⟩ ?_;rintro m u h ⟨k,rfl,I,q,r,g⟩;obtain⟨w,j⟩:∃v,v=u.get 3:=⟨_,rfl⟩
 rw[<-j]at g;by_cases b:k<l.length
 ·have d:(k:Int)<l.length:=o_;have n:=eJ l k b;have z:=wS k o_;have A:=zS l[k] (hs _ (aF b));have e:(l.take (k+1)).flatMap ez=(l.take k).flatMap ez++ez l[k]:=by rw[aJ b,eP];simp
  have f:=mN (l.take (k+1));have B:=take_sizes_le l (k+1);rw[e,aL]at f;have⟨D,E,i,s,_,_⟩:=eW (ys:=ez l[k]) (x:=.unk) g o_;rw[<-e]at s;change bu C.P false h 37 w (aM (ez l[k]))=some (D,E)at i;simp[go_sem,q,r,<-j,c,d,n,gd,A,i,-Int.natCast_add,z];exact⟨l.length-(k+1),o_,k+1,rfl,b,g_,g_,by simpa[go_sem]using s⟩
 have:k=l.length:=o_;subst this;rw[ah]at g;have⟨x,F⟩:=g.isl;have f:=mN l;have G:=zR (l.flatMap ez) x (λy o=>by have⟨a,i,o⟩:=bR.1 o;exact mB (hs a i) y o) o_
 simp[go_sem,q,r,<-j,c,F,G];exact t ⟨aM (dv l),by simp[aY,cC,f15,go_sem,dv],aK rfl rfl⟩
theorem O6(l:Lq) (x:Ext) (hs:∀x∈l,x.size<4000000) (hl:sizes l<4000000) (h:H):ak C h (.func 15 []) (some [.isl (l.map enc) x])=some (aM (dv l),h):=aX (args':=[aM l]) rfl rfl s_ (MJ l hs hl)
end Go.VZ
namespace TL
def lt(x y:T):Prop:=x.cmp y<0
theorem NS{x:T}(a:lt x x):False:=by unfold lt at a;rw[cmp_refl]at a;omega
theorem Bi:∀ {l m:Lq},l.Pairwise lt->m.Pairwise lt->(∀x,x∈l↔x∈m)->l=m
 |[],[],_,_,_=>rfl
 |[],b::m,_,_,h=>by have:=(h b).2 s_;simp at this
 |a::l,[],_,_,h=>by have:=(h a).1 s_;simp at this
 |a::l,b::m,h1,h2,h=>by
  rw[cR]at h1 h2;have d:a=b:=by
   rcases ao.1 ((h a).1 s_)with e|e
   ·exact e
   rcases ao.1 ((h b).2 s_)with f|f
   ·exact f.symm
   exact(NS (cmp_trans (h1.1 b f) (h2.1 a e))).elim
  subst d;congr 1
  refine Bi h1.2 h2.2 λx=>?_
  constructor
  ·intro c;rcases ao.1 ((h x).1 (by simp[c]))with e|e
   ·subst e;exact(NS (h1.1 _ c)).elim
   exact e
  intro c;rcases ao.1 ((h x).2 (by simp[c]))with e|e
  ·subst e;exact(NS (h2.1 _ c)).elim
  exact e
theorem yj{t:T}:∀ {s:Lq},s.Pairwise lt->(oB t s).Pairwise lt
 |[],_=>by simp[oB]
 |x::r,h=>by
  rw[cR]at h;rw[oB];split
  ·rename_i hlt;rw[cR,cR];refine⟨λy hy=>?_,h⟩;rcases ao.1 hy with rfl|hy
   ·exact hlt
   exact cmp_trans hlt (h.1 y hy)
  split
  ·rw[cR];exact h
  rename_i h1 h2;rw[cR];refine⟨λy hy=>?_,yj h.2⟩;rcases mem_addS.1 hy with rfl|hy
  ·exact cmp_lt o_
  exact h.1 y hy
theorem yD(l:Lq):(mo l).Pairwise lt:=by
 have b:∀(l s:Lq),s.Pairwise lt->(l.foldl (λs t=>oB t s) s).Pairwise lt:=by
  intro l;induction l with
  |nil=>intro s h;exact h
  |cons a l c=>intro s h;exact c _ (yj h)
 exact b l [] List.Pairwise.nil
theorem FF{l:Lq}(hs:l.Pairwise le):∀j,j<=l.length->(ddj l j).Pairwise lt/\∀x,x∈ddj l j↔x∈l.take j
 |0,_=>by simp[ddj]
 |j+1,hj=>by
  have⟨h1,h2⟩:=FF hs j o_;have b:j<l.length:=o_;have v:∀i,i<l.length->l.getD i default=l[i]!:=λi k=>by rw[bK,aC k];simp[List.getElem!_eq_getElem?_getD,aC k]
  have o:l.getD j default=l[j]:=by rw[bK,aC b];rfl
  rw[ddj,o];split
  ·rename_i d;have a:j-1<l.length:=o_;have c:l.getD (j-1) default=l[j-1]:=by rw[bK,aC a];rfl
   rw[c]at d;have e:=cmp_zero.1 d.2;refine⟨h1,λx=>?_⟩;rw[h2,aJ b,ac,bJ];constructor
   ·exact .inl
   rintro(h|h)
   ·exact h
   rw[h,e,List.mem_take_iff_getElem];exact⟨j-1,o_,rfl⟩
  rename_i d;refine⟨?_,λx=>?_⟩
  ·rw[List.pairwise_append];refine⟨h1,s_,λx p y n=>?_⟩;simp only[bJ]at n;subst n;obtain⟨i,k,rfl⟩:=List.mem_take_iff_getElem.1 ((h2 x).1 p);have q:i<j:=o_;have f:=iZ.1 hs;have a:j-1<l.length:=o_;have c:l.getD (j-1) default=l[j-1]:=by rw[bK,aC a];rfl
   rw[c]at d;have m:l[j].cmp l[j-1]≠0:=λe=>d ⟨o_,e⟩
   have r:le l[j-1] l[j]:=f (j-1) j a b o_;have g:lt l[j-1] l[j]:=by rw[le_iff]at r;unfold lt;rw[cmp_anti]at m;omega
   by_cases e:i=j-1
   ·subst e;exact g
   have s:le l[i] l[j-1]:=f i (j-1) o_ a o_;rw[le_iff]at s;unfold lt at g ⊢;have t:=cmp_tri l[i] l[j-1] l[j];by_cases u:l[i].cmp l[j-1]=0
   ·rw[t.1 u];exact g
   exact t.2.2 o_ g
  rw[ac,h2,aJ b,ac]
theorem Bw(l:Lq):(vN l).Pairwise lt/\∀x,x∈vN l↔x∈l:=by have⟨a,b⟩:=FF (srt_sorted l) (srt l).length (aR _);refine⟨a,λx=>?_⟩;unfold vN dd;rw[b,ah,mem_srt]
end TL
namespace Go.VZ
open TL
theorem NQ{k:Int}{x:T}:∀t:T,x∈cZ (gY k) t↔x∈cZ bY t/\x.kind=k:=by
 refine T.ind λt c=>?_
 rw[qb,qb,ac,ac,nA,nA,bR,bR];constructor
 ·rintro(h|⟨a,b,h⟩)
  ·unfold gY at h;split at h
   ·rename_i e;simp only[bJ]at h;subst h;exact⟨.inl (by simp[bY]),e⟩
   simp at h
  exact⟨.inr ⟨a,b,((c a b).1 h).1⟩,((c a b).1 h).2⟩
 rintro⟨h|⟨a,b,h⟩,e⟩
 ·simp only[bY,bJ]at h;subst h;exact .inl (by simp[gY,e])
 exact .inr ⟨a,b,(c a b).2 ⟨h,e⟩⟩
end Go.VZ
namespace Go.VZ
open Go Go.V Go.Proofs Tryz TL
theorem JX{C:Cfg}{cf:FuncId}{ops:Array Oper}{base:Nat}{K K':PT->H->List FP->Prop}(hk:∀s h F,K s h F->K' s h F):∀(l:List Oper) (i:Nat) (s:PT) (h:H) (F:List FP),MX C cf ops base K i l s h F->MX C cf ops base K' i l s h F
 |[],_,_,_,_,hx=>hk _ _ _ hx
 |_::l,_,_,_,_,⟨v,h2,f,e,hx⟩=>⟨v,h2,f,e,JX hk l _ _ _ _ hx⟩
theorem tu{C:Cfg}{cf:FuncId}{R:Ex->PT->H->Prop}{k:List It}{s:PT}{h:H}(id:Nat) (ops:Array Oper) (P:PT->H->Prop) (hm:C.mix cf id=true) (ht:sO ops=true)
  (hx:MX C cf ops h.length (λs' h' F=>ri ops F=true/\P s' h') 0 ops.toList s (h++List.replicate ops.size .void) []) (hk:∀s' h',P s' h'->N C cf R k s' h') (hc:C.cut cf id=none:=by rfl):W C cf R (.region id ops true) k s h:=
 ue id ops hm ht (JX (λ_ _ _ a=>⟨a.1,hk _ _ a.2⟩) _ _ _ _ _ hx) hc
theorem xV(l:Lb):fB C.P 45 (binds l)=some (.int .i64 l.length):=by simp[binds,mW]
theorem UA{h:H}{i:Nat}(t:T) (hi:h[i]?=some (.cells zc .live)):cL C.P h 39 (.ptr i 0) (enc t)=some (h.set i (.cells (enc t).cells .live)):=by rw[bE];simp[cL,hi,s25,zc,aV]
theorem mem_walk{x t:T}:x∈cZ bY t↔x=t\/∃k∈t.kids,x∈cZ bY k:=by rw[qb,ac,nA,bR];simp[bY]
theorem fT(t:T):t∈cZ bY t:=mem_walk.2 (.inl rfl)
mutual
def jc(x y:T):T->T
 |.mk k n s l=>if T.cmp (.mk k n s l) x=0 then y else .mk k n s (If x y l)
def If(x y:T):Lq->Lq
 |[]=>[]
 |t::l=>jc x y t::If x y l
end
theorem Bt(x y:T):∀l,If x y l=l.map (jc x y)
 |[]=>rfl
 |t::l=>by rw[If,Bt x y l];rfl
theorem zG(x y t:T):jc x y t=if t.cmp x=0 then y else .mk t.kind t.name t.sort (t.kids.map (jc x y)):=by cases t;rw[jc,Bt];rfl
def pw(t:T):Prop:=∀y∈cZ bY t,y.kind=1->y.kids=[]
theorem CB{t k:T}(h:pw t) (hk:k∈t.kids):pw k:=λy a=>h y (mem_walk.2 (.inr ⟨k,hk,a⟩))
theorem Cz{l:Lq}(h:mV l=0):∀k∈l,dS k=0:=by
 induction l with
 |nil=>simp
 |cons a l c=>
  rw[mV]at h;have⟨d,e⟩:=thn_zero.1 h;intro k b;rcases ao.1 b with rfl|b
  ·exact d
  exact c e k b
theorem kq:∀t:T,dS t=0->∀y∈cZ bY t,dS y=0:=by
 refine T.ind λt c h y a=>?_
 rcases mem_walk.1 a with rfl|⟨k,b,a⟩
 ·exact h
 rw[qk]at h;exact c k b (Cz (thn_zero.1 h).2 k b) y a
theorem qm{t:T}(h:jQ t=0) (hk:t.kind=1\/t.kind=2):t.kids=[]:=by
 unfold jQ at h;split at h
 ·cases h
 rename_i b;cases c:t.kids with
 |nil=>rfl
 |cons a l=>exfalso;apply b;simp only[vg,c,aG];rcases hk with hk|hk<;>simp[hk]
theorem xP{t:T}(h:jQ t=0):t.kids.length<=8:=by
 unfold jQ at h;split at h
 ·cases h
 split at h
 ·cases h
 split at h
 ·cases h
 omega
theorem gF{t:T}(h:dS t=0):jQ t=0:=by rw[qk]at h;exact(thn_zero.1 h).1
theorem pf{t:T}(h:bh t=0):pw t:=λy a k=>qm (gF (kq t (cz h).1 y a)) (.inl k)
theorem LH{t k:T}(h:k∈t.kids):k.depth<t.depth:=by
 rw[wX t];have:∀l:Lq,k∈l->k.depth<=depths l:=by
  intro l;induction l with
  |nil=>simp
  |cons a l c=>
   intro b;rw[depths];rcases ao.1 b with rfl|b
   ·exact fN _ _
   exact cW (c b) (ey _ _)
 exact Nat.lt_succ_of_le (this _ h)
theorem uA{t k:T}(h:bh t=0) (hk:k∈t.kids):bh k=0:=by have⟨d,e,f⟩:=cz h;have a:=kq t d k (mem_walk.2 (.inr ⟨k,hk,fT k⟩));have b:=kid_size hk;have c:=LH hk;unfold bh;rw[a,if_neg o_];rfl
theorem Ef{x y:T}:∀t:T,pw t->∀z,z.kind=1->z∈cZ bY (jc x y t)->(z∈cZ bY t/\z≠x)\/z∈cZ bY y:=by
 refine T.ind λt n j z g f=>?_
 rw[zG]at f;split at f
 ·exact .inr f
 rename_i h;rcases mem_walk.1 f with e|⟨k,l,f⟩
 ·left;have i:t.kind=1:=by rw[e]at g;exact g
  have c:=j t (fT t) i;have:z=t:=by rw[e,c];cases t;simp only[T.kind,T.name,T.sort,T.kids]at c ⊢;subst c;rfl
  subst this;exact⟨fT _,λe=>h (cmp_zero.2 e)⟩
 simp only[T.kids,bV]at l;obtain⟨m,d,rfl⟩:=l;rcases n m d (CB j d) z g f with⟨a,b⟩|a
 ·exact .inl ⟨mem_walk.2 (.inr ⟨m,d,a⟩),b⟩
 exact .inr a
def occ(x t:T):Bool:=decide (x∈cZ bY t)
inductive Ch where
 |bad (e:Int)
 |ok (x y:T)
def HM(x t:T):Ch:=if x.sort≠0/\(t.kind≠2\/t.sort≠x.sort)then .bad 11 else if occ x t=true then .bad 12 else .ok x t
def kz(a b:T):Ch:=
 if a.kind=1 then
  if b.kind=1 then
   if(a.sort=b.sort/\a.cmp b<0)\/(a.sort≠b.sort/\b.sort=0)then .ok b a
   else if a.sort≠b.sort/\a.sort≠0 then .bad 11 else .ok a b
  else HM a b
 else if b.kind=1 then HM b a
 else .bad 11
def jY(a b:T):Bool:=decide (a.kind=3)&&decide (b.kind=3)&&decide (a.name=b.name)&&decide (a.kids.length=b.kids.length)
def rB(a b:T):Lb:=a.kids.zip b.kids
def okP(x y:T) (ps:Lb):Bool:=ps.all λp=>decide (bh (jc x y p.1)=0)&&decide (bh (jc x y p.2)=0)
def okS(x y:T) (s:Lb):Bool:=s.all λb=>decide (bh (jc x y b.2)=0)
def okU(x y:T) (ps s:Lb):Bool:=okP x y ps&&okS x y s
def qO(x y:T) (ps:Lb):Lb:=ps.map λp=>(jc x y p.1,jc x y p.2)
def mU(x y:T) (s:Lb):Lb:=s.map λb=>(b.1,jc x y b.2)
theorem CT{a b x y:T}(ha:bh a=0) (hb:bh b=0) (hne:a≠b) (h:kz a b=.ok x y):x.kind=1/\x∉cZ bY y/\((x=a/\y=b)\/(x=b/\y=a)):=by
 have d:∀u v:T,v.kind=1->pw v->u≠v->u∉cZ bY v:=λu v m n o p=>by
  rcases mem_walk.1 p with e|⟨k,l,_⟩
  ·exact o e
  rw[n v (fT v) m]at l;simp at l
 have f:∀u v:T,u.kind=1->HM u v=.ok x y->x=u/\y=v/\u∉cZ bY v:=λu v _ c=>by
  unfold HM at c;split at c
  ·cases c
  split at c
  ·cases c
  rename_i q;simp only[Ch.ok.injEq]at c;exact⟨c.1.symm,c.2.symm,by simpa[occ]using q⟩
 unfold kz at h;split at h
 ·rename_i i;split at h
  ·rename_i g;split at h
   ·simp only[Ch.ok.injEq]at h;obtain⟨rfl,rfl⟩:=h;exact⟨g,d _ _ i (pf ha) (λe=>hne e.symm),.inr ⟨rfl,rfl⟩⟩
   split at h
   ·cases h
   simp only[Ch.ok.injEq]at h;obtain⟨rfl,rfl⟩:=h;exact⟨i,d _ _ g (pf hb) hne,.inl ⟨rfl,rfl⟩⟩
  obtain⟨rfl,rfl,j⟩:=f a b i h;exact⟨i,j,.inl ⟨rfl,rfl⟩⟩
 split at h
 ·rename_i g;obtain⟨rfl,rfl,j⟩:=f b a g h;exact⟨g,j,.inr ⟨rfl,rfl⟩⟩
 cases h
def inP(u:T) (ps:Lb):Prop:=∃p∈ps,u∈cZ bY p.1\/u∈cZ bY p.2
open Classical in
noncomputable def sY(U:Lq) (ps:Lb):Nat:=(U.filter λu=>decide (inP u ps)).length
theorem xf{α:Type}{p q:α->Bool}:∀l:List α,(∀a∈l,p a=true->q a=true)->(l.filter p).length<=(l.filter q).length
 |[],_=>aR _
 |a::l,h=>by
  have ih:=xf l λb c=>h b (bZ _ c)
  have d:=h a s_;rw[jb,jb];by_cases e:p a=true
  ·rw[if_pos e,if_pos (d e)];simp;omega
  rw[if_neg e];split<;>simp<;>omega
theorem CN{α:Type}{p q:α->Bool}{x:α}:∀l:List α,(∀a∈l,p a=true->q a=true)->x∈l->p x=false->q x=true->(l.filter p).length<(l.filter q).length
 |[],_,hx,_,_=>by simp at hx
 |a::l,h,hx,h1,h2=>by
  have hl:∀b∈l,p b=true->q b=true:=λb c=>h b (bZ _ c)
  have d:=h a s_;rw[jb,jb];rcases ao.1 hx with rfl|hx
  ·have:=xf l hl;rw[if_neg (by rw[h1];simp),if_pos h2];simp;omega
  have f:=CN l hl hx h1 h2;by_cases e:p a=true
  ·rw[if_pos e,if_pos (d e)];simp;omega
  rw[if_neg e];split<;>simp<;>omega
theorem zQ{U:Lq}{ps qs:Lb}(h:∀u∈U,inP u ps->inP u qs):sY U ps<=sY U qs:=by unfold sY;exact xf U λu a b=>by simpa using h u a (by simpa using b)
theorem Oa(U:Lq) (ps:Lb):sY U ps<=U.length:=dA _ _
theorem Rq{U:Lq}{ps qs:Lb}{x:T}(h:∀u∈U,inP u ps->inP u qs) (hx:x∈U) (h1:¬inP x ps) (h2:inP x qs):sY U ps<sY U qs:=by unfold sY;exact CN (x:=x) U (λu a b=>by simpa using h u a (by simpa using b)) hx (by simpa using h1) (by simpa using h2)
structure InvU (U:Lq) (K:Nat) (ps s:Lb):Prop where
 valid:∀p∈ps,bh p.1=0/\bh p.2=0
 varsU:∀p∈ps,∀u:T,u.kind=1->u∈cZ bY p.1\/u∈cZ bY p.2->u∈U
 allU:∀u∈U,u.kind=1
 bval:∀b∈s,bh b.1=0/\bh b.2=0
 gone:∀b∈s,b.1.kind=1/\¬inP b.1 ps
 diff:s.Pairwise λa b=>a.1≠b.1
 len:∃A B,ps=A++B/\(A.map λp=>p.1.size).sum<=400/\B.length+400*sY U ps<=K
 slen:s.length+sY U ps<=U.length
theorem IX{A:Lb}:A.length<=(A.map λp=>p.1.size).sum:=by
 induction A with
 |nil=>simp
 |cons a A b=>have:=size_pos a.1;simp only[aG,aS,iF];omega
theorem InvU.plen{U K ps s}(h:InvU U K ps s):ps.length<=400+K:=by obtain⟨A,B,rfl,a,b⟩:=h.len;have:=IX (A:=A);rw[aL];omega
theorem InvU.skip{U K p ps s}(h:InvU U K (p::ps) s):InvU U K ps s:=by
 have d:∀u:T,inP u ps->inP u (p::ps):=λu ⟨q,c,g⟩=>⟨q,bZ _ c,g⟩
 have l:=zQ (U:=U) (ps:=ps) (qs:=p::ps) λu _=>d u
 refine⟨λq c=>h.valid q (bZ _ c),λq c=>h.varsU q (bZ _ c),h.allU,h.bval,λb f=>⟨(h.gone b f).1,λi=>(h.gone b f).2 (d _ i)⟩,h.diff,?_,by have:=h.slen;omega⟩;have⟨A,B,e,j,k⟩:=h.len;cases A with
 |nil=>
  cases B with
  |nil=>simp at e
  |cons b B=>simp only[bk,bw]at e;obtain⟨rfl,rfl⟩:=e;exact⟨[],ps,rfl,s_,by simp only[aG]at k;omega⟩
 |cons a A=>simp only[cP,bw]at e;obtain⟨rfl,rfl⟩:=e;exact⟨A,B,rfl,by simp only[aS,iF]at j;omega,o_⟩
theorem zB{a b:T}{p:T × T}(h:p∈rB a b):p.1∈a.kids/\p.2∈b.kids:=by have⟨u,v⟩:=p;exact⟨(eK h).1,(eK h).2⟩
theorem IP:∀(l m:Lq),((l.zip m).map λp=>p.1.size).sum<=sizes l
 |[],_=>s_
 |_::_,[]=>s_
 |a::l,b::m=>by have:=IP l m;simp only[mA,aS,iF,sizes];omega
theorem InvU.kids{U K a b ps s}(h:InvU U K ((a,b)::ps) s):InvU U K (rB a b++ps) s:=by
 have g:=h.valid _ cJ;have i:∀u:T,inP u (rB a b++ps)->inP u ((a,b)::ps):=λu ⟨q,d,f⟩=>by
  rcases ac.1 d with d|d
  ·have:=zB d;exact⟨(a,b),cJ,f.imp (λm=>mem_walk.2 (.inr ⟨_,this.1,m⟩)) (λm=>mem_walk.2 (.inr ⟨_,this.2,m⟩))⟩
  exact⟨q,bZ _ d,f⟩
 have p:=zQ (U:=U) λu _=>i u
 refine⟨λq d=>?_,λq d u j f=>?_,h.allU,h.bval,λb k=>⟨(h.gone b k).1,λl=>(h.gone b k).2 (i _ l)⟩,h.diff,?_,by have:=h.slen;omega⟩
 ·rcases ac.1 d with d|d
  ·have:=zB d;exact⟨uA g.1 this.1,uA g.2 this.2⟩
  exact h.valid q (bZ _ d)
 ·rcases ac.1 d with d|d
  ·have:=zB d;exact h.varsU (a,b) cJ u j (f.imp (λm=>mem_walk.2 (.inr ⟨_,this.1,m⟩)) (λm=>mem_walk.2 (.inr ⟨_,this.2,m⟩)))
  exact h.varsU q (bZ _ d) u j f
 have⟨A,B,e,n,o⟩:=h.len;have r:=IP a.kids b.kids;have t:=size_kids a;cases A with
 |nil=>
  cases B with
  |nil=>simp at e
  |cons c B=>simp only[bk,bw]at e;obtain⟨rfl,rfl⟩:=e;have:=(cz g.1).2.1;exact⟨rB a b,ps,rfl,by unfold rB;simp only at this;omega,by simp only[aG]at o;omega⟩
 |cons c A=>simp only[cP,bw]at e;obtain⟨rfl,rfl⟩:=e;refine⟨rB a b++A,B,s_,?_,o_⟩;simp only[aS,iF]at n;rw[br,List.sum_append];unfold rB;omega
theorem Q6{x y:T}{ps:Lb}(hl:∀p∈ps,pw p.1/\pw p.2){u:T}(hu:u.kind=1) (h:inP u (qO x y ps)):(inP u ps/\u≠x)\/u∈cZ bY y:=by
 have⟨q,e,c⟩:=h;obtain⟨p,d,rfl⟩:=bV.1 e;rcases c with c|c
 ·rcases Ef _ (hl p d).1 u hu c with⟨a,b⟩|a
  ·exact .inl ⟨⟨p,d,.inl a⟩,b⟩
  exact .inr a
 rcases Ef _ (hl p d).2 u hu c with⟨a,b⟩|a
 ·exact .inl ⟨⟨p,d,.inr a⟩,b⟩
 exact .inr a
theorem InvU.perm{U K ps s s'}(h:InvU U K ps s) (p:s.Perm s'):InvU U K ps s':=
 ⟨h.valid,h.varsU,h.allU,λb c=>h.bval b (p.mem_iff.2 c),λb c=>h.gone b (p.mem_iff.2 c),(p.pairwise_iff fun {a b}(k:a.1≠b.1)=>λe=>k e.symm).1 h.diff,h.len,by rw[<-p.length_eq];exact h.slen⟩
theorem InvU.bind{U K a b ps s x y}(h:InvU U K ((a,b)::ps) s) (hne:a≠b) (hch:kz a b=.ok x y) (hok:okU x y ps s=true):InvU U K (qO x y ps) (mU x y s++[(x,y)])/\sY U (qO x y ps)<sY U ((a,b)::ps):=by
 have⟨F,G⟩:=h.valid _ cJ;have⟨t,v,i⟩:=CT F G hne hch;have m:inP x ((a,b)::ps):=⟨(a,b),cJ,i.elim (λe=>.inl (e.1▸fT _)) (λe=>.inr (e.1▸fT _))⟩
 have w:∀u,u∈cZ bY y->inP u ((a,b)::ps):=λu k=>⟨(a,b),cJ,i.elim (λe=>.inr (e.2▸k)) (λe=>.inl (e.2▸k))⟩
 have I:bh x=0:=by rcases i with⟨rfl,_⟩|⟨rfl,_⟩<;>assumption
 have J:bh y=0:=by rcases i with⟨_,rfl⟩|⟨_,rfl⟩<;>assumption
 have L:∀p∈ps,pw p.1/\pw p.2:=λp f=>⟨pf (h.valid p (bZ _ f)).1,pf (h.valid p (bZ _ f)).2⟩
 have n:∀u:T,u.kind=1->inP u (qO x y ps)->inP u ((a,b)::ps)/\u≠x:=λu k j=>by
  rcases Q6 L k j with⟨⟨q,o,l⟩,M⟩|l
  ·exact⟨⟨q,bZ _ o,l⟩,M⟩
  exact⟨w u l,λe=>v (e▸l)⟩
 have z:x∈U:=by have⟨p,f,l⟩:=m;exact h.varsU p f x t l
 have r:sY U (qO x y ps)<sY U ((a,b)::ps):=Rq (λu k j=>(n u (h.allU u k) j).1) z (λj=>(n x t j).2 rfl) m;simp only[okU,okP,okS,am,bI,decide_eq_true_eq]at hok;refine⟨⟨λq o=>?_,λq o u D k=>?_,h.allU,λc g=>?_,λc g=>?_,?_,?_,?_⟩,r⟩
 ·obtain⟨p,f,rfl⟩:=bV.1 o;exact hok.1 p f
 ·have⟨p,f,l⟩:=(n u D ⟨q,o,k⟩).1;exact h.varsU p f u D l
 ·rcases ac.1 g with g|g
  ·obtain⟨p,f,rfl⟩:=bV.1 g;exact⟨(h.bval p f).1,hok.2 p f⟩
  simp only[bJ]at g;subst g;exact⟨I,J⟩
 ·rcases ac.1 g with g|g
  ·obtain⟨p,f,rfl⟩:=bV.1 g;exact⟨(h.gone p f).1,λj=>(h.gone p f).2 (n _ (h.gone p f).1 j).1⟩
  simp only[bJ]at g;subst g;exact⟨t,λj=>(n x t j).2 rfl⟩
 ·rw[List.pairwise_append];refine⟨by rw[mU,gk];exact h.diff,s_,λc g d E=>?_⟩;simp only[bJ]at E;subst E;obtain⟨p,f,rfl⟩:=bV.1 g;exact λe=>(h.gone p f).2 (by rw[show p.1=x from e];exact m)
 ·refine⟨[],qO x y ps,rfl,s_,?_⟩;have:=h.skip.plen;have⟨A,B,e,N,O⟩:=h.len;have Q:=IX (A:=A);have S:ps.length+1=A.length+B.length:=by have:=congrArg List.length e;simpa using this
  simp only[qO,aU];simp only[qO]at r;omega
 have:=h.slen;simp only[mU,aL,aU,List.length_singleton];omega
end Go.VZ
namespace Go.VZ
open Go Go.V Go.Proofs Tryz TL
def kB(ins:T × T->Lb->Lb):Nat->Lb->Lb->Option (Lb × Int)
 |_,[],s=>some (s,0)
 |0,_::_,_=>none
 |n+1,(a,b)::ps,s=>
  if a.cmp b=0 then kB ins n ps s
  else if jY a b=true then kB ins n (rB a b++ps) s
  else match kz a b with
   |.bad e=>some ([],e)
   |.ok x y=>if okU x y ps s=true then kB ins n (qO x y ps) (ins (x,y) (mU x y s))else some ([],3)
def Q5(b:T × T) (s:Lb):Lb:=s++[b]
def kI(b:T × T):Lb->Lb
 |[]=>[b]
 |c::l=>if b.1.cmp c.1<0 then b::c::l else c::kI b l
theorem mH(b:T × T):∀l,(kI b l).Perm (l++[b])
 |[]=>.refl _
 |c::l=>by
  rw[kI];split
  ·exact(List.perm_append_singleton b (c::l)).symm
  exact(mH b l).cons c
theorem Nm(b:T × T) (l:Lb):(kI b l).length=l.length+1:=by rw[(mH b l).length_eq,aL];rfl
def xy(l:Lb):Prop:=l.Pairwise λa b=>le a.1 b.1
theorem Eu{b:T × T}:∀ {l},xy l->xy (kI b l)
 |[],_=>by simp[kI,xy]
 |c::l,h=>by
  have h':=cR.1 h;rw[kI];split
  ·rename_i e;have f:le b.1 c.1:=le_iff.2 o_;refine cR.2 ⟨λd a=>?_,h⟩;rcases ao.1 a with rfl|a
   ·exact f
   exact le_trans f (h'.1 d a)
  rename_i e;refine cR.2 ⟨λd a=>?_,Eu h'.2⟩;rcases ac.1 ((mH b l).mem_iff.1 a)with a|a
  ·exact h'.1 d a
  simp only[bJ]at a;subst a;exact e
theorem M0{x y:T}{s:Lb}(h:xy s):xy (mU x y s):=by unfold xy mU;rw[gk];exact h
theorem NA{x y:T}{s s':Lb}(p:s.Perm s'):okS x y s=okS x y s':=by rw[fO];simp only[okS,bI];exact⟨λh b a=>h b (p.mem_iff.2 a),λh b a=>h b (p.mem_iff.1 a)⟩
theorem wA:∀(n:Nat) (ps s s' r:Lb) (e:Int),s.Perm s'->xy s'->kB Q5 n ps s=some (r,e)->∃r',kB kI n ps s'=some (r',e)/\r.Perm r'/\xy r'
 |n,[],s,s',r,e,hp,ha,h=>by simp only[kB,aA,aD]at h;obtain⟨rfl,rfl⟩:=h;exact⟨s',by simp[kB],hp,ha⟩
 |0,_::_,s,s',r,e,hp,ha,h=>by simp[kB]at h
 |n+1,(a,b)::ps,s,s',r,e,hp,ha,h=>by
  rw[kB]at h ⊢;by_cases c:a.cmp b=0
  ·rw[if_pos c]at h ⊢;exact wA n ps s s' r e hp ha h
  rw[if_neg c]at h ⊢;by_cases d:jY a b=true
  ·rw[if_pos d]at h ⊢;exact wA n _ s s' r e hp ha h
  rw[if_neg d]at h ⊢;cases f:kz a b with
  |bad j=>rw[f]at h;simp only[aA,aD]at h;obtain⟨rfl,rfl⟩:=h;exact⟨[],rfl,.refl _,List.Pairwise.nil⟩
  |ok x y=>
   rw[f]at h;dsimp only at h ⊢;have i:okU x y ps s=okU x y ps s':=by rw[okU,okU,NA hp]
   rw[<-i];by_cases g:okU x y ps s=true
   ·rw[if_pos g]at h ⊢;refine wA n _ _ _ r e ?_ (Eu (M0 ha)) h;exact((hp.map _).append_right _).trans (mH _ _).symm
   rw[if_neg g]at h ⊢;simp only[aA,aD]at h;obtain⟨rfl,rfl⟩:=h;exact⟨[],rfl,.refl _,List.Pairwise.nil⟩
theorem zD{U:Lq}{K:Nat}:∀(n:Nat) (ps s r:Lb),InvU U K ps s->kB Q5 n ps s=some (r,0)->r=[]\/InvU U K [] r
 |n,[],s,r,hi,h=>by simp only[kB,aA,aD,and_true]at h;subst h;exact .inr hi
 |0,_::_,s,r,hi,h=>by simp[kB]at h
 |n+1,(a,b)::ps,s,r,hi,h=>by
  rw[kB]at h;by_cases h1:a.cmp b=0
  ·rw[if_pos h1]at h;exact zD n ps s r hi.skip h
  rw[if_neg h1]at h;by_cases h2:jY a b=true
  ·rw[if_pos h2]at h;exact zD n _ s r hi.kids h
  rw[if_neg h2]at h;cases hc:kz a b with
  |bad e'=>rw[hc]at h;simp only[aA,aD]at h;exact .inl h.1.symm
  |ok x y=>
   rw[hc]at h;dsimp only at h;by_cases h3:okU x y ps s=true
   ·rw[if_pos h3]at h;exact zD n _ _ r (hi.bind (λe=>h1 (cmp_zero.2 e)) hc h3).1 h
   rw[if_neg h3]at h;simp at h
def szP(ps:Lb):Nat:=(ps.map λp=>p.1.size+p.2.size).sum
theorem GR(l m:Lb):szP (l++m)=szP l+szP m:=by simp[szP]
theorem IS:∀(l m:Lq),szP (l.zip m)<=sizes l+sizes m
 |[],_=>by simp[szP]
 |_::_,[]=>by simp[szP]
 |a::l,b::m=>by have:=IS l m;simp only[szP,mA,aS,iF,sizes]at this ⊢;omega
theorem aBG{U:Lq}{K:Nat}:∀(c n:Nat) (ps s:Lb),InvU U K ps s->sY U ps<=c->szP ps<=n->∃m r,kB Q5 m ps s=some r:=by
 intro c;induction c using Nat.strongRecOn with
 |_ c t=>
  intro n;induction n using Nat.strongRecOn with
  |_ n i=>
   intro ps s j w z;match ps,j,w,z with
   |[],_,_,_=>exact⟨0,_,by rw[kB]⟩
   |(a,b)::ps,j,w,z=>
    have B:=size_pos a;have D:=size_pos b;have E:szP ((a,b)::ps)=a.size+b.size+szP ps:=by simp[szP]
    by_cases g:a.cmp b=0
    ·have k:=j.skip;have v:sY U ps<=sY U ((a,b)::ps):=zQ λu _ ⟨q,f,o⟩=>⟨q,bZ _ f,o⟩
     have⟨m,r,h⟩:=i (szP ps) o_ ps s k o_ (aR _);exact⟨m+1,r,by rw[kB,if_pos g];exact h⟩
    by_cases p:jY a b=true
    ·have k:=j.kids;have v:sY U (rB a b++ps)<=sY U ((a,b)::ps):=zQ λu _ ⟨q,f,o⟩=>by
      rcases ac.1 f with f|f
      ·have:=zB f;exact⟨(a,b),cJ,o.imp (λm=>mem_walk.2 (.inr ⟨_,this.1,m⟩)) (λm=>mem_walk.2 (.inr ⟨_,this.2,m⟩))⟩
      exact⟨q,bZ _ f,o⟩
     have F:=IS a.kids b.kids;have l:szP (rB a b++ps)<n:=by rw[GR,rB];have:=size_kids a;have:=size_kids b;omega
     have⟨m,r,h⟩:=i _ l _ s k o_ (aR _);exact⟨m+1,r,by rw[kB,if_neg g,if_pos p];exact h⟩
    cases d:kz a b with
    |bad e=>exact⟨1,([],e),by rw[kB,if_neg g,if_neg p,d]⟩
    |ok x y=>
     by_cases l:okU x y ps s=true
     ·have⟨k,A⟩:=j.bind (λe=>g (cmp_zero.2 e)) d l;have⟨m,r,h⟩:=t _ o_ _ _ _ k (aR _) (aR _);exact⟨m+1,r,by rw[kB,if_neg g,if_neg p,d];dsimp only;rw[if_pos l];exact h⟩
     exact⟨1,([],3),by rw[kB,if_neg g,if_neg p,d];dsimp only;rw[if_neg l]⟩
theorem PL:∀ {l m:Lb},l.Perm m->xy l->xy m->l.Pairwise (λa b=>a.1≠b.1)->l=m
 |[],m,p,_,_,_=>(List.nil_perm.1 p).symm
 |a::l,[],p,_,_,_=>by have:=p.length_eq;simp at this
 |a::l,b::m,p,ha,hb,hd=>by
  have c:=cR.1 ha;have d:=cR.1 hb;have f:=cR.1 hd;have e:a=b:=by
   rcases ao.1 (p.mem_iff.1 cJ)with e|h
   ·exact e
   rcases ao.1 (p.mem_iff.2 (cJ (a:=b) (l:=m)))with e|g
   ·exact e.symm
   exact absurd (le_antisymm (c.1 b g) (d.1 a h)) (f.1 b g)
  subst e;rw[PL (p.cons_inv) c.2 d.2 f.2]
end Go.VZ
namespace Go.VP
open Go Go.V Go.Proofs Go.RowKit TL
open Go.VZ (enc Ag lN aM bE au aV ext qT bS)
theorem s86:cr C.P 84=some 8:=k_
theorem a86:fJ C.P 84=some true:=k_
attribute [go_sem] s86 a86
theorem HR(i:Nat):bF C.P 84 (.ptr i 0) 0=some (.ptr i 0):=k_
attribute [go_sem] HR
theorem PC(b:T × T) (h:H):nR C.P h 84 (bS b)=some (.ptr h.length 0,h++[.cells (bS b).cells .live]):=by simp[nR,bS,aV,s86,bf]
theorem Qx{h:H}{i:Nat}{b:T × T}(hi:h[i]?=some (.cells (bS b).cells .live)):aW C.P h 39 (.ptr i 0)=some (enc b.1):=by simp[aW,hi,aZ,a25,s25,bS,aV];rw[bE]
theorem Rr(a b:T × T) (ha:a.1.size<4000000) (hb:b.1.size<4000000):az C 356 [bS a,bS b]=some (.int .i64 (a.1.cmp b.1)):=by
 refine ay Tryz.func356 rfl λR e=>?_
 have f:=zU a.1 b.1 ha hb;obtain⟨d,c⟩:∃g:H,g=[.cells (bS a).cells .live,.cells (bS b).cells .live]:=⟨_,rfl⟩
 have h:d[0]?=some (.cells (bS a).cells .live):=by rw[c];rfl
 have i:d[1]?=some (.cells (bS b).cells .live):=by rw[c];rfl
 have j:=Qx h;have k:=Qx i;simp[go_sem,PC];rw[<-c];simp[go_sem,j,k,f];exact e ⟨.int .i64 (a.1.cmp b.1),by simp[aY,cC,Tryz.f356,go_sem],aK rfl rfl⟩
theorem FM [DFlag] (hD:DFlag.D) (a b:T × T) (ha:a.1.size<4000000) (hb:b.1.size<4000000){w:World}{u v:Value}(hg:lS (λ_ _=>True) w) (hu:IRel (λ_ _=>True) w (bS a) u) (hv:IRel (λ_ _=>True) w (bS b) v) :
  Calls Tryz.prog 356 #[u,v] w λe w'=>e=.returned (.int .i64 (a.1.cmp b.1))/\∃q os,w'=Go.Sort.grow (w.drewN q) os:=by
 have f:=Rr a b ha hb;unfold az at f;split at f<;>try(cases f;done)
 rename_i r g c;refine(okD.fn 356 [bS a,bS b] [] r g k_ c w.heap.size (λ_ _=>True) [] w #[u,v] (.start hg) rfl (λi x y c d=>?_)).mono ?_
 ·match i,c,d with
  |0,c,d=>simp at c d;subst c;subst d;exact .data (lj hu)
  |1,c,d=>simp at c d;subst c;subst d;exact .data (lj hv)
  |i+2,c,d=>simp at c
 rintro e w' ⟨v,rfl,σ',h,j,k⟩;have l:=ji (h.stiller (da g)) dD r _ v f (k.step (.stiller h (da g)));cases l;exact⟨rfl,DN hD (tC j.below j.drawn)⟩
theorem Hj(a b:T × T) (ha:a.1.size<4000000) (hb:b.1.size<4000000){w:World}{u v:Value}(hg:lS (λ_ _=>True) w) (hu:IRel (λ_ _=>True) w (bS a) u) (hv:IRel (λ_ _=>True) w (bS b) v) :
  Calls Tryz.prog 356 #[u,v] w λe w'=>e=.returned (.int .i64 (a.1.cmp b.1))/\∃q os,w'=Go.Sort.grow (w.drewN q) os:=@FM ⟨True⟩ trivial a b ha hb w u v hg hu hv
end Go.VP
namespace Go.Proofs
open Go.Shelf
def Tryz.laysSortB_ren:Go.Shelf.Ren:=⟨fun|6=>158|15=>84|14=>223|28=>128|29=>129|20=>268|21=>269|22=>270|23=>271|24=>272|25=>273|26=>274|27=>275|46=>313|47=>182|48=>183|49=>314|50=>315|57=>357|n=>n,fun|22=>45|24=>84|25=>175|3=>3|39=>121|0=>0|53=>155|55=>157|4=>4|46=>148|45=>147|50=>152|5=>5|9=>9|66=>191|70=>195|76=>237|77=>238|n=>n,fun|n=>n⟩
theorem Tryz.laysSortB:Go.Proofs.SlLaysF0.n6 Tryz.prog Tryz.laysSortB_ren:={
 mixed:=k_
 f6:=⟨Tryz.f158.name,d_,Tryz.func158.trans (congrArg some k_)⟩
 f14:=⟨Tryz.f223.name,d_,Tryz.func223.trans (congrArg some k_)⟩
 f15:=Tryz.func84.trans (congrArg some k_)
 f20:=⟨Tryz.f268.name,d_,Tryz.func268.trans (congrArg some k_)⟩
 f21:=⟨Tryz.f269.name,d_,Tryz.func269.trans (congrArg some k_)⟩
 f22:=⟨Tryz.f270.name,d_,Tryz.func270.trans (congrArg some k_)⟩
 f23:=⟨Tryz.f271.name,d_,Tryz.func271.trans (congrArg some k_)⟩
 f24:=⟨Tryz.f272.name,d_,Tryz.func272.trans (congrArg some k_)⟩
 f25:=⟨Tryz.f273.name,d_,Tryz.func273.trans (congrArg some k_)⟩
 f26:=⟨Tryz.f274.name,d_,Tryz.func274.trans (congrArg some k_)⟩
 f27:=⟨Tryz.f275.name,d_,Tryz.func275.trans (congrArg some k_)⟩
 f28:=Tryz.func128.trans (congrArg some k_)
 f29:=Tryz.func129.trans (congrArg some k_)
 f46:=⟨Tryz.f313.name,d_,Tryz.func313.trans (congrArg some k_)⟩
 f47:=Tryz.func182.trans (congrArg some k_)
 f48:=Tryz.func183.trans (congrArg some k_)
 f49:=⟨Tryz.f314.name,d_,Tryz.func314.trans (congrArg some k_)⟩
 f50:=⟨Tryz.f315.name,d_,Tryz.func315.trans (congrArg some k_)⟩
 f57:=⟨Tryz.f357.name,d_,Tryz.func357.trans (congrArg some k_)⟩
 t0:=Tryz.underlying0
 a0:=Tryz.isAgg0
 z0:=Tryz.sizeOf0
 v0:=Tryz.zeroValue0
 t3:=Tryz.underlying3
 a3:=Tryz.isAgg3
 z3:=Tryz.sizeOf3
 v3:=Tryz.zeroValue3
 t4:=Tryz.underlying4
 a4:=Tryz.isAgg4
 z4:=Tryz.sizeOf4
 v4:=Tryz.zeroValue4
 t5:=Tryz.underlying5
 a5:=Tryz.isAgg5
 z5:=Tryz.sizeOf5
 v5:=Tryz.zeroValue5
 t9:=Tryz.underlying9
 a9:=Tryz.isAgg9
 z9:=Tryz.sizeOf9
 v9:=Tryz.zeroValue9
 t22:=Tryz.underlying45
 a22:=Tryz.isAgg45
 z22:=Tryz.sizeOf45
 v22:=Tryz.zeroValue45
 t25:=Tryz.underlying175
 a25:=Tryz.isAgg175
 z25:=Tryz.sizeOf175
 v25:=Tryz.zeroValue175
 t39:=Tryz.underlying121
 a39:=Tryz.isAgg121
 z39:=Tryz.sizeOf121
 v39:=Tryz.zeroValue121
 t45:=Tryz.underlying147
 a45:=Tryz.isAgg147
 z45:=Tryz.sizeOf147
 v45:=Tryz.zeroValue147
 t46:=Tryz.underlying148
 a46:=Tryz.isAgg148
 z46:=Tryz.sizeOf148
 v46:=Tryz.zeroValue148
 t50:=Tryz.underlying152
 a50:=Tryz.isAgg152
 z50:=Tryz.sizeOf152
 v50:=Tryz.zeroValue152
 t53:=Tryz.underlying155
 a53:=Tryz.isAgg155
 z53:=Tryz.sizeOf155
 v53:=Tryz.zeroValue155
 t55:=Tryz.underlying157
 a55:=Tryz.isAgg157
 z55:=Tryz.sizeOf157
 v55:=Tryz.zeroValue157
 t66:=Tryz.underlying191
 a66:=Tryz.isAgg191
 z66:=Tryz.sizeOf191
 v66:=Tryz.zeroValue191
 t70:=Tryz.underlying195
 a70:=Tryz.isAgg195
 z70:=Tryz.sizeOf195
 v70:=Tryz.zeroValue195
 t76:=Tryz.underlying237
 a76:=Tryz.isAgg237
 z76:=Tryz.sizeOf237
 v76:=Tryz.zeroValue237
 t77:=Tryz.underlying238
 a77:=Tryz.isAgg238
 z77:=Tryz.sizeOf238
 v77:=Tryz.zeroValue238}
end Go.Proofs
namespace Go.VZ
open Go Go.V Go.Proofs Go.RowKit Go.Sort TL
variable {B:Nat}{A0:Nat->Nat->Prop}{σ:List (Option Nat)}{h:H}{w:World}
def bC(b:T × T):LA:=(enc b.1).cells++(enc b.2).cells
theorem F0(b:T × T):bC b=[.int .i64 b.1.kind,.str b.1.name,.int .i64 b.1.sort,aM b.1.kids,.int .i64 b.2.kind,.str b.2.name,.int .i64 b.2.sort,aM b.2.kids]:=by unfold bC;rw[au,au];rfl
theorem A3(b:T × T):(bC b).length=8:=by rw[F0];rfl
theorem Rg(b:T × T):bS b=.agg (bC b):=by rw[F0];rfl
theorem IE(b:T × T):∀c∈bC b,c.one=true:=by intro c a;rw[F0]at a;simp only[ao,cy,or_false]at a;rcases a with rfl|rfl|rfl|rfl|rfl|rfl|rfl|rfl<;>rfl
theorem tj(a:T × T) (l:Lb):ke (a::l)=bC a++ke l:=rfl
theorem ti:∀l:Lb,(ke l).length=8*l.length
 |[]=>rfl
 |a::l=>by rw[tj,aL,A3,ti l,aG];omega
theorem Ar{l:Lb}{j c:Nat}(hj:j<l.length) (hc:c<8):(ke l)[8*j+c]?=(bC l[j])[c]?:=by
 induction l generalizing j with
 |nil=>simp at hj
 |cons a l b=>
  have d:=A3 a;rw[tj];cases j with
  |zero=>rw[aP o_];simp
  |succ j=>rw[aj o_,show 8*(j+1)+c-(bC a).length=8*j+c by omega,b (by simpa using hj)];simp
theorem Aq{l:Lb}{c:AV}(hc:c∈ke l):∃b,c∈bC b:=by simp only[ke,bR]at hc;have⟨b,_,hc⟩:=hc;exact⟨b,hc⟩
structure ElB (A:Nat->Nat->Prop) (w:World) where
 b:T × T
 vs:List Value
 len:vs.length=8
 small:b.1.size<4000000/\b.2.size<4000000
 rel:∀(c:Nat) a v,(bC b)[c]?=some a->vs[c]?=some v->IRel A w a v
theorem Ri{A:Nat->Nat->Prop}{w:World}(x:ElB A w):∀v∈x.vs,v.oneCell'=true:=by intro v d;have⟨c,a⟩:=fG.1 d;have e:=(aB.1 a).1;have g:=x.len;have h:=A3 x.b;have f:(bC x.b)[c]?=some (bC x.b)[c]:=aC o_;exact qv (x.rel c _ v f a) (IE x.b _ (aF _))
theorem Ww{A:Nat->Nat->Prop}{w:World}:∀(c:Nat) a v,(bC (.mk 0 ⟨#[]⟩ 0 [],.mk 0 ⟨#[]⟩ 0 []))[c]?=some a->([.int .i64 0,.string ⟨#[]⟩,.int .i64 0,.slice none 0 0,.int .i64 0,.string ⟨#[]⟩,.int .i64 0,.slice none 0 0]:List Value)[c]?=some v->IRel A w a v:=by
 intro c a v b d;rw[F0]at b;match c,b,d with
 |0,b,d=>simp at b d;subst b;subst d;exact .int _ _
 |1,b,d=>simp at b d;subst b;subst d;exact .str _
 |2,b,d=>simp at b d;subst b;subst d;exact .int _ _
 |3,b,d=>simp at b d;subst b;subst d;exact .islNil
 |4,b,d=>simp at b d;subst b;subst d;exact .int _ _
 |5,b,d=>simp at b d;subst b;subst d;exact .str _
 |6,b,d=>simp at b d;subst b;subst d;exact .int _ _
 |7,b,d=>simp at b d;subst b;subst d;exact .islNil
 |i+8,b,d=>simp at b
instance {A:Nat->Nat->Prop}{w:World}:Inhabited (ElB A w):=⟨⟨(.mk 0 ⟨#[]⟩ 0 [],.mk 0 ⟨#[]⟩ 0 []),_,rfl,d_,Ww⟩⟩
theorem YI{A:Nat->Nat->Prop}{w:World}{vs:Array Value}:∀(l:Lb) (off:Nat),(∀b∈l,b.1.size<4000000/\b.2.size<4000000)->(∀(k:Nat) c v,(ke l)[k]?=some c->vs[off+k]?=some v->IRel A w c v)->off+8*l.length<=vs.size ->
  ∃es:List (ElB A w),es.map ElB.b=l/\∀(j c:Nat) (hj:j<es.length),c<8->vs[off+(8*j+c)]?=(es[j]).vs[c]?
 |[],off,_,_,_=>⟨[],rfl,λj c hj=>by simp at hj⟩
 |a::l,off,hs,hr,hl=>by
  simp only[aG]at hl;have e8:=A3 a;obtain⟨es,h1,h2⟩:=YI l (off+8) (λt ht=>hs t (by simp[ht])) (λk c v hc hv=>hr (8+k) c v (by
   rw[tj,aj o_,show 8+k-(bC a).length=k by omega];exact hc) (by rw[<-fe];exact hv)) o_
  have hg:∀c,c<8->((vs.toList.drop off).take 8)[c]?=vs[off+c]?:=λc hc=>by
   rw[lT hc,cE,bM]
  refine⟨⟨a,(vs.toList.drop off).take 8,by simp;omega,hs a s_,λc x v hx hv=>?_⟩::es,by simp[h1],?_⟩
  ·have hc:c<8:=by have:=(aB.1 hx).1;omega
   rw[hg c hc]at hv;refine hr c x v ?_ hv;have:=Ar (l:=a::l) (j:=0) (c:=c) s_ hc;rw[oe,cH]at this;rw[this];exact hx
  intro j c hj hc;cases j with
  |zero=>change vs[off+(8*0+c)]?=((vs.toList.drop off).take 8)[c]?;rw[hg c hc,oe,cH]
  |succ j=>have:=h2 j c (by simpa using hj) hc;rw[show off+(8*(j+1)+c)=off+8+(8*j+c) by omega,this];rfl
theorem JB{A:Nat->Nat->Prop}{w:World}(x:ElB A w):IRel A w (bS x.b) (.agg x.vs.toArray):=by rw[Rg];refine .agg (IE _) (by have:=x.len;have:=A3 x.b;simp;omega) λi a v c d=>x.rel i a v c (by simpa using d)
theorem FU{A:Nat->Nat->Prop}{l:Lb}{k:Nat}{c:AV}{v:Value}(hc:(ke l)[k]?=some c) (r:Rel Tryz.prog A σ h w c v):IRel A w c v:=by have⟨b,a⟩:=Aq (ai hc);rw[F0]at a;simp only[ao,cy,or_false]at a;rcases a with rfl|rfl|rfl|rfl|rfl|rfl|rfl|rfl<;>(cases r with|data hd=>exact hd)
theorem aAR{A:Nat->Nat->Prop}{w:World}:SWO (ltOf λx y:ElB A w=>x.b.1.cmp y.b.1) where
 irrefl x:=by simp[ltOf,cmp_refl]
 trans x y z h1 h2:=by simp only[ltOf,decide_eq_true_eq]at *;exact cmp_trans h1 h2
 ntrans x y z h1 h2:=by simp only[ltOf,decide_eq_false_iff_not]at *;exact le_trans (x:=z.b.1) (y:=y.b.1) (z:=x.b.1) h2 h1
theorem zn(l:Lb):(xH l).Perm l:=List.mergeSort_perm l _
theorem Mc(l:Lb):xy (xH l):=by
 have:=List.pairwise_mergeSort (le:=λx y:T × T=>!decide (y.1.cmp x.1<0)) (λa b c e d=>by
  simp only[cN,decide_eq_false_iff_not]at *;exact le_trans e d) (λa b=>by
  rw[bo];simp only[cN,decide_eq_false_iff_not];by_cases h:b.1.cmp a.1<0
  ·right;intro d;have:=cmp_anti a.1 b.1;omega
  exact .inl h) l
 exact this.imp λh=>by simpa[le]using h
theorem EH [DFlag] (hr:HRel Tryz.prog B A0 σ h w){i0 b c:Nat}{l:Lb}(hs:∀b∈l,b.1.size<4000000/\b.2.size<4000000) (hd:l.Pairwise λa b=>a.1≠b.1) (hid:h[i0]?=some (.cells (ke l) .live)) (hb:σ[i0]?=some (some b)) (hl:l.length<4611686018427387904) :
  Calls Tryz.prog 158 #[.slice (some ⟨b,0,none⟩) l.length c,.func (.func 356) #[] #[]] w (λe w'=>∃v,e=.returned v/\Go.V.er Tryz.prog B A0 σ h w (.tuple []) (h.set i0 (.cells (ke (xH l)) .live)) v w'):=by
 have⟨b',vs,ty,t,hB,d,q9,q7,hrel⟩:=hr.cells i0 _ .live hid s_;rw[hb]at t;simp only[aA]at t;subst t;have q8:=ti l;have⟨s,N,O⟩:=YI (A:=Alw Tryz.prog B A0 σ h) (w:=w) (vs:=vs) l 0 hs (λk x v u E=>by rw[cH]at E;exact FU u (hrel k x v u E)) o_
 have F:s.length=l.length:=by rw[<-N];simp
 have q':b<w.heap.size:=(aO.1 d).1;have q0:∀k o,Alw Tryz.prog B A0 σ h k o->k≠b:=λk o z e=>by subst e;unfold Alw at z;rw[if_neg o_]at z;exact z.1 i0 _ hid hb
 have up:∀(m:Nat) (D:Array Obj) (Q:Array (ElB (Alw Tryz.prog B A0 σ h) w)) (k o:Nat) x,Alw Tryz.prog B A0 σ h k o->w.cell? ⟨k,o,none⟩=some x->(sortWorldK ElB.vs 8 w b 0 m Q D).cell? ⟨k,o,none⟩=some x:=λm D Q k o x z Z=>by have hk:=World.block_lt_of_cell? w _ Z;unfold sortWorldK;rw[cell?_grow _ _ _ (by unfold putRowK putRow mapBlock;simpa using hk),cell?_putRowK_other (h:=q0 k o z)];exact Z
 have S:CmpLays Tryz.prog 356 #[] ElB.vs 8 (λx y:ElB (Alw Tryz.prog B A0 σ h) w=>x.b.1.cmp y.b.1) b 0 s.toArray.size w:=by
  intro m D Q _ x y;have go:∀ {a:AV}{v:Value},IRel (Alw Tryz.prog B A0 σ h) w a v->IRel (λ_ _=>True) (sortWorldK ElB.vs 8 w b 0 m Q D) a v:=λr=>r.mono λk o x z Z=>⟨trivial,up m D Q k o x z Z⟩
  exact Go.VP.Hj x.b y.b x.small.1 y.small.1 ⟨λg a M=>go (hr.gr.1 g a M),λg n M=>by have⟨z',f,q1,q2,t,e2⟩:=hr.tab g n M;exact⟨f,q1,q2,nF t o_,e2⟩⟩ (go (JB x)) (go (JB y))
 have hH:HoldsK ElB.vs 8 w b 0 s.toArray:=by
  intro j G;have z0:j<8*l.length:=by simp[size_flatK]at G;omega
  have hd:j/8<s.length:=o_;have M:=O (j/8) (j%8) hd (gq _ o_);rw[show 0+(8*(j/8)+j%8)=j by omega]at M;have h8:=(s[j/8]).len;have q:j%8<8:=gq _ o_;refine⟨?_,by simp[World.frozen?,d]⟩;rw[get_flatK _ _ _ _ (by simpa[size_flatK]using G)];simp only[World.cell?,d,cH,lw,aw,if_false,M,id];rw[getElem!_pos s.toArray (j/8) (by simpa using hd)];simp only[oD];rw[getElem!_pos _ _ o_,aC o_]
 have q3:s.toArray.size<4611686018427387904:=by simp;omega
 have I:=AnyQ.slices_SortFunc (P:=Tryz.prog) Tryz.laysSortB 8 Tryz.isAgg84 Tryz.sizeOf84 (ElB.vs (A:=Alw Tryz.prog B A0 σ h) (w:=w)) ElB.len Ri (λx y=>x.b.1.cmp y.b.1) aAR 356 #[] b 0 c s.toArray w (enters_of Tryz.func356 k_ rfl) S hH q' q3;change Calls Tryz.prog 158 _ _ _ at I;rw[show s.toArray.size=l.length by simp[F]]at I;refine I.mono ?_;rintro e w' ⟨rfl,p,n,D,hp,q4,rfl⟩;have J:p.size=l.length:=by have:=hp.1;simpa[F]using this
 have hT:p.toList.map ElB.b=xH l:=by
  have p1:(p.toList.map ElB.b).Perm l:=by have:=hp.2.2;rw[show l.length=p.size from J.symm,iS,J,show l.length=s.toArray.size by simp[F],iS]at this;rw[<-N];exact this.map _
  refine PL (p1.trans (zn l).symm) ?_ (Mc l) ((p1.pairwise_iff fun {a b}(k:a.1≠b.1)=>λe=>k e.symm).2 hd);unfold xy;rw[gk,iZ];intro i j hi G q5;have:=q4 i j (aN _) q5 (by simpa[J]using G);simp only[ltOf,decide_eq_false_iff_not]at this;rw[getElem!_pos p i (by simpa using hi),getElem!_pos p j (by simpa using G)]at this;simpa[le]using this
 obtain⟨f,evs⟩:∃f,f=putCells id 0 (flatK ElB.vs 8 p) vs:=⟨_,rfl⟩
 have U:putRowK ElB.vs 8 w b 0 p=w.setRow b f:=by unfold putRowK putRow;rw[rX _ d,evs]
 have hw:sortWorldK ElB.vs 8 w b 0 n p D=Go.Sort.grow ((w.setRow b f).drewN n) D:=by rw[<-U];rfl
 have X:f.size=vs.size:=by rw[evs];simp[putCells]
 have Y:(xH l).length=l.length:=(zn l).length_eq;have q6:(ke (xH l)).length=8*l.length:=by rw[ti,Y]
 have K:∀(k:Nat) x v,(ke (xH l))[k]?=some x->f[k]?=some v->Rel Tryz.prog (Alw Tryz.prog B A0 σ h) σ h w x v:=by
  intro k x v u E;have hk:k<8*l.length:=by rw[<-q6];exact(aB.1 u).1
  have hd:k/8<p.size:=o_;have q:k%8<8:=gq _ o_;have G:k/8<(xH l).length:=by rw[Y];omega
  have t:=Ar G q;rw[show 8*(k/8)+k%8=k by omega,u]at t;have et:(xH l)[k/8]=(p[k/8]).b:=by simp[<-hT]
  rw[et]at t;have ev:v=(p[k/8]).vs[k%8]'(by rw[(p[k/8]).len];exact q):=by rw[evs]at E;simp only[putCells,mz,aN,true_and,cH,size_flatK,Nat.sub_zero,id]at E;rw[aT o_,bq,if_pos o_,get_flatK _ _ _ _ o_,getElem!_pos p _ hd,getElem!_pos _ _ (by rw[(p[k/8]).len];exact q)]at E;simpa using E.symm
  exact .data ((p[k/8]).rel _ _ _ t.symm (by rw[ev];exact aC _))
 have L:∀x∈ke (xH l),x.one=true:=by intro x u;have⟨b,u⟩:=Aq u;exact IE b x u
 have k1:=HRel.write hr hid hb d X (cs':=ke (xH l)) o_ L K;have k2:=Step.write (cs':=ke (xH l)) hr hid hb d X;have g:Grows (w.setRow b f) (sortWorldK ElB.vs 8 w b 0 n p D):=by rw[hw];refine⟨rfl,rfl,rfl,by simp[Go.Sort.grow,World.drewN],λk hk=>?_,λ_=>by simp[Go.Sort.grow,World.drewN]⟩;simp only[Go.Sort.grow,World.drewN];exact cT hk
 exact⟨_,rfl,σ,k1.grows g,k2.trans (.grows k1 g),.data (.tuple rfl (λi a v z=>by simp at z))⟩
theorem Cr [DFlag]:sN Tryz.prog 158 xK:=by
 intro g h r F c B G σ w j k o b;unfold xK at c;split at c<;>try(cases c;done)
 ·rename_i x;simp only[aA,aD]at c;obtain⟨rfl,rfl⟩:=c;have⟨l⟩:=j;match l,o,b with
  |[u,v],_,b=>obtain⟨p,d,rfl⟩:=DH (b 0 _ u rfl rfl);have f:=qw (b 1 _ v rfl rfl);subst f;refine(show Calls Tryz.prog 158 #[.slice p 0 d,.func (.func 356) #[] #[]] w _ from AnyF.slices_SortFunc_none (P:=Tryz.prog) {Tryz.laysSortB with} p d _ w).mono ?_;rintro e I ⟨rfl,rfl⟩;exact⟨_,rfl,σ,k,.refl _ _ _,.data (.tuple rfl (λi a v b=>by simp at b))⟩
 rename_i J n;split at c<;>try(cases c;done)
 rename_i e;simp only[aA,aD]at c;obtain⟨rfl,rfl⟩:=c;have⟨q,z,s,t,c3⟩:=e.choose_spec;generalize e.choose=m at q s c3 z t ⊢;subst q;have⟨l⟩:=j;match l,o,b with
 |[u,v],_,b=>
  have f:=qw (b 1 _ v rfl rfl);subst f;have A:=b 0 _ u rfl rfl;cases A with
  |data D=>cases D
  |msl E K L M N y O=>exact EH k s t c3 E o_
end Go.VZ
namespace Go.Proofs
open Go.Shelf
def Tryz.laysM171_ren:Go.Shelf.Ren:=⟨fun|171=>204|243=>256|246=>302|283=>333|284=>334|285=>335|286=>336|129=>129|317=>366|318=>367|319=>368|320=>369|337=>397|338=>398|n=>n,fun|3=>3|9=>9|2=>2|4=>4|171=>314|0=>0|53=>157|37=>25|5=>5|173=>316|212=>333|51=>155|20=>20|213=>334|46=>121|232=>370|233=>371|n=>n,fun|17=>1|18=>2|19=>3|n=>n⟩
theorem Tryz.laysM171:Go.Proofs.LaysM.n171 Tryz.prog Tryz.laysM171_ren:={
 mixed:=k_
 f129:=Tryz.func129.trans (congrArg some k_)
 f171:=Tryz.func204.trans (congrArg some k_)
 f243:=Tryz.func256.trans (congrArg some k_)
 f246:=Tryz.func302.trans (congrArg some k_)
 f283:=Tryz.func333.trans (congrArg some k_)
 f284:=Tryz.func334.trans (congrArg some k_)
 f285:=Tryz.func335.trans (congrArg some k_)
 f286:=Tryz.func336.trans (congrArg some k_)
 f317:=Tryz.func366.trans (congrArg some k_)
 f318:=Tryz.func367.trans (congrArg some k_)
 f319:=Tryz.func368.trans (congrArg some k_)
 f320:=Tryz.func369.trans (congrArg some k_)
 f337:=Tryz.func397.trans (congrArg some k_)
 f338:=Tryz.func398.trans (congrArg some k_)
 t0:=Tryz.underlying0
 a0:=Tryz.isAgg0
 z0:=Tryz.sizeOf0
 v0:=Tryz.zeroValue0
 t2:=Tryz.underlying2
 a2:=Tryz.isAgg2
 z2:=Tryz.sizeOf2
 v2:=Tryz.zeroValue2
 t3:=Tryz.underlying3
 a3:=Tryz.isAgg3
 z3:=Tryz.sizeOf3
 v3:=Tryz.zeroValue3
 t4:=Tryz.underlying4
 a4:=Tryz.isAgg4
 z4:=Tryz.sizeOf4
 v4:=Tryz.zeroValue4
 t5:=Tryz.underlying5
 a5:=Tryz.isAgg5
 z5:=Tryz.sizeOf5
 v5:=Tryz.zeroValue5
 t9:=Tryz.underlying9
 a9:=Tryz.isAgg9
 z9:=Tryz.sizeOf9
 v9:=Tryz.zeroValue9
 t20:=Tryz.underlying20
 a20:=Tryz.isAgg20
 z20:=Tryz.sizeOf20
 v20:=Tryz.zeroValue20
 t37:=Tryz.underlying25
 a37:=Tryz.isAgg25
 z37:=Tryz.sizeOf25
 v37:=Tryz.zeroValue25
 t46:=Tryz.underlying121
 a46:=Tryz.isAgg121
 z46:=Tryz.sizeOf121
 v46:=Tryz.zeroValue121
 t51:=Tryz.underlying155
 a51:=Tryz.isAgg155
 z51:=Tryz.sizeOf155
 v51:=Tryz.zeroValue155
 t53:=Tryz.underlying157
 a53:=Tryz.isAgg157
 z53:=Tryz.sizeOf157
 v53:=Tryz.zeroValue157
 t171:=Tryz.underlying314
 a171:=Tryz.isAgg314
 z171:=Tryz.sizeOf314
 v171:=Tryz.zeroValue314
 t173:=Tryz.underlying316
 a173:=Tryz.isAgg316
 z173:=Tryz.sizeOf316
 v173:=Tryz.zeroValue316
 t212:=Tryz.underlying333
 a212:=Tryz.isAgg333
 z212:=Tryz.sizeOf333
 v212:=Tryz.zeroValue333
 t213:=Tryz.underlying334
 a213:=Tryz.isAgg334
 z213:=Tryz.sizeOf334
 t232:=Tryz.underlying370
 a232:=Tryz.isAgg370
 z232:=Tryz.sizeOf370
 v232:=Tryz.zeroValue370
 t233:=Tryz.underlying371
 a233:=Tryz.isAgg371
 z233:=Tryz.sizeOf371
 v233:=Tryz.zeroValue371
 g17:=k_
 g18:=k_
 g19:=k_
 i0:=k_
 i2:=k_
 i3:=k_
 i4:=k_
 i5:=k_
 i9:=k_
 i20:=k_
 i37:=k_
 i46:=k_
 i51:=k_
 i53:=k_
 i171:=k_
 i173:=k_
 i212:=k_
 i232:=k_
 i233:=k_
 m17:=k_
 m18:=k_
 m19:=by kernel_rfl}
open Go.RowKit Go.Sort Go.Lib in
theorem Tryz.strconv_Itoa(n:Int) (h0:-9223372036854775808<=n) (h1:n<=9223372036854775807) (w:World) (htab:Lib.TabIs Tryz.prog w "internal/strconv.uint64pow10" .u64 Lib.pow10Tab) :
  Calls Tryz.prog 204 #[.int .i64 n] w λe w'=>e=.returned (.string ⟨(Lib.itoa n).toArray⟩)/\∃k os,w'=grow (w.drewN k) os:=Any.strconv_Itoa Tryz.laysM171 n h0 h1 w htab
end Go.Proofs
namespace Go.VZ
open Go Go.V Go.Proofs Go.RowKit TL
theorem Ts{A:Nat->Nat->Prop}{w:World}(hg:lS A w):Lib.TabIs Tryz.prog w "internal/strconv.uint64pow10" .u64 Lib.pow10Tab:=by
 have⟨k,n,o,e,p⟩:=hg.2 1 20 rfl;have c:∀j,j<20->k[j]?=some (.int .u64 ((10 ^ j:Nat):Int)):=by
  intro j b;have r:=hg.1 1 (.agg ((List.range 20).map λi=>.int .u64 ((10 ^ i:Nat):Int))) rfl;cases r with
  |iptr f q l m=>
   have a:((AV.agg ((List.range 20).map λi=>.int .u64 ((10 ^ i:Nat):Int))).cells)[j]?=some (.int .u64 ((10 ^ j:Nat):Int)):=by simp only[AV.cells,ba,eO b,bq]
   have⟨_,g⟩:=l j _ a;have h:=m j _ a;generalize f j=u at g h;cases h;simpa[World.cell?,e]using g
 unfold Lib.TabIs World.var?;rw[show Tryz.prog.globalNamed "internal/strconv.uint64pow10" = some 1 from by kernel_rfl];simp only[cn,e,aA];apply pc;intro j;by_cases b:j<20
 ·rw[c j b];have:Lib.pow10Tab[j]?=some ((10 ^ j:Nat):Int):=by
   have d:∀j,j<20->Lib.pow10Tab[j]?=some ((10 ^ j:Nat):Int):=by decide +kernel
   exact d j b
  simp[this]
 rw[fq o_,fq];have:Lib.pow10Tab.length=20:=by decide +kernel
 simp;omega
theorem Kl:((List.range 1000).all λm=>decide (Lib.itoa (m:Int)=VS m))=true:=k_
theorem HA{m:Nat}(h:m<1000):Lib.itoa (m:Int)=VS m:=of_decide_eq_true (bI.1 Kl m (eL.2 h))
theorem ES [DFlag]:sN Tryz.prog 204 AE:=by
 intro d h r t a B v σ w f b i c;unfold AE at a;split at a<;>try(cases a;done)
 rename_i n;split at a<;>try(cases a;done)
 rename_i j;simp only[aA,aD]at a;obtain⟨rfl,rfl⟩:=a;obtain⟨m,rfl⟩:=fW j.1;have⟨l⟩:=f;match l,i,c with
 |[u],_,c=>
  have o:=c 0 _ u rfl rfl;have:u=.int .i64 m:=by
   cases o with
   |data p=>cases p;rfl
  subst this;refine(Tryz.strconv_Itoa (m:Int) o_ o_ w (Ts b.gr)).mono ?_;rintro e x ⟨rfl,k,q,rfl⟩;have g:Grows w (Go.Sort.grow (w.drewN k) q):=by refine⟨rfl,rfl,rfl,by simp[Go.Sort.grow,World.drewN],λk s=>?_,λ_=>by simp[Go.Sort.grow,World.drewN]⟩;simp only[Go.Sort.grow,World.drewN];exact cT s
  refine⟨_,rfl,σ,b.grows g,.grows b g,?_⟩;rw[HA o_,fE];exact .data (.str _)
end Go.VZ
namespace Go.VP
open Go Go.V Go.Proofs Tryz Go.RowKit TL
open Go.VZ (gp aV)
theorem u53:C.P.underlying 53=some (.slice 3):=underlying53
theorem s53:cr C.P 53=some 1:=k_
theorem a53:fJ C.P 53=some false:=k_
theorem s55:cr C.P 55=some 3:=k_
theorem a55:fJ C.P 55=some true:=k_
attribute [go_sem] s53 a53 s55 a55
def bP(l:List Int):LA:=l.map (AV.int .i64)
theorem Ek(l:List Int) (x:Ext):fB C.P 53 (.isl (bP l) x)=some (.int .i64 l.length):=by simp[fB,u53,bP]
theorem Ey(l:List Int) (k:Nat) (hk:k<l.length) (x:Ext):bH C.P 53 (.isl (bP l) x) (.int .i64 k)=some (.iptr (.int .i64 l[k]) 0):=by have:(AV.int .i64 l[k]).cells.length=1:=rfl;simp[bH,u53,s3,bP,hk,this]
theorem Qq(n:Int) (h:H):aW C.P h 3 (.iptr (.int .i64 n) 0)=some (.int .i64 n):=by have:(AV.int .i64 n).cells=[.int .i64 n]:=rfl;simp[aW,aZ,a3,s3,this]
theorem UZ(n:Int):az C 130 [.int .i64 n]=some (.bool false):=by
 refine ay func130 rfl λR a=>?_
 simp[go_sem];exact a ⟨.bool false,by simp[aY,cC,f130,go_sem],aK rfl rfl⟩
def Da(a b:Int):Int:=if a<b then -1 else if b<a then 1 else 0
theorem YK(a b:Int):az C 85 [.int .i64 a,.int .i64 b]=some (.int .i64 (Da a b)):=by
 refine ay func85 rfl λR e=>?_
 have f:∀n h,ak C h (.func 130 []) (some [.int .i64 n])=some (.bool false,h):=λn h=>aX rfl rfl s_ (UZ n)
 by_cases c:a<b
 ·simp[go_sem,f,c];exact e ⟨.int .i64 (-1),by simp[aY,cC,f85,go_sem],by rw[Da,if_pos c];exact aK rfl rfl⟩
 by_cases d:b<a
 ·simp[go_sem,f,c,d];exact e ⟨.int .i64 1,by simp[aY,cC,f85,go_sem],by rw[Da,if_neg c,if_pos d];exact aK rfl rfl⟩
 simp[go_sem,f,c,d];exact e ⟨.int .i64 0,by simp[aY,cC,f85,go_sem],by rw[Da,if_neg c,if_neg d];exact aK rfl rfl⟩
theorem Kh(a b:Int) (l m:List Int):gp (a::l) (b::m)=if Da a b≠0 then Da a b else gp l m:=by
 rw[gp,Da];by_cases c:a<b
 ·simp[c]
 by_cases d:b<a
 ·simp[c,d]
 simp[c,d]
def aBf(a b:List Int) (m:Nat) (st:PT) (h:H):Prop:=∃k:Nat,m=a.length-k/\k<=a.length/\h=[]/\st.get 0=.isl (bP a) .unk/\st.get 1=.isl (bP b) .unk/\st.get 9=.isl (bP a) .unk/\st.get 10=.int .i64 a.length/\st.get 11=.int .i64 k/\k<=b.length/\gp (a.drop k) (b.drop k)=gp a b
theorem XX(a b:List Int) (ha:a.length<100000000) (_hb:b.length<100000000):az C 49 [.isl (bP a) .unk,.isl (bP b) .unk]=some (.int .i64 (gp a b)):=by
 refine hJ rfl func49 rfl k_ (by simp[f49]) λR y=>?_
 have fin:∀(e:Ex) (u:PT) (h:H) (c:Int),e=.normal\/e=.ret->u.get 4=.int .i64 c->gp a b=c->R e u h:=λe u h c d A B=>y _ _ _ d ⟨.int .i64 c,by simp[aY,cC,f49,A],by rw[B];exact aK rfl rfl⟩
 have v:=Ek a .unk;have r:=Ek b .unk;simp[go_sem,v];refine bL (aBf a b) a.length ⟨0,rfl,aN _,rfl,g_,g_,g_,g_,g_,aN _,rfl⟩ ?_;rintro m u h ⟨k,rfl,G,rfl,s,t,w,g,i,D,d⟩;by_cases n:k<a.length
 ·have j:(k:Int)<a.length:=o_;have o:=Ey a k n .unk;have E:=wS k o_;rw[aI n]at d;by_cases p:k<b.length
  ·have f:¬(b.length:Int)<=k:=o_;have l:=Ey b k p .unk;rw[aI p,Kh]at d;have x:∀h,ak C h (.func 85 []) (some [.int .i64 a[k],.int .i64 b[k]])=some (.int .i64 (Da a[k] b[k]),h):=λh=>aX rfl rfl s_ (YK _ _)
   generalize Da a[k] b[k]=c at *;by_cases z:c=0
   ·rw[if_neg (by simp[z])]at d;simp[go_sem,t,w,g,i,j,o,Qq,r,f,l,x,z,-Int.natCast_add,E];exact⟨a.length-(k+1),o_,k+1,rfl,n,rfl,g_,g_,g_,g_,g_,p,d⟩
   rw[if_pos z]at d;simp[go_sem,t,w,g,i,j,o,Qq,r,f,l,x,z];exact fin _ _ _ c (.inr rfl) g_ d.symm
  have f:(b.length:Int)<=k:=o_;have:b.drop k=[]:=eH o_;rw[this,gp]at d;simp[go_sem,t,w,g,i,j,o,Qq,r,f];exact fin _ _ _ 1 (.inr rfl) g_ d.symm
 have:k=a.length:=o_;subst this;rw[ae]at d;by_cases F:a.length<b.length
 ·have q:(a.length:Int)<b.length:=o_;rw[aI F,gp]at d;simp[go_sem,s,t,g,i,v,r,q];exact fin _ _ _ (-1) (.inr rfl) g_ d.symm
 have q:¬(a.length:Int)<b.length:=o_;have:b.drop a.length=[]:=eH o_;rw[this,gp]at d;simp[go_sem,s,t,g,i,v,r,q];exact fin _ _ _ 0 (.inr rfl) g_ d.symm
abbrev Fq:=List Int × LA × LA
def fC(b:Fq):LA:=[.isl (bP b.1) .unk,.isl b.2.1 .unk,.isl b.2.2 .unk]
def sV(b:Fq):AV:=.agg (fC b)
theorem VI(i:Nat):bF C.P 55 (.ptr i 0) 0=some (.ptr i 0):=k_
attribute [go_sem] VI
theorem YO(b:Fq) (h:H):nR C.P h 55 (sV b)=some (.ptr h.length 0,h++[.cells (fC b) .live]):=by simp[nR,sV,aV,s55,bf,fC]
theorem Xh{h:H}{i:Nat}{b:Fq}(hi:h[i]?=some (.cells (fC b) .live)):aW C.P h 53 (.ptr i 0)=some (.isl (bP b.1) .unk):=by simp[aW,hi,aZ,a53,s53,fC]
theorem VV(a b:Fq) (ha:a.1.length<100000000) (hb:b.1.length<100000000):az C 48 [sV a,sV b]=some (.int .i64 (gp a.1 b.1)):=by
 refine ay func48 rfl λR e=>?_
 have f:∀h,ak C h (.func 49 []) (some [.isl (bP a.1) .unk,.isl (bP b.1) .unk])=some (.int .i64 (gp a.1 b.1),h):=λh=>aX rfl rfl s_ (XX a.1 b.1 ha hb)
 obtain⟨d,c⟩:∃g:H,g=[.cells (fC a) .live,.cells (fC b) .live]:=⟨_,rfl⟩
 have i:d[0]?=some (.cells (fC a) .live):=by rw[c];rfl
 have j:d[1]?=some (.cells (fC b) .live):=by rw[c];rfl
 have k:=Xh i;have l:=Xh j;simp[go_sem,YO];rw[<-c];simp[go_sem,k,l,f];exact e ⟨.int .i64 (gp a.1 b.1),by simp[aY,cC,f48,go_sem],aK rfl rfl⟩
end Go.VP
namespace Go.VZ
open Go Go.V Go.Proofs Tryz
theorem CA:∀a:List Int,gp a a=0
 |[]=>rfl
 |a::l=>by rw[gp,if_neg o_,if_neg o_];exact CA l
theorem Ei:∀a b:List Int,gp a b = -1\/gp a b=0\/gp a b=1
 |[],[]=>.inr (.inl rfl)
 |[],_::_=>.inl rfl
 |_::_,[]=>.inr (.inr rfl)
 |a::l,b::m=>by
  rw[gp];split
  ·exact .inl rfl
  split
  ·exact .inr (.inr rfl)
  exact Ei l m
theorem jR:∀a b:List Int,gp b a = - gp a b
 |[],[]=>rfl
 |[],_::_=>rfl
 |_::_,[]=>rfl
 |a::l,b::m=>by
  rw[gp,gp];by_cases h1:a<b
  ·rw[if_pos h1,if_neg o_,if_pos h1];rfl
  by_cases h2:b<a
  ·rw[if_pos h2,if_neg h1,if_pos h2]
  rw[if_neg h2,if_neg h1,if_neg h1,if_neg h2];exact jR l m
theorem xU:∀ {a b:List Int},gp a b=0->a=b
 |[],[],_=>rfl
 |[],_::_,h=>by simp[gp]at h
 |_::_,[],h=>by simp[gp]at h
 |a::l,b::m,h=>by
  rw[gp]at h;split at h
  ·cases h
  split at h
  ·cases h
  rw[xU h,show a=b by omega]
theorem vR:∀ {a b c:List Int},gp a b<0->gp b c<=0->gp a c<0
 |[],[],_,h,_=>by simp[gp]at h
 |[],_::_,[],_,k=>by simp[gp]at k
 |[],_::_,_::_,_,_=>by simp[gp]
 |_::_,[],_,h,_=>by simp[gp]at h
 |_::_,_::_,[],_,k=>by simp[gp]at k
 |a::l,b::m,c::n,h,k=>by
  rw[gp]at h k ⊢;by_cases h1:a<b
  ·by_cases k1:b<c
   ·rw[if_pos o_];omega
   rw[if_neg k1]at k;by_cases k2:c<b
   ·rw[if_pos k2]at k;omega
   rw[if_pos o_];omega
  rw[if_neg h1]at h;by_cases h2:b<a
  ·rw[if_pos h2]at h;omega
  rw[if_neg h2]at h;by_cases k1:b<c
  ·rw[if_pos o_];omega
  rw[if_neg k1]at k;by_cases k2:c<b
  ·rw[if_pos k2]at k;omega
  rw[if_neg k2]at k;rw[if_neg o_,if_neg o_];exact vR h k
theorem Is{a b c:List Int}(h:gp a b<=0) (k:gp b c<=0):gp a c<=0:=by
 rcases Ei a b with e|e|e
 ·have:=vR (a:=a) (b:=b) (c:=c) o_ k;omega
 ·rw[xU e];exact k
 omega
end Go.VZ
namespace Go.VP
open Go Go.V Go.Proofs Go.RowKit TL
open Go.VZ (gp ext qT aV)
theorem FL [DFlag] (hD:DFlag.D) (a b:Fq) (ha:a.1.length<100000000) (hb:b.1.length<100000000){w:World}{u v:Value}(hg:lS (λ_ _=>True) w) (hu:IRel (λ_ _=>True) w (sV a) u) (hv:IRel (λ_ _=>True) w (sV b) v) :
  Calls Tryz.prog 48 #[u,v] w λe w'=>e=.returned (.int .i64 (gp a.1 b.1))/\∃q os,w'=Go.Sort.grow (w.drewN q) os:=by
 have f:=VV a b ha hb;unfold az at f;split at f<;>try(cases f;done)
 rename_i r g c;refine(okD.fn 48 [sV a,sV b] [] r g k_ c w.heap.size (λ_ _=>True) [] w #[u,v] (.start hg) rfl (λi x y c d=>?_)).mono ?_
 ·match i,c,d with
  |0,c,d=>simp at c d;subst c;subst d;exact .data (lj hu)
  |1,c,d=>simp at c d;subst c;subst d;exact .data (lj hv)
  |i+2,c,d=>simp at c
 rintro e w' ⟨v,rfl,σ',h,j,k⟩;have l:=ji (h.stiller (da g)) dD r _ v f (k.step (.stiller h (da g)));cases l;exact⟨rfl,DN hD (tC j.below j.drawn)⟩
theorem Hi(a b:Fq) (ha:a.1.length<100000000) (hb:b.1.length<100000000){w:World}{u v:Value}(hg:lS (λ_ _=>True) w) (hu:IRel (λ_ _=>True) w (sV a) u) (hv:IRel (λ_ _=>True) w (sV b) v) :
  Calls Tryz.prog 48 #[u,v] w λe w'=>e=.returned (.int .i64 (gp a.1 b.1))/\∃q os,w'=Go.Sort.grow (w.drewN q) os:=@FL ⟨True⟩ trivial a b ha hb w u v hg hu hv
end Go.VP
namespace Go.Proofs
open Go.Shelf
def Tryz.laysSortF_ren:Go.Shelf.Ren:=⟨fun|6=>47|15=>84|14=>83|28=>128|29=>129|20=>120|21=>121|22=>122|23=>123|24=>124|25=>125|26=>126|27=>127|46=>181|47=>182|48=>183|49=>184|50=>185|57=>242|n=>n,fun|22=>50|24=>55|25=>90|3=>3|39=>121|0=>0|53=>155|55=>157|4=>4|46=>148|45=>147|50=>152|5=>5|9=>9|66=>191|70=>195|76=>237|77=>238|n=>n,fun|n=>n⟩
theorem Tryz.laysSortF:Go.Proofs.SlLaysF0.n6 Tryz.prog Tryz.laysSortF_ren:={
 mixed:=k_
 f6:=⟨Tryz.f47.name,d_,Tryz.func47.trans (congrArg some k_)⟩
 f14:=⟨Tryz.f83.name,d_,Tryz.func83.trans (congrArg some k_)⟩
 f15:=Tryz.func84.trans (congrArg some k_)
 f20:=⟨Tryz.f120.name,d_,Tryz.func120.trans (congrArg some k_)⟩
 f21:=⟨Tryz.f121.name,d_,Tryz.func121.trans (congrArg some k_)⟩
 f22:=⟨Tryz.f122.name,d_,Tryz.func122.trans (congrArg some k_)⟩
 f23:=⟨Tryz.f123.name,d_,Tryz.func123.trans (congrArg some k_)⟩
 f24:=⟨Tryz.f124.name,d_,Tryz.func124.trans (congrArg some k_)⟩
 f25:=⟨Tryz.f125.name,d_,Tryz.func125.trans (congrArg some k_)⟩
 f26:=⟨Tryz.f126.name,d_,Tryz.func126.trans (congrArg some k_)⟩
 f27:=⟨Tryz.f127.name,d_,Tryz.func127.trans (congrArg some k_)⟩
 f28:=Tryz.func128.trans (congrArg some k_)
 f29:=Tryz.func129.trans (congrArg some k_)
 f46:=⟨Tryz.f181.name,d_,Tryz.func181.trans (congrArg some k_)⟩
 f47:=Tryz.func182.trans (congrArg some k_)
 f48:=Tryz.func183.trans (congrArg some k_)
 f49:=⟨Tryz.f184.name,d_,Tryz.func184.trans (congrArg some k_)⟩
 f50:=⟨Tryz.f185.name,d_,Tryz.func185.trans (congrArg some k_)⟩
 f57:=⟨Tryz.f242.name,d_,Tryz.func242.trans (congrArg some k_)⟩
 t0:=Tryz.underlying0
 a0:=Tryz.isAgg0
 z0:=Tryz.sizeOf0
 v0:=Tryz.zeroValue0
 t3:=Tryz.underlying3
 a3:=Tryz.isAgg3
 z3:=Tryz.sizeOf3
 v3:=Tryz.zeroValue3
 t4:=Tryz.underlying4
 a4:=Tryz.isAgg4
 z4:=Tryz.sizeOf4
 v4:=Tryz.zeroValue4
 t5:=Tryz.underlying5
 a5:=Tryz.isAgg5
 z5:=Tryz.sizeOf5
 v5:=Tryz.zeroValue5
 t9:=Tryz.underlying9
 a9:=Tryz.isAgg9
 z9:=Tryz.sizeOf9
 v9:=Tryz.zeroValue9
 t22:=Tryz.underlying50
 a22:=Tryz.isAgg50
 z22:=Tryz.sizeOf50
 v22:=Tryz.zeroValue50
 t25:=Tryz.underlying90
 a25:=Tryz.isAgg90
 z25:=Tryz.sizeOf90
 v25:=Tryz.zeroValue90
 t39:=Tryz.underlying121
 a39:=Tryz.isAgg121
 z39:=Tryz.sizeOf121
 v39:=Tryz.zeroValue121
 t45:=Tryz.underlying147
 a45:=Tryz.isAgg147
 z45:=Tryz.sizeOf147
 v45:=Tryz.zeroValue147
 t46:=Tryz.underlying148
 a46:=Tryz.isAgg148
 z46:=Tryz.sizeOf148
 v46:=Tryz.zeroValue148
 t50:=Tryz.underlying152
 a50:=Tryz.isAgg152
 z50:=Tryz.sizeOf152
 v50:=Tryz.zeroValue152
 t53:=Tryz.underlying155
 a53:=Tryz.isAgg155
 z53:=Tryz.sizeOf155
 v53:=Tryz.zeroValue155
 t55:=Tryz.underlying157
 a55:=Tryz.isAgg157
 z55:=Tryz.sizeOf157
 v55:=Tryz.zeroValue157
 t66:=Tryz.underlying191
 a66:=Tryz.isAgg191
 z66:=Tryz.sizeOf191
 v66:=Tryz.zeroValue191
 t70:=Tryz.underlying195
 a70:=Tryz.isAgg195
 z70:=Tryz.sizeOf195
 v70:=Tryz.zeroValue195
 t76:=Tryz.underlying237
 a76:=Tryz.isAgg237
 z76:=Tryz.sizeOf237
 v76:=Tryz.zeroValue237
 t77:=Tryz.underlying238
 a77:=Tryz.isAgg238
 z77:=Tryz.sizeOf238
 v77:=Tryz.zeroValue238}
end Go.Proofs
namespace Go.VZ
open Go Go.V Go.Proofs Go.RowKit Go.Sort TL
variable {B:Nat}{A0:Nat->Nat->Prop}{σ:List (Option Nat)}{h:H}{w:World}
theorem Ad(b:VP.Fq):(VP.fC b).length=3:=rfl
theorem OL(b:VP.Fq):VP.sV b=.agg (VP.fC b):=rfl
theorem HY(b:VP.Fq):∀c∈VP.fC b,c.one=true:=by intro c a;simp only[VP.fC,ao,cy,or_false]at a;rcases a with rfl|rfl|rfl<;>rfl
theorem sF(a:VP.Fq) (l:List VP.Fq):iq (a::l)=VP.fC a++iq l:=rfl
theorem sE:∀l:List VP.Fq,(iq l).length=3*l.length
 |[]=>rfl
 |a::l=>by rw[sF,aL,Ad,sE l,aG];omega
theorem yc{l:List VP.Fq}{j c:Nat}(hj:j<l.length) (hc:c<3):(iq l)[3*j+c]?=(VP.fC l[j])[c]?:=by
 induction l generalizing j with
 |nil=>simp at hj
 |cons a l b=>
  have d:=Ad a;rw[sF];cases j with
  |zero=>rw[aP o_];simp
  |succ j=>rw[aj o_,show 3*(j+1)+c-(VP.fC a).length=3*j+c by omega,b (by simpa using hj)];simp
theorem ya{l:List VP.Fq}{c:AV}(hc:c∈iq l):∃b,c∈VP.fC b:=by simp only[iq,bR]at hc;have⟨b,_,hc⟩:=hc;exact⟨b,hc⟩
def Sk(l:List VP.Fq):Prop:=l.Pairwise λa b=>gp a.1 b.1<=0
theorem JR:∀ {l m:List VP.Fq},l.Perm m->Sk l->Sk m->l.Pairwise (λa b=>a.1≠b.1)->l=m
 |[],m,p,_,_,_=>(List.nil_perm.1 p).symm
 |a::l,[],p,_,_,_=>by have:=p.length_eq;simp at this
 |a::l,b::m,p,ha,hb,hd=>by
  have c:=cR.1 ha;have d:=cR.1 hb;have f:=cR.1 hd;have e:a=b:=by
   rcases ao.1 (p.mem_iff.1 cJ)with e|h
   ·exact e
   rcases ao.1 (p.mem_iff.2 (cJ (a:=b) (l:=m)))with e|g
   ·exact e.symm
   have j:=c.1 b g;have i:=d.1 a h;rw[jR]at i;exact absurd (xU o_) (f.1 b g)
  subst e;rw[JR (p.cons_inv) c.2 d.2 f.2]
structure ElF (A:Nat->Nat->Prop) (w:World) where
 b:VP.Fq
 vs:List Value
 len:vs.length=3
 small:b.1.length<100000000
 rel:∀(c:Nat) a v,(VP.fC b)[c]?=some a->vs[c]?=some v->IRel A w a v
theorem Rh{A:Nat->Nat->Prop}{w:World}(x:ElF A w):∀v∈x.vs,v.oneCell'=true:=by intro v d;have⟨c,a⟩:=fG.1 d;have e:=(aB.1 a).1;have g:=x.len;have h:=Ad x.b;have f:(VP.fC x.b)[c]?=some (VP.fC x.b)[c]:=aC o_;exact qv (x.rel c _ v f a) (HY x.b _ (aF _))
theorem Wv{A:Nat->Nat->Prop}{w:World}:∀(c:Nat) a v,(VP.fC ([],[],[]))[c]?=some a->([.slice none 0 0,.slice none 0 0,.slice none 0 0]:List Value)[c]?=some v->IRel A w a v:=by
 intro c a v b d;match c,b,d with
 |0,b,d=>simp[VP.fC,VP.bP]at b d;subst b;subst d;exact .islNil
 |1,b,d=>simp[VP.fC,VP.bP]at b d;subst b;subst d;exact .islNil
 |2,b,d=>simp[VP.fC,VP.bP]at b d;subst b;subst d;exact .islNil
 |i+3,b,d=>simp[VP.fC]at b
instance {A:Nat->Nat->Prop}{w:World}:Inhabited (ElF A w):=⟨⟨([],[],[]),_,rfl,d_,Wv⟩⟩
theorem YH{A:Nat->Nat->Prop}{w:World}{vs:Array Value}:∀(l:List (VP.Fq)) (off:Nat),(∀b∈l,b.1.length<100000000)->(∀(k:Nat) c v,(iq l)[k]?=some c->vs[off+k]?=some v->IRel A w c v)->off+3*l.length<=vs.size ->
  ∃es:List (ElF A w),es.map ElF.b=l/\∀(j c:Nat) (hj:j<es.length),c<3->vs[off+(3*j+c)]?=(es[j]).vs[c]?
 |[],off,_,_,_=>⟨[],rfl,λj c hj=>by simp at hj⟩
 |a::l,off,hs,hr,hl=>by
  simp only[aG]at hl;have e8:=Ad a;obtain⟨es,h1,h2⟩:=YH l (off+3) (λt ht=>hs t (by simp[ht])) (λk c v hc hv=>hr (3+k) c v (by
   rw[sF,aj o_,show 3+k-(VP.fC a).length=k by omega];exact hc) (by rw[<-fe];exact hv)) o_
  have hg:∀c,c<3->((vs.toList.drop off).take 3)[c]?=vs[off+c]?:=λc hc=>by
   rw[lT hc,cE,bM]
  refine⟨⟨a,(vs.toList.drop off).take 3,by simp;omega,hs a s_,λc x v hx hv=>?_⟩::es,by simp[h1],?_⟩
  ·have hc:c<3:=by have:=(aB.1 hx).1;omega
   rw[hg c hc]at hv;refine hr c x v ?_ hv;have:=yc (l:=a::l) (j:=0) (c:=c) s_ hc;rw[oe,cH]at this;rw[this];exact hx
  intro j c hj hc;cases j with
  |zero=>change vs[off+(3*0+c)]?=((vs.toList.drop off).take 3)[c]?;rw[hg c hc,oe,cH]
  |succ j=>have:=h2 j c (by simpa using hj) hc;rw[show off+(3*(j+1)+c)=off+3+(3*j+c) by omega,this];rfl
theorem JA{A:Nat->Nat->Prop}{w:World}(x:ElF A w):IRel A w (VP.sV x.b) (.agg x.vs.toArray):=by rw[OL];refine .agg (HY _) (by have:=x.len;have:=Ad x.b;simp;omega) λi a v c d=>x.rel i a v c (by simpa using d)
theorem FT{A:Nat->Nat->Prop}{l:List (VP.Fq)}{k:Nat}{c:AV}{v:Value}(hc:(iq l)[k]?=some c) (r:Rel Tryz.prog A σ h w c v):IRel A w c v:=by have⟨b,a⟩:=ya (ai hc);simp only[VP.fC,ao,cy,or_false]at a;rcases a with rfl|rfl|rfl<;>(cases r with|data hd=>exact hd)
theorem aAP{A:Nat->Nat->Prop}{w:World}:SWO (ltOf λx y:ElF A w=>gp x.b.1 y.b.1) where
 irrefl x:=by simp[ltOf,CA]
 trans x y z h1 h2:=by simp only[ltOf,decide_eq_true_eq]at *;exact vR h1 o_
 ntrans x y z h1 h2:=by simp only[ltOf,decide_eq_false_iff_not]at *;have d:=jR x.b.1 y.b.1;have e:=jR y.b.1 z.b.1;have a3:=jR x.b.1 z.b.1;have:=Is (a:=z.b.1) (b:=y.b.1) (c:=x.b.1) o_ o_;omega
theorem yB(l:List (VP.Fq)):(qf l).Perm l:=List.mergeSort_perm l _
theorem Ju(l:List (VP.Fq)):Sk (qf l):=by
 have:=List.pairwise_mergeSort (le:=λx y:VP.Fq=>!decide (gp y.1 x.1<0)) (λa b c e d=>by
  simp only[cN,decide_eq_false_iff_not]at *;have f:=jR a.1 b.1;have g:=jR b.1 c.1;have a3:=jR a.1 c.1;have:=Is (a:=a.1) (b:=b.1) (c:=c.1) o_ o_;omega) (λa b=>by
  rw[bo];simp only[cN,decide_eq_false_iff_not];by_cases h:gp b.1 a.1<0
  ·right;intro d;have:=jR a.1 b.1;omega
  exact .inl h) l
 exact this.imp fun {a b} h=>by simp only[cN,decide_eq_false_iff_not]at h;have:=jR a.1 b.1;omega
theorem EG [DFlag] (hr:HRel Tryz.prog B A0 σ h w){i0 b c:Nat}{l:List (VP.Fq)}(hs:∀b∈l,b.1.length<100000000) (hd:l.Pairwise λa b=>a.1≠b.1) (hid:h[i0]?=some (.cells (iq l) .live)) (hb:σ[i0]?=some (some b)) (hl:l.length<4611686018427387904) :
  Calls Tryz.prog 47 #[.slice (some ⟨b,0,none⟩) l.length c,.func (.func 48) #[] #[]] w (λe w'=>∃v,e=.returned v/\Go.V.er Tryz.prog B A0 σ h w (.tuple []) (h.set i0 (.cells (iq (qf l)) .live)) v w'):=by
 have⟨b',vs,ty,t,hB,d,q9,q7,hrel⟩:=hr.cells i0 _ .live hid s_;rw[hb]at t;simp only[aA]at t;subst t;have q8:=sE l;have⟨s,N,O⟩:=YH (A:=Alw Tryz.prog B A0 σ h) (w:=w) (vs:=vs) l 0 hs (λk x v u F=>by rw[cH]at F;exact FT u (hrel k x v u F)) o_
 have G:s.length=l.length:=by rw[<-N];simp
 have q':b<w.heap.size:=(aO.1 d).1;have q0:∀k o,Alw Tryz.prog B A0 σ h k o->k≠b:=λk o z e=>by subst e;unfold Alw at z;rw[if_neg o_]at z;exact z.1 i0 _ hid hb
 have up:∀(m:Nat) (D:Array Obj) (Q:Array (ElF (Alw Tryz.prog B A0 σ h) w)) (k o:Nat) x,Alw Tryz.prog B A0 σ h k o->w.cell? ⟨k,o,none⟩=some x->(sortWorldK ElF.vs 3 w b 0 m Q D).cell? ⟨k,o,none⟩=some x:=λm D Q k o x z Z=>by have hk:=World.block_lt_of_cell? w _ Z;unfold sortWorldK;rw[cell?_grow _ _ _ (by unfold putRowK putRow mapBlock;simpa using hk),cell?_putRowK_other (h:=q0 k o z)];exact Z
 have S:CmpLays Tryz.prog 48 #[] ElF.vs 3 (λx y:ElF (Alw Tryz.prog B A0 σ h) w=>gp x.b.1 y.b.1) b 0 s.toArray.size w:=by
  intro m D Q _ x y;have go:∀ {a:AV}{v:Value},IRel (Alw Tryz.prog B A0 σ h) w a v->IRel (λ_ _=>True) (sortWorldK ElF.vs 3 w b 0 m Q D) a v:=λr=>r.mono λk o x z Z=>⟨trivial,up m D Q k o x z Z⟩
  exact Go.VP.Hi x.b y.b x.small y.small ⟨λg a M=>go (hr.gr.1 g a M),λg n M=>by have⟨z',f,q1,q2,t,e2⟩:=hr.tab g n M;exact⟨f,q1,q2,nF t o_,e2⟩⟩ (go (JA x)) (go (JA y))
 have hH:HoldsK ElF.vs 3 w b 0 s.toArray:=by
  intro j E;have z0:j<3*l.length:=by simp[size_flatK]at E;omega
  have hd:j/3<s.length:=o_;have M:=O (j/3) (j%3) hd (gq _ o_);rw[show 0+(3*(j/3)+j%3)=j by omega]at M;have h8:=(s[j/3]).len;have q:j%3<3:=gq _ o_;refine⟨?_,by simp[World.frozen?,d]⟩;rw[get_flatK _ _ _ _ (by simpa[size_flatK]using E)];simp only[World.cell?,d,cH,lw,aw,if_false,M,id];rw[getElem!_pos s.toArray (j/3) (by simpa using hd)];simp only[oD];rw[getElem!_pos _ _ o_,aC o_]
 have q3:s.toArray.size<4611686018427387904:=by simp;omega
 have I:=AnyQ.slices_SortFunc (P:=Tryz.prog) Tryz.laysSortF 3 Tryz.isAgg55 Tryz.sizeOf55 (ElF.vs (A:=Alw Tryz.prog B A0 σ h) (w:=w)) ElF.len Rh (λx y=>gp x.b.1 y.b.1) aAP 48 #[] b 0 c s.toArray w (enters_of Tryz.func48 k_ rfl) S hH q' q3;change Calls Tryz.prog 47 _ _ _ at I;rw[show s.toArray.size=l.length by simp[G]]at I;refine I.mono ?_;rintro e w' ⟨rfl,p,n,D,hp,q4,rfl⟩;have J:p.size=l.length:=by have:=hp.1;simpa[G]using this
 have hT:p.toList.map ElF.b=qf l:=by
  have p1:(p.toList.map ElF.b).Perm l:=by have:=hp.2.2;rw[show l.length=p.size from J.symm,iS,J,show l.length=s.toArray.size by simp[G],iS]at this;rw[<-N];exact this.map _
  refine JR (p1.trans (yB l).symm) ?_ (Ju l) ((p1.pairwise_iff fun {a b}(k:a.1≠b.1)=>λe=>k e.symm).2 hd);unfold Sk;rw[gk,iZ];intro i j hi E q5;have:=q4 i j (aN _) q5 (by simpa[J]using E);simp only[ltOf,decide_eq_false_iff_not]at this;rw[getElem!_pos p i (by simpa using hi),getElem!_pos p j (by simpa using E)]at this;have an:=jR (p[i]'(by simpa using hi)).b.1 (p[j]'(by simpa using E)).b.1;simp only[oE];omega
 obtain⟨f,evs⟩:∃f,f=putCells id 0 (flatK ElF.vs 3 p) vs:=⟨_,rfl⟩
 have U:putRowK ElF.vs 3 w b 0 p=w.setRow b f:=by unfold putRowK putRow;rw[rX _ d,evs]
 have hw:sortWorldK ElF.vs 3 w b 0 n p D=Go.Sort.grow ((w.setRow b f).drewN n) D:=by rw[<-U];rfl
 have X:f.size=vs.size:=by rw[evs];simp[putCells]
 have Y:(qf l).length=l.length:=(yB l).length_eq;have q6:(iq (qf l)).length=3*l.length:=by rw[sE,Y]
 have K:∀(k:Nat) x v,(iq (qf l))[k]?=some x->f[k]?=some v->Rel Tryz.prog (Alw Tryz.prog B A0 σ h) σ h w x v:=by
  intro k x v u F;have hk:k<3*l.length:=by rw[<-q6];exact(aB.1 u).1
  have hd:k/3<p.size:=o_;have q:k%3<3:=gq _ o_;have E:k/3<(qf l).length:=by rw[Y];omega
  have t:=yc E q;rw[show 3*(k/3)+k%3=k by omega,u]at t;have et:(qf l)[k/3]=(p[k/3]).b:=by simp[<-hT]
  rw[et]at t;have ev:v=(p[k/3]).vs[k%3]'(by rw[(p[k/3]).len];exact q):=by rw[evs]at F;simp only[putCells,mz,aN,true_and,cH,size_flatK,Nat.sub_zero,id]at F;rw[aT o_,bq,if_pos o_,get_flatK _ _ _ _ o_,getElem!_pos p _ hd,getElem!_pos _ _ (by rw[(p[k/3]).len];exact q)]at F;simpa using F.symm
  exact .data ((p[k/3]).rel _ _ _ t.symm (by rw[ev];exact aC _))
 have L:∀x∈iq (qf l),x.one=true:=by intro x u;have⟨b,u⟩:=ya u;exact HY b x u
 have k1:=HRel.write hr hid hb d X (cs':=iq (qf l)) o_ L K;have k2:=Step.write (cs':=iq (qf l)) hr hid hb d X;have g:Grows (w.setRow b f) (sortWorldK ElF.vs 3 w b 0 n p D):=by rw[hw];refine⟨rfl,rfl,rfl,by simp[Go.Sort.grow,World.drewN],λk hk=>?_,λ_=>by simp[Go.Sort.grow,World.drewN]⟩;simp only[Go.Sort.grow,World.drewN];exact cT hk
 exact⟨_,rfl,σ,k1.grows g,k2.trans (.grows k1 g),.data (.tuple rfl (λi a v z=>by simp at z))⟩
theorem BF [DFlag]:sN Tryz.prog 47 vM:=by
 intro g h r F c B G σ w j k o b;unfold vM at c;split at c<;>try(cases c;done)
 ·rename_i x;simp only[aA,aD]at c;obtain⟨rfl,rfl⟩:=c;have⟨l⟩:=j;match l,o,b with
  |[u,v],_,b=>obtain⟨p,d,rfl⟩:=DH (b 0 _ u rfl rfl);have f:=qw (b 1 _ v rfl rfl);subst f;refine(show Calls Tryz.prog 47 #[.slice p 0 d,.func (.func 48) #[] #[]] w _ from AnyF.slices_SortFunc_none (P:=Tryz.prog) {Tryz.laysSortF with} p d _ w).mono ?_;rintro e I ⟨rfl,rfl⟩;exact⟨_,rfl,σ,k,.refl _ _ _,.data (.tuple rfl (λi a v b=>by simp at b))⟩
 rename_i J n;split at c<;>try(cases c;done)
 rename_i e;simp only[aA,aD]at c;obtain⟨rfl,rfl⟩:=c;have⟨q,z,s,t,c3⟩:=e.choose_spec;generalize e.choose=m at q s c3 z t ⊢;subst q;have⟨l⟩:=j;match l,o,b with
 |[u,v],_,b=>
  have f:=qw (b 1 _ v rfl rfl);subst f;have A:=b 0 _ u rfl rfl;cases A with
  |data D=>cases D
  |msl E K L M N y O=>exact EG k s t c3 E o_
end Go.VZ
namespace Go.VZ
open Go Go.V Go.Proofs Tryz Go.RowKit
theorem QX(f:FuncId):sN C.P f (C.prim f):=by
 intro b h r g n B k σ w i d j l;have a:prim f b h=some (r,g):=n;unfold prim at a;split at a
 ·rename_i c;subst c;split at a<;>try(cases a;done)
  simp only[aA,aD]at a;obtain⟨rfl,rfl⟩:=a;have:i = #[]:=Array.eq_empty_of_size_eq_zero (by simpa using j);subst this;exact(Dx (Q8 d)).mono λe p ⟨o,m⟩=>⟨_,o,σ,d.grows m,.grows d m,.data (.bool true)⟩
 split at a
 ·rename_i c;subst c;exact ER b h r g a B k σ w i d j l
 split at a
 ·rename_i c;subst c;exact Cr b h r g a B k σ w i d j l
 split at a
 ·rename_i c;subst c;exact BF b h r g a B k σ w i d j l
 split at a
 ·rename_i c;subst c;exact ES b h r g a B k σ w i d j l
 exact Cs f b h r g a B k σ w i d j l
theorem ok:Go.V.Ok C.P (Go.V.Call C):=Jb good QX
end Go.VZ
namespace Go.VZ
open Go Go.V Go.Proofs Tryz Go.RowKit TL
theorem Oo{f:FuncId}{args:LA}{vs:Array Value}{w:World}(hb:eE C.P f=true) (hl:vs.size=args.length)
  (hr:∀(i:Nat) a v,args[i]?=some a->vs[i]?=some v->IRel (λ_ _=>True) w a v) (hg:lS (λ_ _=>True) w) (hc:az C f args=some (.bool true)) :
  Calls prog f vs w (λe w'=>e=.returned (.bool true)/\Below w.heap.size w w'):=by
 unfold az at hc;split at hc<;>try(cases hc;done)
 rename_i r b d;refine(ok.fn f args [] r b hb d w.heap.size (λ_ _=>True) [] w vs (.start hg) hl (λi a v g h=>.data (lj (hr i a v g h)))).mono ?_;rintro e w' ⟨v,rfl,σ',c,j,k⟩;have l:=ji (c.stiller (da b)) dD r (.bool true) v hc (k.step (.stiller c (da b)));cases l;exact⟨rfl,j.below⟩
theorem Gu{P:Program}{w:World}{r:Reach}{b0:Nat}{t:TypeId}{fs:Array Field}{v:Value}(ht:P.underlying t=some (.struct fs)) (h:Value.okWide P w r b0 t v):∃cs,v=.agg cs/\cs.size=P.cellsOf t:=by unfold Value.okWide at h;rw[ht]at h;have⟨cs,a,b,_⟩:=h;exact⟨cs,a,b⟩
end Go.VZ
namespace Go.VZ
open Go Go.V Go.Proofs Tryz TL
abbrev oN{H:Type}(d:DataW H):Nat:=YtclakfnjdnibeaaGreatDoor.Rows.uptoBulk d
abbrev xA{H:Type}(l:List (DataW H)):Nat:=YtclakfnjdnibeaaGreatDoor.Rows.uptoBulkAll l
theorem I9{α:Type}{p:Nat->α->Prop}:∀n,(∀i,i<n->∃a,p i a)->∃l:List α,l.length=n/\∀i a,l[i]?=some a->p i a
 |0,_=>⟨[],rfl,λi a h=>by simp at h⟩
 |n+1,h=>by
  have⟨l,h1,h2⟩:=I9 n λi d=>h i o_
  have⟨a,e⟩:=h n o_;refine⟨l++[a],by simp[h1],λi b c=>?_⟩;by_cases d:i<n
  ·rw[aP o_]at c;exact h2 i b c
  rw[aj o_]at c;have:i=n:=by have:=(aB.1 c).1;simp at this;omega
  subst this;simp[h1]at c;subst c;exact e
theorem An{w:World}{a:Addr}{n:Nat}{cs:List Value}(h:w.cells? 0 a n=some cs):cs.length=n/\∀j u,cs[j]?=some u->w.cell? (a.add j)=some u:=by
 unfold World.cells? at h;rw[if_pos (aN _)]at h;have c:cs.length=n:=by have:=mapM_some_length h;rwa[List.length_range]at this
 refine⟨c,λj u b=>?_⟩;have d:=(aB.1 b).1;have:=mapM_some_get h j j (by rw[eO o_]);rw[this];exact b
theorem zk{H α:Type}{sz:α->Nat}:∀(l:List α) (ds:List (DataW H)),l.length=ds.length->(∀(i:Nat) a d,l[i]?=some a->ds[i]?=some d->sz a<=oN d)->(l.map sz).sum<=xA ds
 |[],_,_,_=>s_
 |a::l,[],h,_=>by simp at h
 |a::l,d::ds,h,hs=>by
  have:=zk l ds (by simpa using h) λi a d b c=>hs (i+1) a d (by simpa using b) (by simpa using c)
  have e:=hs 0 a d rfl rfl;simp only[aS,iF,xA,oN,YtclakfnjdnibeaaGreatDoor.Rows.uptoBulkAll]at this e ⊢;omega
theorem L7{w:World}{b o i j:Nat}{u:Value}(h:w.cell? (Addr.add (Addr.add ⟨b,o,none⟩ i) j)=some u):w.cell? ⟨b,o+i+j,none⟩=some u:=by
 rw[<-h];congr 1
 unfold Addr.add;split<;>split<;>simp_all
theorem L6{w:World}{b o:Nat}{z}{u:Value}(h:w.cell? (Addr.add (Addr.add ⟨b,o,z⟩ 0) 0)=some u):z=none:=by
 cases z with
 |none=>rfl
 |some z=>exfalso;simp[World.cell?,Addr.add]at h;split at h<;>cases h
theorem nN{H:Type}{enc:TypeId × Value->H}{P:Program}{w:World}{α:Type}{toV:α->AV}{sz:α->Nat}{t e:TypeId}{k fuel:Nat}{v:Value}{x:DataW H × List MemPlace}
  (hu:P.underlying t=some (.slice e)) (hk:P.cellsOf e=k) (h0:0<k) (hl:∀a:α,(toV a).cells.length=k/\bf (toV a)=true/\∀c∈(toV a).cells,c.one=true)
  (hd:∀n,n<fuel->∀cs y,cs.length=k->DataW.trod enc P w 0 (λ_=>true) true n e cs=some y->∃a:α,sz a<=oN y.1/\∀(j:Nat) c u,(toV a).cells[j]?=some c->cs[j]?=some u->IRel (λ_ _=>True) w c u)
  (h:DataW.trod enc P w 0 (λ_=>true) true fuel t [v]=some x):∃l:List α,IRel (λ_ _=>True) w (.isl (l.map toV) .unk) v/\l.length+1<=oN x.1/\(l.map sz).sum+1<=oN x.1:=by
 rcases DataW.trod_slice hu h with⟨K,rfl⟩|⟨a,len,cap,f,U,n,rfl,K,rfl,_,Y,L,M,N,_,_⟩
 ·simp only[bw,and_true]at K;subst K;exact⟨[],.islNil,by simp[oN,YtclakfnjdnibeaaGreatDoor.Rows.uptoBulk],by simp[oN,YtclakfnjdnibeaaGreatDoor.Rows.uptoBulk]⟩
 simp only[bw,and_true]at K;subst K;rw[hk]at N;have⟨l,r,D⟩:=I9 (p:=λi (g:α)=>∃cs y,w.cells? 0 (a.add (i*k)) k=some cs/\f[i]?=some y/\sz g<=oN y.1/\∀(j:Nat) c u,(toV g).cells[j]?=some c->cs[j]?=some u->IRel (λ_ _=>True) w c u) len λi Z=>by have m:=N i Z;have s:f[i]?=some (f[i]' o_):=aC o_;rw[s]at m;have⟨cs,F,O⟩:=Option.bind_eq_some_iff.1 m;have⟨g,h5,h6⟩:=hd n o_ cs _ (An F).1 O;exact⟨g,cs,_,F,s,h5,h6⟩
 have G:(l.map sz).sum<=xA (f.map (·.1)):=zk l _ (by simp[r,M]) λi g d m s=>by have⟨cs,y,_,F,O,_⟩:=D i g m;rw[ba,F]at s;simp only[bq,aA]at s;subst s;exact O
 have I:(l.map λ_=>1).sum<=xA (f.map (·.1)):=zk (sz:=λ_=>1) l _ (by simp[r,M]) λi g d m s=>by cases d<;>simp[oN,YtclakfnjdnibeaaGreatDoor.Rows.uptoBulk]<;>(rename_i q;cases q<;>simp[YtclakfnjdnibeaaGreatDoor.Rows.uptoBulk])
 have V:(l.map λ_=>1).sum=l.length:=by
  clear I G D r;induction l with
  |nil=>rfl
  |cons a l ih=>simp only[aS,iF,ih,aG];omega
 refine⟨l,?_,by simp only[oN,YtclakfnjdnibeaaGreatDoor.Rows.uptoBulk];simp only[xA]at I;omega,by simp only[oN,YtclakfnjdnibeaaGreatDoor.Rows.uptoBulk];simp only[xA]at G;omega⟩;by_cases hz:len=0
 ·subst hz;have:l=[]:=List.length_eq_zero_iff.1 r;subst this;exact .islEmpty a cap L
 have⟨b,o,z⟩:=a;have S:z=none:=by have⟨cs,y,m,_⟩:=D 0 (l[0]' o_) (aC o_);have⟨s,F⟩:=An m;have:=F 0 (cs[0]' o_) (aC o_);exact L6 (by simpa using this)
 subst S;have Q:∀(i j:Nat) E c,(l.map toV)[i]?=some E->E.cells[j]?=some c->∃u,w.cell? ⟨b,o+i*k+j,none⟩=some u/\IRel (λ_ _=>True) w c u:=λi j E c B J=>by
  rw[ba]at B;obtain⟨g,ha,rfl⟩:=cV.1 B;have⟨cs,y,m,_,_,O⟩:=D i g ha;have⟨s,F⟩:=An m;have X:j<cs.length:=by have:=(aB.1 J).1;rw[(hl g).1]at this;omega
  have:=F j cs[j] (aC X);exact⟨cs[j],L7 this,O j c _ J (aC X)⟩
 have:=IRel.isl (A:=λ_ _=>True) (w:=w) (es:=l.map toV) (sz:=k) (b:=b) (o:=o) (cap:=cap) (λi j=>(w.cell? ⟨b,o+i*k+j,none⟩).getD .nilIface) h0 (by simp;omega) L
  (λE B=>by obtain⟨g,_,rfl⟩:=bV.1 B;exact⟨(hl g).1,(hl g).2.1⟩)
  (λE B c J=>by obtain⟨g,_,rfl⟩:=bV.1 B;exact(hl g).2.2 c J)
  (λi j E c B J=>by have⟨u,m,_⟩:=Q i j E c B J;exact⟨trivial,by rw[m];rfl⟩)
  (λi j E c B J=>by have⟨u,m,s⟩:=Q i j E c B J;rw[m];exact s)
 rw[aU,r]at this;exact this
theorem AW:∀(l:Lb) (t:T),fk l t=t\/∃b∈l,b.1.cmp t=0/\fk l t=b.2
 |[],t=>.inl rfl
 |b::l,t=>by
  rw[fk];by_cases h:b.1.cmp t=0
  ·rw[if_pos h];exact .inr ⟨b,cJ,h,rfl⟩
  rw[if_neg h];rcases AW l t with e|⟨c,hc,e⟩
  ·exact .inl e
  exact .inr ⟨c,bZ _ hc,e⟩
def mu(l:Lb) (b:T × T):Lb:=if b.1.cmp b.2=0 then l else kI b l
theorem Kw{l m:Lb}(p:l.Perm m) (hn:(l.map (·.1)).Nodup) (v:T):fk l v=fk m v:=by
 have d:∀ {l:Lb}{b:T × T},(l.map (·.1)).Nodup->b∈l->fk l b.1=b.2:=by
  intro l;induction l with
  |nil=>intro b _ c;simp at c
  |cons a l f=>
   intro b hn c;rw[aS,oL]at hn;rw[fk];rcases ao.1 c with rfl|c
   ·rw[if_pos (cmp_zero.2 rfl)]
   rw[if_neg,f hn.2 c];intro e;exact hn.1 (by rw[cmp_zero.1 e];exact lH c)
 have g:(m.map (·.1)).Nodup:=(p.map _).nodup_iff.1 hn;by_cases h:∃b∈l,b.1=v
 ·obtain⟨b,c,rfl⟩:=h;rw[d hn c,d g (p.mem_iff.1 c)]
 have none:∀ {l:Lb},(∀b∈l,b.1≠v)->fk l v=v:=by
  intro l;induction l with
  |nil=>intro _;rfl
  |cons a l f=>intro h;rw[fk,if_neg (λe=>h a s_ (cmp_zero.1 e)),f λb c=>h b (by simp[c])]
 rw[none λb c e=>h ⟨b,c,e⟩,none λb c e=>h ⟨b,p.mem_iff.2 c,e⟩]
theorem Kx(l:Lb) (hn:(l.map (·.1)).Nodup) (v:T):fk (l.filter λb=>decide (b.1.cmp b.2≠0)) v=fk l v:=by
 induction l with
 |nil=>rfl
 |cons a l c=>
  rw[aS,oL]at hn;by_cases h:a.1.cmp a.2=0
  ·rw[mL (by simpa using h),c hn.2,fk];by_cases e:a.1.cmp v=0
   ·rw[if_pos e,<-cmp_zero.1 h];rw[cmp_zero.1 e]at hn ⊢;have none:∀ {l:Lb},v∉l.map (·.1)->fk l v=v:=by
     intro l;induction l with
     |nil=>intro _;rfl
     |cons a l c=>intro h;simp only[aS,ao,not_or]at h;rw[fk,if_neg (λe=>h.1 (cmp_zero.1 e).symm),c h.2]
    exact none hn.1
   rw[if_neg e]
  rw[ja (by simpa using h),fk,fk,c hn.2]
theorem nK:∀(l o:Lb),(l.foldl mu o).Perm (o++l.filter λb=>decide (b.1.cmp b.2≠0))
 |[],o=>s_
 |a::l,o=>by
  rw[gG,mu];by_cases h:a.1.cmp a.2=0
  ·rw[if_pos h,mL (by simpa using h)];exact nK l o
  rw[if_neg h,ja (by simpa using h)];refine(nK l _).trans ?_;refine((mH a o).append_right _).trans ?_;simp
theorem HJ{l:Lb}(hn:(l.map (·.1)).Nodup) (v:T):fk (l.foldl mu []) v=fk l v:=by have p:=nK l [];rw[bk]at p;have a:((l.filter λb=>decide (b.1.cmp b.2≠0)).map (·.1)).Nodup:=hn.sublist ((oS).map _);rw[Kw p ((p.map _).nodup_iff.2 a),Kx l hn]
mutual
def oc(θ:T->T):T->T
 |.mk k n s l=>if k=1 then θ (.mk k n s l)else .mk k n s (JT θ l)
def JT(θ:T->T):Lq->Lq
 |[]=>[]
 |t::l=>oc θ t::JT θ l
end
theorem Cc(θ:T->T):∀l,JT θ l=l.map (oc θ)
 |[]=>rfl
 |t::l=>by rw[JT,Cc θ l];rfl
theorem JU(θ:T->T) (t:T):oc θ t=if t.kind=1 then θ t else .mk t.kind t.name t.sort (t.kids.map (oc θ)):=by cases t;rw[oc,Cc];rfl
theorem F5{θ:T->T}{t:T}(h:t.kind=1):oc θ t=θ t:=by rw[JU,if_pos h]
theorem qz{θ:T->T}{t:T}(h:t.kind≠1):oc θ t=.mk t.kind t.name t.sort (t.kids.map (oc θ)):=by rw[JU,if_neg h]
def aAS(θ:T->T):Prop:=(∀x:T,x.kind=1->x.sort≠0->(θ x).kind=2/\(θ x).sort=x.sort)/\∀x:T,0<(θ x).size
theorem KW{t:T}(h:jQ t=0):t.kind=1\/t.kind=2\/t.kind=3:=by
 unfold jQ vg at h;split at h
 ·cases h
 rename_i c;simp only[bo,am,decide_eq_true_eq,not_or,not_and,Decidable.not_not]at c;by_cases a:t.kind=1
 ·exact .inl a
 by_cases b:t.kind=2
 ·exact .inr (.inl b)
 exact .inr (.inr (c.1.1.1.1 ⟨a,b⟩))
end Go.VZ
