/- A part of the proof. -/
import Derived.Test.YtbcnnpkfkopoeaaGreatDoorSh
set_option maxHeartbeats 32000000
set_option maxRecDepth 8000
namespace Go.VZ
open Go Go.V Go.Proofs Tryz TL
theorem NS:(List.range' 200 50).all (λn=>vW 100 107 [.int .i64 n] (.str ⟨(jj n).toArray⟩))=true:=k_
theorem NR:(List.range' 250 50).all (λn=>vW 100 107 [.int .i64 n] (.str ⟨(jj n).toArray⟩))=true:=k_
theorem NQ:(List.range' 300 50).all (λn=>vW 100 107 [.int .i64 n] (.str ⟨(jj n).toArray⟩))=true:=k_
theorem NP:(List.range' 350 50).all (λn=>vW 100 107 [.int .i64 n] (.str ⟨(jj n).toArray⟩))=true:=k_
theorem NO:(List.range' 400 50).all (λn=>vW 100 107 [.int .i64 n] (.str ⟨(jj n).toArray⟩))=true:=k_
theorem NN:(List.range' 450 50).all (λn=>vW 100 107 [.int .i64 n] (.str ⟨(jj n).toArray⟩))=true:=k_
theorem NM:(List.range' 500 50).all (λn=>vW 100 107 [.int .i64 n] (.str ⟨(jj n).toArray⟩))=true:=k_
theorem NK:(List.range' 550 50).all (λn=>vW 100 107 [.int .i64 n] (.str ⟨(jj n).toArray⟩))=true:=k_
theorem Te{n:Nat}(hn:n<600):az C 107 [.int .i64 n]=some (.str ⟨(jj n).toArray⟩):=by
 by_cases h:n<200
 ·exact Kq h
 by_cases a:n<250
 ·exact rh (av.1 NS n (by rw[db];omega))
 by_cases b:n<300
 ·exact rh (av.1 NR n (by rw[db];omega))
 by_cases c:n<350
 ·exact rh (av.1 NQ n (by rw[db];omega))
 by_cases d:n<400
 ·exact rh (av.1 NP n (by rw[db];omega))
 by_cases e:n<450
 ·exact rh (av.1 NO n (by rw[db];omega))
 by_cases f:n<500
 ·exact rh (av.1 NN n (by rw[db];omega))
 by_cases g:n<550
 ·exact rh (av.1 NM n (by rw[db];omega))
 exact rh (av.1 NK n (by rw[db];omega))
theorem QX{n:Nat}(hn:n<600) (h:H):aj C h (.func 107 []) (some [.int .i64 n])=some (.str ⟨(jj n).toArray⟩,h):=an rfl rfl s_ (Te hn)
theorem Kw{l s:List Cl}(h:∀c∈l,c.head.kind=1->∀θ,fS θ->had s (fu c θ) (ii c θ)):OZ (vF s) (vF l):=by
 rintro r ⟨c,g,θ,i,j,rfl,k,m⟩;rcases h c g i θ j with⟨d,n,a,θ',b,e,more,f⟩|h
 ·refine .inl ⟨Lz d θ',more,⟨d,n,θ',a,b,rfl,?_,λw o=>?_⟩,e,f⟩
  ·change (fu d θ').size<=40;rw[e];exact k
  exact m w (f.mem_iff.2 (aa _ o))
 exact .inr h
theorem D4{l s:List Cl}(hcov:∀c∈l,c.head.kind=1->∀θ,fS θ->had s (fu c θ) (ii c θ)) (hsat:Sat (vF s)){t:T}{n:Nat}(hd:Der (vF l) t n):∃c∈s,kc c=true/\c.head.kind=1/\t.size<=40/\∃θ,fS θ/\fu c θ=t:=by have⟨m,_,h⟩:=HQ (Kw hcov) n t hd;obtain⟨r,_,⟨c,b,θ,d,e,rfl,f,_⟩,g,a,_⟩:=GJ hsat m t h;refine⟨c,b,g,d,?_,θ,e,a⟩;rw[<-a];exact f
def oC(t:T):Prop:=∀v∈bm bD t,v.kind≠1
theorem A6{θ:T->T}:∀t:T,oC t->bc θ t=t:=by
 refine T.ind λt c h=>?_
 rw[dz (h t (dD t))];have:t.kids.map (bc θ)=t.kids:=by
  have e:t.kids.map (bc θ)=t.kids.map id:=bf λa b=>c a b λv d=>h v (mem_walk.2 (.inr ⟨a,b,d⟩))
  rw[e,List.map_id]
 rw[this];cases t;rfl
def jM(v:T):T:=.mk 1 ⟨#[118]⟩ v.sort []
def gtF(x a:Fa):Bool:=decide (0<kV (cq jM x) (cq jM a))
def lS(l:List Fa):List Fa:=l.foldl (λo a=>sn gtF a o) []
theorem B5{α:Type}(gt:α->α->Bool):∀(l o:List α),(o++l).Perm (l.foldl (λo a=>sn gt a o) o)
 |[],o=>by rw[br];exact .refl _
 |a::l,o=>by rw[dc];refine List.Perm.trans ?_ (B5 gt l (sn gt a o));exact lM.trans ((xv gt a o).symm.append_right l)
theorem np(l:List Fa):l.Perm (lS l):=by have:=B5 gtF l [];rwa[cN]at this
def kj(l:Lq):Lq:=pD (λo x=>decide (x.kind≠1)||o.any λy=>decide (y.cmp x=0)) l []
theorem qU:∀(l o:Lq),o.Nodup->(∀x∈o,x.kind=1)->(pD (λo x=>decide (x.kind≠1)||o.any λy=>decide (y.cmp x=0)) l o).Nodup/\(∀x∈pD (λo x=>decide (x.kind≠1)||o.any λy=>decide (y.cmp x=0)) l o,x.kind=1)/\∀x,x.kind=1->x∈o++l->x∈pD (λo x=>decide (x.kind≠1)||o.any λy=>decide (y.cmp x=0)) l o
 |[],o,h1,h2=>⟨h1,h2,λx _ hm=>by simpa[pD]using hm⟩
 |a::l,o,h1,h2=>by
  unfold pD;rw[dc];by_cases h:(decide (a.kind≠1)||o.any λy=>decide (y.cmp a=0))=true
  ·rw[if_pos h];have⟨k1,k2,k3⟩:=qU l o h1 h2;refine⟨k1,k2,λx b hm=>k3 x b ?_⟩;simp only[aK,aV]at hm ⊢;rcases hm with hm|rfl|hm
   ·exact .inl hm
   ·left;simp only[bz,decide_eq_true_eq,dT]at h;rcases h with h|⟨y,c,d⟩
    ·exact absurd b h
    rw[<-cmp_zero.1 d];exact c
   exact .inr hm
  rw[if_neg h];simp only[bz,decide_eq_true_eq,dT,not_or,not_exists,not_and,Decidable.not_not]at h;have f:(o++[a]).Nodup:=by rw[List.nodup_append];refine⟨h1,s_,λx b y c e=>?_⟩;simp only[aS]at c;subst c;subst e;exact h.2 x b (cmp_zero.2 rfl)
  have⟨k1,k2,k3⟩:=qU l (o++[a]) f λx b=>by
   rcases aK.1 b with b|b
   ·exact h2 x b
   simp only[aS]at b;subst b;exact h.1
  refine⟨k1,k2,λx b hm=>k3 x b ?_⟩;simpa using hm
def ow(nm:Nat->ByteArray) (vs:Lq):Lb:=vs.zipIdx.map λp=>(p.1,.mk 1 (nm p.2) p.1.sort [])
theorem wZ(nm:Nat->ByteArray) (vs:Lq):(ow nm vs).map (·.1)=vs:=by unfold ow;rw[eG];exact List.zipIdx_map_fst 0 vs
def qp(nm:Nat->ByteArray) (c:Cl):Cl:=fK (ow nm (kj ((bN ⟨lS (setF c.body),c.head⟩).flatMap (bm bD)))) ⟨lS (setF c.body),c.head⟩
theorem zb{c:Cl}{b:List Fa}(h:ot c) (hb:∀f∈b,f∈c.body):ot ⟨b,c.head⟩:=λf a=>by
 simp only[aN,aK,aS]at a;refine h f ?_;simp only[aN,aK,aS];rcases a with a|a
 ·exact .inl (hb f a)
 exact .inr a
theorem CE{nm:Nat->ByteArray}{c:Cl}(ht:ot c) (hn:∀i j,i<(kj ((bN ⟨lS (setF c.body),c.head⟩).flatMap (bm bD))).length->j<(kj ((bN ⟨lS (setF c.body),c.head⟩).flatMap (bm bD))).length->nm i=nm j->i=j):cov (qp nm c) c:=by
 have s:cov ⟨lS (setF c.body),c.head⟩ c:=lL (Nd (c:=⟨setF c.body,c.head⟩) (np _)) Ix;have a:∀f∈lS (setF c.body),f∈c.body:=λf g=>by have⟨more,u⟩:=mX c.body;exact u.mem_iff.2 (aa _ ((np _).mem_iff.2 g))
 refine lL ?_ s;have d:=zb ht a;unfold qp;generalize (⟨lS (setF c.body),c.head⟩:Cl)=D at d hn;have⟨h,k,l⟩:=qU ((bN D).flatMap (bm bD)) [] .nil s_;change (kj ((bN D).flatMap (bm bD))).Nodup at h;change ∀x∈kj ((bN D).flatMap (bm bD)),x.kind=1 at k;change ∀x,x.kind=1->_->x∈kj ((bN D).flatMap (bm bD))at l;generalize kj ((bN D).flatMap (bm bD))=vs at h k l hn;refine CD d ?_ (λb m=>?_) (by rw[wZ];exact h) ?_
 ·rw[wZ];exact λf g t n v o w=>l v w (by
   rw[cN];exact bR.2 ⟨t,(gb D t).1 (bR.2 ⟨f,g,n⟩),o⟩)
 ·have o:b.1∈vs:=by rw[<-wZ nm vs];exact df m
  unfold ow at m;obtain⟨p,_,rfl⟩:=ae.1 m;exact⟨k _ o,rfl,rfl⟩
 unfold ow;rw[eG,lC,iD];rw[iz];intro i j q r y e;simp only[List.length_zipIdx]at q r;simp only[Function.comp,List.getElem_zipIdx,T.mk.injEq,bu]at e;have:=hn i j q r e.2.1;omega
theorem FG(t:T):iT [enc t]=some [enc t]:=by rw[bV];rfl
def W3(t:T) (m:Nat) (s:PT) (h:H):Prop:=∃k:Nat,∃v:AV,m=t.kids.length-k/\k<=t.kids.length/\s.get 1=.ptr 0 0/\s.get 2=.ptr 1 0/\s.get 3=.ptr 2 0/\s.get 4=.int .i64 k/\h[0]?=some (.cells (tc t) .live)/\h[1]?=some (.cells zc .live)/\h[2]?=some (.cells [.int .i64 t.kind,.str t.name,.int .i64 t.sort,v] .live) /\
 OwnR 41 h v (((t.kids.take k).map (bc jM)).map enc)
theorem RA(t:T) (hv:t.size<4000000) (hc:∀k∈t.kids,az C 140 [enc k]=some (enc (bc jM k))):az C 140 [enc t]=some (enc (bc jM t)):=by
 refine bL func140 rfl λR X=>?_
 have fin:∀(s:PT) (q:T) (h:H),s.get 2=.ptr 1 0->h[1]?=some (.cells (enc q).cells .live)->q=bc jM t->R .ret s h:=λs q h hs hh ht=>by
  refine X ⟨enc q,?_,?_⟩
  ·simp[ag,cO,f140,hs,aJ,hh,aY,a25,s25,aq];rw[bV]
  rw[<-ht];exact aU (oh q) (bF q)
 have c1:=λh=>mf (h:=h) (f:=106) k_ rfl (args:=[.str ⟨#[118]⟩,.int .i64 t.sort]) rfl rfl s_ (Rb ⟨#[118]⟩ t.sort)
 have g:=qb jM t;have q':=size_kids t;have Y:=len_sizes t.kids;simp[go_sem,terms];refine Ife_iff.2 ⟨λr=>?_,λr=>?_⟩
 ·rw[if_pos r]at g;simp[go_sem,c1,H9];exact fin _ (jM t) _ g_ (by simp[jM]) g.symm
 rw[if_neg r]at g;have q1:∀(x y:VObj) (a b c:AV),ah C.P [x,y,.cells [a,b,c,.isl (t.kids.map enc) .unk] .live] 32 (.ptr 2 3) (.isl [] .full)=some [x,y,.cells [a,b,c,.isl [] .full] .live]:=λx y a b c=>by simp[ah,s23]
 simp[go_sem,vD,H8,aq,terms,q1];refine bX (W3 t) t.kids.length ⟨0,.isl [] .full,rfl,aO _,g_,g_,g_,g_,rfl,rfl,rfl,.inl rfl⟩ ?_;rintro m s h ⟨k,v,rfl,hk,F,Z,g5,G,I,E,w,u⟩;have J:aJ C.P h 32 (.ptr 0 3)=some (.isl (t.kids.map enc) .unk):=by simp[aJ,I,tc,aY,a23,s23]
 have l2:aJ C.P h 32 (.ptr 2 3)=some v:=by obtain⟨x,rfl⟩:=u.isl;simp[aJ,w,aY,a23,s23]
 by_cases j:k<t.kids.length
 ·have z:(k:Int)<t.kids.length:=o_;have K:=lu t.kids k j .unk;have w2:=wS k o_;have ck:∀h,aj C h (.func 140 []) (some [enc t.kids[k]])=some (enc (bc jM t.kids[k]),h):=λh=>an (FG _) (by simp[bF]) s_ (hc _ (aG j))
  have⟨A,L,ha,M,l,N⟩:=jN (ys:=[bc jM t.kids[k]]) (x:=.full) u (by simp only[ax,bU,aL,bB];omega);have O:(t.kids.take k).map (bc jM)++[bc jM t.kids[k]]=(t.kids.take (k+1)).map (bc jM):=by rw[<-aW j,List.map_append];rfl
  rw[O]at M;simp only[aM,bM]at ha;have d:∀i,cG v=some i->i≠0/\i≠1/\i≠2:=λi n=>by
   rcases u with rfl|⟨id,rfl,o⟩
   ·cases n
   simp only[cG,aA]at n;subst n;exact⟨λe=>by(rw[e,I]at o;cases o),λe=>by(rw[e,E]at o;cases o),λe=>by(rw[e,w]at o;cases o)⟩
  have Q:=l.get I (λe=>(d _ e).1 rfl);have S:=l.get E (λe=>(d _ e).2.1 rfl);have B:=l.get w (λe=>(d _ e).2.2 rfl);have U:ah C.P L 32 (.ptr 2 3) A=some (L.set 2 (.cells [.int .i64 t.kind,.str t.name,.int .i64 t.sort,A] .live)):=by obtain⟨x,rfl⟩:=M.isl;simp[ah,B,s23]
  have V:OwnR 41 (L.set 2 (.cells [.int .i64 t.kind,.str t.name,.int .i64 t.sort,A] .live)) A (((t.kids.take (k+1)).map (bc jM)).map enc):=M.keep (Keep.set _ _ _) (λi n e=>by
   rcases N with r|⟨r,h2⟩
   ·exact(d i (r▸n)).2.2 (by simpa using e.symm)
   have:=(aB.1 w).1;rw[h2]at n;simp only[aA]at n e;omega)
  have p:=(aB.1 B).1;simp[go_sem,F,G,J,fq,z,-Int.natCast_add];refine eQ 8 _ (by simp[gM]) rfl ?_;simp[go_sem,F,g5,G,J,l2,K,ee,ck,fO,ha,U,-Int.natCast_add,w2];refine⟨?_,t.kids.length-(k+1),o_,k+1,A,rfl,j,g_,g_,g_,g_,?_,?_,?_,V⟩
  ·rcases u with rfl|⟨id,rfl,o⟩
   ·simp[go_sem,ff,fL,fP,iC,dy,cF]
   have:=d id rfl;simp[go_sem,ff,fL,fP,iC,dy,cF]
   (try omega)
  ·rw[aC o_];exact Q
  ·rw[aC o_];exact S
  rw[aD p]
 have:k=t.kids.length:=o_;subst this;rw[ak]at u;obtain⟨x,rfl⟩:=u.isl;have e5:aJ C.P h 41 (.ptr 2 0)=some (.agg [.int .i64 t.kind,.str t.name,.int .i64 t.sort,.isl ((t.kids.map (bc jM)).map enc) x]):=by simp[aJ,w,aY,a25,s25]
 have e6:ah C.P h 41 (.ptr 1 0) (.agg [.int .i64 t.kind,.str t.name,.int .i64 t.sort,.isl ((t.kids.map (bc jM)).map enc) x])=some (h.set 1 (.cells [.int .i64 t.kind,.str t.name,.int .i64 t.sort,.isl ((t.kids.map (bc jM)).map enc) x] .live)):=by simp[ah,E,s25,zc]
 have e7:=(aB.1 E).1;generalize D:AV.agg [.int .i64 t.kind,.str t.name,.int .i64 t.sort,.isl ((t.kids.map (bc jM)).map enc) x]=zz at e5 e6;simp[go_sem,F,Z,g5,G,J,fq,e5,e6];refine X ⟨zz,?_,?_⟩
 ·simp[ag,cO,f140,go_sem,Z,aJ,aD e7,aY,a25,s25,<-D]
 rw[g,bV,<-D];exact aU rfl rfl
theorem FZ(t:T):t.size<4000000->az C 140 [enc t]=some (enc (bc jM t)):=by
 induction t using T.ind with
 |_ t b=>exact λc=>RA t c (λk a=>b k a (by have:=kid_size a;omega))
theorem Q4(t:T) (hv:t.size<4000000) (h:H):aj C h (.func 140 []) (some [enc t])=some (enc (bc jM t),h):=an (FG _) (by simp[bF]) s_ (FZ t hv)
def W4(f:Fa) (m:Nat) (s:PT) (h:H):Prop:=∃(k:Nat) (v:AV),m=f.terms.length-k/\k<=f.terms.length/\h[0]?=some (.cells (faC f) .live)/\h[1]?=some (.cells qI .live)/\h[2]?=some (.cells (fav f v) .live)/\s.get 1=.ptr 0 0/\s.get 2=.ptr 1 0/\s.get 3=.ptr 2 0/\s.get 4=.int .i64 k /\
 OwnR 41 h v (((f.terms.take k).map (bc jM)).map enc)
theorem Ll(f:Fa) (hv:smallT f.terms):az C 103 [aQ f]=some (aQ (cq jM f)):=by
 refine bL func103 rfl λR N=>?_
 have l:=dX f.terms;have O:=hv.1;obtain⟨r,c⟩:∃g:H,g=[.cells (faC f) .live,.cells qI .live]:=⟨_,rfl⟩
 have d:r[0]?=some (.cells (faC f) .live):=by rw[c];rfl
 have t:=rK d;have u:=vC d;have I:=Rf (h:=r) f (.isl [] .full) rfl;have Q:=Rx f;simp only[c,aL,bB]at I t u;simp[go_sem,nI,qv,am,t,u,Q,au];refine bX (W4 f) f.terms.length ⟨0,.isl [] .full,rfl,aO _,rfl,rfl,rfl,g_,g_,g_,g_,.inl rfl⟩ ?_;clear I t u d c r;rintro m s h ⟨k,v,rfl,hk,d,w,q,y,J,K,z,e⟩;have S:au v=true:=by obtain⟨x,rfl⟩:=e.isl;rfl
 have lt:=mY d;have U:aJ C.P h 32 (.ptr 2 2)=some v:=by simp[aJ,q,fav,aY,a23,s23]
 by_cases a:k<f.terms.length
 ·have n:(k:Int)<f.terms.length:=o_;have A:=dh f.terms k a;have V:=wS k o_;have X:=Q4 f.terms[k] (hv.2 _ (aG a));have⟨Y,h',Z,B,L,b,j⟩:=ue (i:=2) (o:=2) (bc jM f.terms[k]) e q (by simp[fav]) (by simp;omega);have D:(f.terms.take k).map (bc jM)++[bc jM f.terms[k]]=(f.terms.take (k+1)).map (bc jM):=by rw[<-aW a,List.map_append];rfl
  rw[D]at L;have E:=bn e q;have F:=bn e d;simp[go_sem,y,z,lt,l,n,-Int.natCast_add];refine eQ 5 _ (by simp[gM]) rfl ?_;simp[go_sem,y,K,z,lt,U,A,ee,X,fO,Z,B,-Int.natCast_add,V];refine⟨?_,f.terms.length-(k+1),o_,k+1,Y,rfl,a,b 0 _ _ o_ d,b 1 _ _ o_ w,j,g_,g_,g_,g_,L⟩;rcases e with rfl|⟨id,rfl,hd⟩
  ·simp[go_sem,ff,fL,fP,iC,dy,cF]
  simp only[cG,ne_eq,aA]at E F;simp[go_sem,ff,fL,fP,iC,dy,cF]
  (try omega)
 have:k=f.terms.length:=o_;subst this;rw[ak]at e;obtain⟨x,rfl⟩:=e.isl;have M:aJ C.P h 34 (.ptr 2 0)=some (.agg [.int .i64 f.kind,.int .i64 f.goal,.isl ((cq jM f).terms.map enc) x]):=by simp[aJ,q,aY,a35,s35,fav,cq]
 have G:=GC _ _ _ (cq jM f) x w;have e7:=(aB.1 w).1;change ah C.P h 34 (.ptr 1 0) (.agg [.int .i64 f.kind,.int .i64 f.goal,.isl ((cq jM f).terms.map enc) x])=_ at G;generalize p:AV.agg [.int .i64 f.kind,.int .i64 f.goal,.isl ((cq jM f).terms.map enc) x]=zz at M G;simp[go_sem,y,J,K,z,lt,l,M,G];refine N ⟨zz,?_,?_⟩
 ·simp[ag,cO,f103,go_sem,J,aJ,aD e7,aY,a35,s35,<-p,cq]
 rw[<-p];exact aU rfl rfl
theorem Dh(f:Fa) (hv:smallT f.terms) (h:H):aj C h (.func 103 []) (some [aQ f])=some (aQ (cq jM f),h):=an (args':=[aQ f]) rfl (by simp;rfl) s_ (Ll f hv)
def vn(n:Nat):ByteArray:=⟨(118::jj n).toArray⟩
def nmV(n:Nat):ByteArray:=if n<600 then vn n else⟨(List.replicate n 0).toArray⟩
theorem IQ{i j:Nat}(h:nmV i=nmV j):i=j:=by
 unfold nmV at h;have a:∀n,(vn n).data.toList.length<=4:=λn=>by have:=An n;simp[vn];omega
 by_cases c:i<600<;>by_cases d:j<600
 ·rw[if_pos c,if_pos d]at h;have e:jj i=jj j:=by have:=congrArg (λb:ByteArray=>b.data.toList) h;simpa[vn]using this
  rw[<-uH (n:=i) o_,e,uH o_]
 ·rw[if_pos c,if_neg d]at h;have e:=congrArg (λb:ByteArray=>b.data.toList.length) h;have:=a i;simp at e this;omega
 ·rw[if_neg c,if_pos d]at h;have e:=congrArg (λb:ByteArray=>b.data.toList.length) h;have:=a j;simp at e this;omega
 rw[if_neg c,if_neg d]at h;have e:=congrArg (λb:ByteArray=>b.data.toList.length) h;simpa using e
theorem ZS(x y:Operand) (n:Nat):jU C.P .add 9 x y (.str ⟨#[118]⟩) (.str ⟨(jj n).toArray⟩)=some (.str (vn n)):=by
 rw[Dp]
 ·congr 2
 have a:(⟨#[118]⟩:ByteArray).size=1:=rfl;have b:(⟨(jj n).toArray⟩:ByteArray).size=(jj n).length:=by simp[ByteArray.size]
 have:=An n;omega
def AU(o:Lq) (x:T):Bool:=decide (x.kind≠1)||o.any λy=>decide (y.cmp x=0)
def rL(l o:Lq):Lq:=pD AU l o
theorem wi(l:Lq):rL l []=kj l:=rfl
theorem KU(o:Lq):rL [] o=o:=rfl
theorem uY{o:Lq}{a:T}(l:Lq) (h:AU o a=true):rL (a::l) o=rL l o:=by rw[rL,sH];exact if_pos h
theorem xo{o:Lq}{a:T}(l:Lq) (h:AU o a=false):rL (a::l) o=rL l (o++[a]):=by rw[rL,sH];exact if_neg (by simp[h])
theorem xp:∀(l o:Lq),o.length<=(rL l o).length
 |[],o=>aP _
 |a::l,o=>by
  cases h:AU o a with
  |true=>rw[uY l h];exact xp l o
  |false=>rw[xo l h];have:=xp l (o++[a]);simp at this;omega
theorem tJ(nm:Nat->ByteArray) (l:Lq):(ow nm l).length=l.length:=by simp[ow]
theorem KJ(nm:Nat->ByteArray) (l:Lq) (a:T):ow nm (l++[a])=ow nm l++[(a,.mk 1 (nm l.length) a.sort [])]:=by simp[ow,List.zipIdx_append]
theorem MQ(nm:Nat->ByteArray) (l:Lq) (k:Nat) (h:k<l.length):(ow nm l)[k]'(by rw[tJ];exact h)=(l[k],.mk 1 (nm k) l[k].sort []):=by simp[ow]
def lR(l:Lb) (b:T × T):Lb:=if b.1.cmp b.2=0 then l else lJ b l
theorem Kc{l m:Lb}(p:l.Perm m) (hn:(l.map (·.1)).Nodup) (v:T):dp l v=dp m v:=by
 have d:∀ {l:Lb}{b:T × T},(l.map (·.1)).Nodup->b∈l->dp l b.1=b.2:=by
  intro l;induction l with
  |nil=>intro b _ c;simp at c
  |cons a l f=>
   intro b hn c;rw[aM,gd]at hn;rw[dp];rcases aV.1 c with rfl|c
   ·rw[if_pos (cmp_zero.2 rfl)]
   rw[if_neg,f hn.2 c];intro e;exact hn.1 (by rw[cmp_zero.1 e];exact df c)
 have g:(m.map (·.1)).Nodup:=(p.map _).nodup_iff.1 hn;by_cases h:∃b∈l,b.1=v
 ·obtain⟨b,c,rfl⟩:=h;rw[d hn c,d g (p.mem_iff.1 c)]
 have none:∀ {l:Lb},(∀b∈l,b.1≠v)->dp l v=v:=by
  intro l;induction l with
  |nil=>intro _;rfl
  |cons a l f=>intro h;rw[dp,if_neg (λe=>h a s_ (cmp_zero.1 e)),f λb c=>h b (by simp[c])]
 rw[none λb c e=>h ⟨b,c,e⟩,none λb c e=>h ⟨b,p.mem_iff.2 c,e⟩]
theorem Kd(l:Lb) (hn:(l.map (·.1)).Nodup) (v:T):dp (l.filter λb=>decide (b.1.cmp b.2≠0)) v=dp l v:=by
 induction l with
 |nil=>rfl
 |cons a l c=>
  rw[aM,gd]at hn;by_cases h:a.1.cmp a.2=0
  ·rw[List.filter_cons_of_neg (by simpa using h),c hn.2,dp];by_cases e:a.1.cmp v=0
   ·rw[if_pos e,<-cmp_zero.1 h];rw[cmp_zero.1 e]at hn ⊢;have none:∀ {l:Lb},v∉l.map (·.1)->dp l v=v:=by
     intro l;induction l with
     |nil=>intro _;rfl
     |cons a l c=>intro h;simp only[aM,aV,not_or]at h;rw[dp,if_neg (λe=>h.1 (cmp_zero.1 e).symm),c h.2]
    exact none hn.1
   rw[if_neg e]
  rw[List.filter_cons_of_pos (by simpa using h),dp,dp,c hn.2]
theorem pt:∀(l o:Lb),(l.foldl lR o).Perm (o++l.filter λb=>decide (b.1.cmp b.2≠0))
 |[],o=>s_
 |a::l,o=>by
  rw[dc,lR];by_cases h:a.1.cmp a.2=0
  ·rw[if_pos h,List.filter_cons_of_neg (by simpa using h)];exact pt l o
  rw[if_neg h,List.filter_cons_of_pos (by simpa using h)];refine(pt l _).trans ?_;refine((oA a o).append_right _).trans ?_;simp
theorem HB{l:Lb}(hn:(l.map (·.1)).Nodup) (v:T):dp (l.foldl lR []) v=dp l v:=by have p:=pt l [];rw[cN]at p;have a:((l.filter λb=>decide (b.1.cmp b.2≠0)).map (·.1)).Nodup:=hn.sublist ((List.filter_sublist).map _);rw[Kc p ((p.map _).nodup_iff.2 a),Kd l hn]
theorem GY{l m:Lb}(h:∀v,dp l v=dp m v):∀t:T,cy l t=cy m t:=by
 refine T.ind λt a=>?_
 rw[fh,fh,h];congr 2
 exact bf λk b=>a k b
theorem ES{l m:Lb}(h:∀v,dp l v=dp m v) (c:Cl):fK l c=fK m c:=by
 have e:cD l=cD m:=funext λf=>by
  unfold cD;congr 1
  exact bf λt _=>GY h t
 unfold fK;rw[e]
theorem RB(x y:T) (l:Lb) (hx:x.size<4000000) (hy:y.size<4000000) (he:x.cmp y=0):az C 73 [binds l,enc x,enc y]=some (binds l):=by
 refine bL func73 rfl λR a=>?_
 have b:aJ C.P [.cells (enc x).cells .live,.cells (enc y).cells .live,.tok 0 121] 41 (.ptr 0 0)=some (enc x):=eY rfl;have c:aJ C.P [.cells (enc x).cells .live,.cells (enc y).cells .live,.tok 0 121] 41 (.ptr 1 0)=some (enc y):=eY rfl;have d:=nH x y hx hy;simp[go_sem,nJ,b,c,d,he];exact a ⟨binds l,by simp[ag,cO,f73,go_sem],aU rfl rfl⟩
theorem FX(b:T × T) (l:Lb) (e:Ext) (hx:b.1.size<4000000) (hy:b.2.size<4000000) (hs:small l) (hl:l.length<4000000) (h:H):aj C h (.func 73 []) (some [.isl (l.map bT) e,enc b.1,enc b.2])=some (binds (lR l b),h):=by
 have⟨x,y⟩:=b;by_cases a:x.cmp y=0
 ·rw[lR,if_pos a];exact an (args':=[binds l,enc x,enc y]) (by rw[bV x,bV y];rfl) (by simp[bF];rfl) s_ (RB x y l hx hy a)
 rw[lR,if_neg a];exact Qv x y l e hx hy hs hl a h
theorem Fb{l:Lb}{b:T × T}(hs:small l) (hb:b.1.size<4000000/\b.2.size<4000000):small (lR l b):=by
 unfold lR;split
 ·exact hs
 intro c a;rcases aK.1 ((oA b l).mem_iff.1 a)with a|a
 ·exact hs c a
 rw[aS.1 a];exact hb
theorem K8(l:Lb) (b:T × T):(lR l b).length<=l.length+1:=by
 unfold lR;split
 ·omega
 rw[Mv];omega
theorem wq(l:Lq):(kj l).Nodup/\∀x∈kj l,x.kind=1:=by have⟨a,b,_⟩:=qU l [] .nil s_;exact⟨a,b⟩
theorem Ig{α:Type}{gt:α->α->Bool}{a:α}:∀(l:List α) (k:Nat),k<=l.length->(∀(j:Nat) (x:α),k<=j->l[j]?=some x->gt x a=true)->(k=0\/∃x,l[k-1]?=some x/\gt x a=false)->sn gt a l=l.take k++a::l.drop k
 |[],k,hk,_,_=>by
  have:k=0:=by simpa using hk
  subst this;simp[sn]
 |b::l,0,_,h1,_=>by
  rw[sn,if_neg]
  ·simp
  simp only[dT,not_exists,not_and,cL,jO];intro x c;have⟨j,e⟩:=iB c;exact h1 j x (aO _) e
 |b::l,k+1,hk,h1,d=>by
  obtain d|⟨x,c,f⟩:=d
  ·cases d
  simp only[Nat.add_sub_cancel]at c;rw[sn,if_pos]
  ·rw[Ig l k (by simpa using hk) (λj x e c=>h1 (j+1) x o_ (by simpa using c)) ?_]
   ·simp
   rcases mS k with h|h
   ·exact .inl h
   right;obtain⟨m,rfl⟩:∃m,k=m+1:=⟨k-1,o_⟩
   exact⟨x,by simpa using c,f⟩
  simp only[dT];exact⟨x,bQ c,by simp[f]⟩
theorem Ho{h:H}{i:Nat}(l ys:List Fa) (x:Ext) (hi:h[i]?=some (.tok l.length 34)) (hl:l.length+ys.length<=10000000):bi C.P false h 29 (.isl (l.map aQ) (.tok i)) (.isl (ys.map aQ) x)=some (.isl ((l++ys).map aQ) (.tok i),h.set i (.tok (l.length+ys.length) 34)):=by have a:=gS l;have b:=gS ys;simp only[gN,ed,u33,s35,b35,km,z35,a,b,ax,hi];rw[if_neg s_,if_neg s_,if_neg (by simp;omega),if_pos ⟨trivial,trivial⟩];simp
theorem UH(h:H) (xs:List Fa) (x:Ext) (hn:xs≠[]) (hl:xs.length<=10000):bi C.P false h 29 (.isl [] .full) (.isl (xs.map aQ) x)=some (.isl (xs.map aQ) (.tok h.length),h++[.tok xs.length 34]):=by
 cases xs with
 |nil=>exact absurd rfl hn
 |cons a l=>exact Fm h a l x hl
theorem K7:∀t:T,(bc jM t).size<=t.size:=by
 refine T.ind λt c=>?_
 rw[qb];split
 ·have:=size_pos t;show T.size (.mk 1 ⟨#[118]⟩ t.sort [])<=t.size;have e:T.size (.mk 1 ⟨#[118]⟩ t.sort [])=1:=by rw[size_kids];rfl
  rw[e];omega
 rw[size_kids,size_kids t];have:∀l:Lq,(∀k∈l,(bc jM k).size<=k.size)->sizes (l.map (bc jM))<=sizes l:=by
  intro l;induction l with
  |nil=>simp
  |cons a l b=>
   intro h;have f:=h a s_;have g:=b λk d=>h k (by simp[d])
   rw[aM,sizes,sizes];omega
 exact Nat.succ_le_succ (this _ c)
theorem sY{f:Fa}(h:smallT f.terms):smallT (cq jM f).terms:=⟨by simpa[cq]using h.1,λt a=>by obtain⟨u,b,rfl⟩:=ae.1 a;have:=K7 u;have:=h.2 u b;omega⟩
theorem KC(l o:List Fa) (a:Fa):(a::l).foldl (λo a=>sn gtF a o) o=l.foldl (λo a=>sn gtF a o) (sn gtF a o):=rfl
def h61(c:Cl):H:=[.cells (clC c) .live,.cells dU .live,.tok 0 34]
def aAB(c:Cl) (l:List Fa) (n:Nat) (st:PT) (h:H):Prop:=∃(i:Nat) (o:List Fa) (x:Ext),n=l.length-i/\i<=l.length/\o.length=i/\(∀f∈o,f∈l)/\h[0]?=some (.cells (clC c) .live)/\h[1]?=some (.cells dU .live)/\(∀t,x=.tok t->t<h.length)/\st.get 1=.ptr 0 0/\st.get 2=.ptr 1 0/\st.get 5=.isl (o.map aQ) x/\st.get 6=bK l/\st.get 7=.int .i64 i/\(l.drop i).foldl (λo a=>sn gtF a o) o=lS l
def Z6(o:List Fa) (a:Fa) (l:List Fa) (x:Ext) (i:Nat) (h0:H) (n:Nat) (st:PT) (h:H):Prop:=∃k:Nat,n=k/\k<=o.length/\h=h0/\st.get 1=.ptr 0 0/\st.get 2=.ptr 1 0/\st.get 5=.isl (o.map aQ) x/\st.get 6=bK l/\st.get 7=.int .i64 i/\st.get 8=.int .i64 k/\∀(j:Nat) (y:Fa),k<=j->o[j]?=some y->gtF y a=true
def Zw(S:Lb) (p:Nat) (co:LA) (z:Ext) (n:Nat) (st:PT) (h:H):Prop:=∃(i:Nat) (b:Lb) (x:Ext),n=S.length-i/\i<=S.length/\small b/\b.length<=i/\h[1]?=some (.cells dU .live)/\h[p]?=some (.cells co .live)/\st.get 2=.ptr 1 0/\st.get 9=.ptr p 0/\st.get 10=.isl (S.map bT) z/\st.get 19=.isl (b.map bT) x/\st.get 20=.int .i64 i/\(S.drop i).foldl lR b=S.foldl lR []
def coV(o:List Fa) (x:Ext) (f:Fa):LA:=.isl (o.map aQ) x::faC f
theorem T8(o:List Fa) (x:Ext) (f:Fa):fV C.P 39 [(0,.isl (o.map aQ) x),(1,aQ f)]=some (.agg (coV o x f)):=by
 have e:∀(a:LA) (x:Ext) (k g:Int) (l:LA),fV C.P 39 [(0,.isl a x),(1,.agg [.int .i64 k,.int .i64 g,.isl l .unk])]=some (.agg [.isl a x,.int .i64 k,.int .i64 g,.isl l .unk]):=λa x k g l=>k_
 exact e _ _ _ _ _
theorem Mf{h:H}{p:Nat}{o:List Fa}{x:Ext}{f:Fa}(hp:h[p]?=some (.cells (coV o x f) .live)):aJ C.P h 39 (.ptr p 0)=some (.agg (coV o x f)):=by simp[aJ,hp,aY,a37,s37,coV,faC]
theorem Na(o:List Fa) (x:Ext) (f:Fa):iT [AV.agg (coV o x f)]=some [ai ⟨o,f⟩]:=rfl
def Z1(_c:Cl) (ts:Lq) (p:Nat) (co:LA) (F:Lq) (n:Nat) (st:PT) (h:H):Prop:=∃(i:Nat) (cur:Lq) (v:AV),n=ts.length-i/\i<=ts.length/\(∀y∈cur,y.size<4000000)/\h[1]?=some (.cells dU .live)/\h[p]?=some (.cells co .live)/\st.get 2=.ptr 1 0/\st.get 9=.ptr p 0/\st.get 10=v/\OwnR 121 h v ((ow nmV cur).map bT)/\st.get 11=.int .i64 cur.length/\st.get 12=terms ts/\st.get 13=.int .i64 i/\rL ((ts.drop i).flatMap (bm bD)) cur=F
def Zz(_c:Cl) (ts ws rest:Lq) (p i:Nat) (co:LA) (F:Lq) (n:Nat) (st:PT) (h:H):Prop:=∃(k:Nat) (cur:Lq) (v:AV),n=ws.length-k/\k<=ws.length/\(∀y∈cur,y.size<4000000)/\h[1]?=some (.cells dU .live)/\h[p]?=some (.cells co .live)/\st.get 2=.ptr 1 0/\st.get 9=.ptr p 0/\st.get 10=v/\OwnR 121 h v ((ow nmV cur).map bT)/\st.get 11=.int .i64 cur.length/\st.get 12=terms ts/\st.get 13=.int .i64 i/\st.get 14=terms ws/\st.get 15=.int .i64 k/\rL (ws.drop k++rest) cur=F
def Zx(ts ws cur:Lq) (y:T) (p i k q:Nat) (v:AV) (h0:H) (n:Nat) (st:PT) (h:H):Prop:=∃(j:Nat),n=cur.length-j/\j<=cur.length/\h=h0/\st.get 2=.ptr 1 0/\st.get 9=.ptr p 0/\st.get 10=v/\st.get 11=.int .i64 cur.length/\st.get 12=terms ts/\st.get 13=.int .i64 i/\st.get 14=terms ws/\st.get 15=.int .i64 k/\st.get 16=.ptr q 0/\st.get 17=.bool ((cur.take j).any λz=>decide (z.cmp y=0))/\st.get 18=.int .i64 j
theorem OG{α:Type}{l:List α}{p:α->Bool}{j:Nat}(h:j<l.length):(l.take (j+1)).any p=((l.take j).any p||p l[j]):=by rw[<-aW h,List.any_append];simp
theorem I2(c:Cl) (hc:bY c=0) (hV:(kj ((bN ⟨lS (setF c.body),c.head⟩).flatMap (bm bD))).length<600):az C 61 [ai c]=some (.tuple [ai (qp nmV c),.int .i64 0]):=by
 refine bL func61 rfl λR hR=>?_
 have⟨hbl,v1⟩:=gY hc;have A:=gR hc;obtain⟨h0,x8⟩:∃h0:H,h0=[.cells (clC c) .live,.cells dU .live]:=⟨_,rfl⟩
 have m0:h0[0]?=some (.cells (clC c) .live):=by rw[x8];rfl
 have l0:=jJ m0;have c1:=qB c A.okF;rw[hc]at c1;have lb:aJ C.P (h61 c) 29 (.ptr 0 0)=some (bK c.body):=jn rfl;have y7:mG c.body:=λf B=>A.2 f (by simp[aN,B])
 have c2:=Q8 c.body .unk o_ y7;change ∀h,aj C h (.func 102 []) (some [bK c.body])=_ at c2;unfold h61 at lb;rw[x8]at l0;have q7:∀f∈setF c.body,f∈c.body:=λf B=>by have⟨more,hp⟩:=mX c.body;exact hp.mem_iff.2 (aa _ B)
 have k8:(setF c.body).length<=12:=by have⟨more,hp⟩:=mX c.body;have:=hp.length_eq;rw[List.length_append]at this;omega
 simp[go_sem,fk,om,am,l0,c1,lb,c2];have E:qp nmV c=fK (ow nmV (kj ((bN ⟨lS (setF c.body),c.head⟩).flatMap (bm bD)))) ⟨lS (setF c.body),c.head⟩:=rfl;generalize hL:setF c.body=l at q7 k8 E hV;have q4:mG l:=λf B=>y7 f (q7 f B)
 have v2:=iu l;refine bX (aAB c l) l.length ⟨0,[],.tok 2,rfl,aO _,rfl,s_,rfl,rfl,s_,g_,g_,g_,g_,g_,rfl⟩ ?_;clear l0 lb m0 x8 h0;rintro n st h ⟨i,o,x,rfl,hi,hol,y',m0,K,hx,g1,g2,g5,g6,g7,I⟩;by_cases s:i<l.length
 ·have N:(i:Int)<l.length:=o_;have q8:aZ C.P 29 (bK l) (.int .i64 i)=some (.iptr (aQ l[i]) 0):=kD l i s .unk;have q9:=ll l[i];have y1:=q4 _ (aG s);have cs:=Dh l[i] y1;have w2:=wS i o_;have k9:fG C.P 29 (.isl (o.map aQ) x)=some (.int .i64 o.length):=by simp[Eo]
  rw[aI s,KC]at I;have y8:=aG s;generalize l[i]=a at q8 q9 y1 cs I y8;simp[go_sem,g5,g6,g7,v2,N,k9];refine bX (Z6 o a l x i h) o.length ⟨o.length,rfl,aP _,rfl,g_,g_,g_,g_,g_,g_,λj y hj hy=>by rw[cI hj]at hy;cases hy⟩ ?_;clear g1 g2 g5 g6 g7;rintro k st h ⟨_,rfl,hk,rfl,g1,g2,g5,g6,g7,g8,v3⟩;by_cases Y:∃(m:Nat) (hm:m<o.length),k=m+1/\gtF o[m] a=true
  ·obtain⟨m,hm,rfl,hg⟩:=Y;have q1:(0:Int)<((m+1:Nat):Int):=o_;have q2:IntKind.i64.wrap (((m+1:Nat):Int)-1)=(m:Int):=by rw[ay o_];omega
   have x9:aZ C.P 29 (.isl (o.map aQ) x) (.int .i64 m)=some (.iptr (aQ o[m]) 0):=kD o m hm x;have w':=ll o[m];have O:=q4 _ (y' _ (aG hm));have cm:=Dh o[m] O;have cf:=yM (cq jM o[m]) (cq jM a) (sY O) (sY y1);have w0:0<kV (cq jM o[m]) (cq jM a):=by simpa[gtF]using hg
   simp[go_sem,g5,g6,g7,g8,q2,x9,q8,w',q9,cm,cs,cf,w0,-Int.natCast_add];exact⟨m,o_,m,rfl,o_,rfl,g_,g_,g_,g_,g_,g_,λj y hj hy=>by
    rcases Nat.eq_or_lt_of_le hj with rfl|hj
    ·rw[aF hm]at hy;cases hy;exact hg
    exact v3 j y hj hy⟩
  have y9:sn gtF a o=o.take k++a::o.drop k:=Ig o k hk v3 (by
   rcases mS k with h|h
   ·exact .inl h
   obtain⟨m,rfl⟩:∃m,k=m+1:=⟨k-1,o_⟩
   have hm:m<o.length:=o_;exact .inr ⟨o[m],by simp[hm],by
    cases q:gtF o[m] a with
    |false=>rfl
    |true=>exact absurd ⟨m,hm,rfl,q⟩ Y⟩)
  have w1:k=0\/∃(m:Nat) (hm:m<o.length),k=m+1/\gtF o[m] a=false:=by
   rcases mS k with h|h
   ·exact .inl h
   obtain⟨m,rfl⟩:∃m,k=m+1:=⟨k-1,o_⟩
   have hm:m<o.length:=o_;refine .inr ⟨m,hm,rfl,?_⟩;cases q:gtF o[m] a with
   |false=>rfl
   |true=>exact absurd ⟨m,hm,rfl,q⟩ Y
  have⟨x1,v4,v5⟩:=D9 o x hk;have⟨x2,v6,x0⟩:=D8 o x hk;rcases w1 with hk0|⟨m,hm,hkm,hg⟩
  case' inr=>
   have q1:0<k:=o_;have q2:IntKind.i64.wrap ((k:Int)-1)=(m:Int):=by rw[ay o_];omega
   have x9:aZ C.P 29 (.isl (o.map aQ) x) (.int .i64 m)=some (.iptr (aQ o[m]) 0):=kD o m hm x;have w':=ll o[m];have O:=q4 _ (y' _ (aG hm));have cm:=Dh o[m] O;have cf:=yM (cq jM o[m]) (cq jM a) (sY O) (sY y1);have w0:¬0<kV (cq jM o[m]) (cq jM a):=by simpa[gtF]using hg
   simp[go_sem,g5,g6,g7,g8,q1,q2,x9,q8,w',q9,cm,cs,cf,w0,-Int.natCast_add]
  case' inl=>have q1:¬0<k:=o_;simp[go_sem,g8,q1]
  all_goals
   refine ic 12 _ (λz' h'=>(∃y,z'.get 5=.isl ((sn gtF a o).map aQ) y/\∀t,y=.tok t->t<h'.length)/\z'.get 1=.ptr 0 0/\z'.get 2=.ptr 1 0/\z'.get 6=bK l/\z'.get 7=.int .i64 i/\Keep h h' none) (by rw[gM];decide) k_ ?_ ?_
   ·generalize v7:h++List.replicate _ VObj.void=H0;have Q:Pl h H0 16:=v7▸Pl.mk' h 16;have x3:=Q.len;clear v7;have v8:∀(es:LA) (z:Ext) (n:Nat),(∀t,z=.tok t->x=.tok t)->(AV.isl es z).mv H0.length n=.isl es z:=λes z n hz=>tR λt Z=>by have:=hx t (hz t Z);omega
    refine gH (parts:=[]) [] (.isl [] .full) rfl rfl (oG _) (Q.isV (i:=0) d_) ?_;refine bE (.isl (o.map aQ) x) rfl rfl (Q.isV (i:=1) d_) (by simp[opN,go_sem,g5]) (v8 _ _ _ λ_ h=>h) ?_;refine bE (.int .i64 k) rfl rfl (Q.isV (i:=2) d_) (by simp[opN,go_sem,g8]) rfl ?_;refine bE (.isl ((o.take k).map aQ) x1) rfl rfl (Q.isV (i:=3) d_) (by simp[go_sem,v4]) (v8 _ _ _ v5) ?_;by_cases v9:k=0
    ·have g':(o.take k).map aQ=[]:=by rw[v9];simp
     rw[g'];refine dq (.isl [] .full) (.isl [] x1) _ H0 H0 (by simp[go_sem];rfl) g_ (by rw[wrC];exact Hp H0 x1) o_ rfl (Q.isV (i:=4) d_) (og _ _) ?_;refine bE (bK l) rfl rfl (Q.isV (i:=5) d_) (by simp[opN,go_sem,g6]) rfl ?_;refine bE (.int .i64 i) rfl rfl (Q.isV (i:=6) d_) (by simp[opN,go_sem,g7]) rfl ?_;refine bE (.iptr (aQ a) 0) rfl rfl (Q.isV (i:=7) d_) (by simp[opN,go_sem,q8]) rfl ?_;refine cR (.iptr (aQ a) 0) (aQ a) g_ (q9 H0) (by simp[it]) (Q.isV (i:=8) d_) rfl ?_;refine gH (parts:=[(0,.tmp 65)]) [(0,aQ a)] (.isl [aQ a] .full) (mN g_ rfl) (kH _ _) (eI _ _) (Q.isV (i:=9) d_) ?_;refine dq (.isl [] .full) (.isl [aQ a] .full) _ _ _ (by simp[go_sem];rfl) (by simp[go_sem];rfl) (by rw[wrC];exact Fm H0 a [] .full s_) s_ rfl (Q.isV (i:=10) d_) (jK o_) ?_;rw[show(AV.isl ([a].map aQ) (.tok H0.length)).mv H0.length (h.length+10)=.isl ([a].map aQ) (.tok (h.length+10)) by simp[AV.mv]];obtain⟨H1,G⟩:∃g,g=H0.set (h.length+10) (VObj.mv H0.length (h.length+10) (.tok [a].length 34)):=⟨_,rfl⟩
     have w6:H1[h.length+10]?=some (.tok [a].length 34):=by rw[G,aD o_];rfl
     have w:H1.length=h.length+16:=by rw[G];simp[x3]
     have hv:∀i,i<16->i≠10->dE H1[h.length+i]?=true:=λi hi hn=>by rw[G];exact dg (Q.isV hi) o_
     have z0:∀(es:LA) (z:Ext) (n:Nat),(∀t,z=.tok t->x=.tok t)->(AV.isl es z).mv H1.length n=.isl es z:=λes z n hz=>tR λt Z=>by have:=hx t (hz t Z);omega
     rw[<-G];refine bE (.isl (o.map aQ) x) rfl rfl (hv 11 d_ d_) (by simp[opN,go_sem,g5]) (z0 _ _ _ λ_ h=>h) ?_;refine bE (.int .i64 k) rfl rfl (hv 12 d_ d_) (by simp[opN,go_sem,g8]) rfl ?_;refine bE (.isl ((o.drop k).map aQ) x2) rfl rfl (hv 13 d_ d_) (by simp[go_sem,v6]) (z0 _ _ _ x0) ?_;refine dq (.isl ([a].map aQ) (.tok (h.length+10))) (.isl ((o.drop k).map aQ) x2) _ _ _ g_ g_ (by rw[wrC];exact Ho [a] (o.drop k) x2 w6 (by simp;omega)) s_ (by simp[cF,gZ]) (hv 14 d_ d_) (oD o_) ?_;refine bE (.isl (([a]++o.drop k).map aQ) (.tok (h.length+10))) rfl rfl ?_ ?_ ?_ ?_
     ·rw[aC o_];exact hv 15 d_ d_
     ·simp[opN,go_sem,AV.mv,w]
     ·simp[AV.mv,w]
     refine⟨?_,⟨.tok (h.length+10),by simp[go_sem,y9,v9],λt Z=>by cases Z;simp[w];try omega⟩,g_,g_,g_,g_,by simp[w];try omega,λj hj _=>?_⟩
     ·unfold sq;generalize hb:Region.before _=bb;have y3:(bb.getD 14 0).testBit 10=true:=by rw[<-hb];kernel_rfl
      clear hb;simp[it,qm,List.range,List.range.loop,cF,gZ];simpa[ar]using y3
     rw[aC o_,G,aC o_,Q.old j hj]
    have j':o.take k≠[]:=by intro e;have:=congrArg List.length e;rw[bU,bB]at this;omega
    have U:(o.take k).length=k:=by simp;omega
    have z1:sn gtF a o=o.take k++[a]++o.drop k:=by rw[y9];simp
    generalize o.take k=tk at v4 j' U z1;refine dq (.isl [] .full) (.isl (tk.map aQ) x1) _ _ _ (by simp[go_sem];rfl) g_ (by rw[wrC];exact UH H0 tk x1 j' o_) s_ rfl (Q.isV (i:=4) d_) (jK o_) ?_;rw[show(AV.isl (tk.map aQ) (.tok H0.length)).mv H0.length (h.length+4)=.isl (tk.map aQ) (.tok (h.length+4)) by simp[AV.mv]];obtain⟨H1,G⟩:∃g,g=H0.set (h.length+4) (VObj.mv H0.length (h.length+4) (.tok tk.length 34)):=⟨_,rfl⟩
    have w6:H1[h.length+4]?=some (.tok tk.length 34):=by rw[G,aD o_];rfl
    have w:H1.length=h.length+16:=by rw[G];simp[x3]
    have hv:∀i,i<16->i≠4->dE H1[h.length+i]?=true:=λi hi hn=>by rw[G];exact dg (Q.isV hi) o_
    rw[<-G];refine bE (bK l) rfl rfl (hv 5 d_ d_) (by simp[opN,go_sem,g6]) rfl ?_;refine bE (.int .i64 i) rfl rfl (hv 6 d_ d_) (by simp[opN,go_sem,g7]) rfl ?_;refine bE (.iptr (aQ a) 0) rfl rfl (hv 7 d_ d_) (by simp[opN,go_sem,q8]) rfl ?_;refine cR (.iptr (aQ a) 0) (aQ a) g_ (q9 H1) (by simp[it]) (hv 8 d_ d_) rfl ?_;refine gH (parts:=[(0,.tmp 65)]) [(0,aQ a)] (.isl [aQ a] .full) (mN g_ rfl) (kH _ _) (eI _ _) (hv 9 d_ d_) ?_;refine dq (.isl (tk.map aQ) (.tok (h.length+4))) (.isl ([a].map aQ) .full) _ _ _ g_ (by simp[go_sem];rfl) (by rw[wrC];exact Ho tk [a] .full w6 (by simp;omega)) s_ (by simp[cF,gZ]) (hv 10 d_ d_) (oD o_) ?_;rw[show(AV.isl ((tk++[a]).map aQ) (.tok (h.length+4))).mv H1.length (h.length+10)=.isl ((tk++[a]).map aQ) (.tok (h.length+4)) by simp[AV.mv,w]];obtain⟨H2,z2⟩:∃g,g=H1.set (h.length+4) (VObj.mv H1.length (h.length+10) (.tok (tk.length+[a].length) 34)):=⟨_,rfl⟩
    have g0:H2[h.length+4]?=some (.tok (tk++[a]).length 34):=by rw[z2,aD o_];simp[VObj.mv]
    have L:H2.length=h.length+16:=by rw[z2];simp[w]
    have z3:∀i,i<16->i≠4->dE H2[h.length+i]?=true:=λi hi hn=>by rw[z2];exact dg (hv i hi hn) o_
    have z0:∀(es:LA) (z:Ext) (n:Nat),(∀t,z=.tok t->x=.tok t)->(AV.isl es z).mv H2.length n=.isl es z:=λes z n hz=>tR λt Z=>by have:=hx t (hz t Z);omega
    rw[<-z2];refine bE (.isl (o.map aQ) x) rfl rfl (z3 11 d_ d_) (by simp[opN,go_sem,g5]) (z0 _ _ _ λ_ h=>h) ?_;refine bE (.int .i64 k) rfl rfl (z3 12 d_ d_) (by simp[opN,go_sem,g8]) rfl ?_;refine bE (.isl ((o.drop k).map aQ) x2) rfl rfl (z3 13 d_ d_) (by simp[go_sem,v6]) (z0 _ _ _ x0) ?_;refine dq (.isl ((tk++[a]).map aQ) (.tok (h.length+4))) (.isl ((o.drop k).map aQ) x2) _ _ _ g_ g_ (by rw[wrC];exact Ho (tk++[a]) (o.drop k) x2 g0 (by simp;omega)) s_ (by simp[cF,gZ]) (z3 14 d_ d_) (oD o_) ?_;refine bE (.isl ((tk++[a]++o.drop k).map aQ) (.tok (h.length+4))) rfl rfl ?_ ?_ ?_ ?_
    ·rw[aC o_];exact z3 15 d_ d_
    ·simp[opN,go_sem,AV.mv,L]
    ·simp[AV.mv,L]
    refine⟨?_,⟨.tok (h.length+4),by simp[go_sem,z1],λt Z=>by cases Z;simp[L];try omega⟩,g_,g_,g_,g_,by simp[L];try omega,λj hj _=>?_⟩
    ·unfold sq;generalize hb:Region.before _=bb;have j0:(bb.getD 10 0).testBit 4=true:=by rw[<-hb];kernel_rfl
     have y3:(bb.getD 14 0).testBit 4=true:=by rw[<-hb];kernel_rfl
     have j1:(bb.getD 14 0).testBit 10=true:=by rw[<-hb];kernel_rfl
     clear hb;simp only[ar]at j0 y3 j1;simp[it,qm,List.range,List.range.loop,cF,gZ];exact⟨j0,y3,j1⟩
    rw[aC o_,z2,aC o_,G,aC o_,Q.old j hj]
   rintro st2 h2 ⟨⟨y,g5,hy⟩,g1,g2,g6,g7,kp⟩;simp[go_sem,g7,-Int.natCast_add,w2];have hp:=xv gtF a o;refine⟨l.length-(i+1),o_,i+1,sn gtF a o,y,rfl,s,by rw[hp.length_eq];simp;omega,λf B=>?_,kp.get m0 s_,kp.get K s_,hy,g_,g_,g_,g_,g_,I⟩;rcases aV.1 (hp.mem_iff.1 B)with rfl|B
   ·exact y8
   exact y' f B
 have:i=l.length:=o_;subst this;rw[bH,List.foldl_nil]at I;have lh:∀h:H,h[0]?=some (.cells (clC c) .live)->aJ C.P h 34 (.ptr 0 1)=some (aQ c.head):=λh hh=>lQ hh
 have j2:=lh h m0;have bl:=T8 o x c.head;have e1:∀h:H,ah C.P (h++[.cells dU .live]) 39 (.ptr h.length 0) (.agg (coV o x c.head))=some (h++[.cells (coV o x c.head) .live]):=λh=>by simp[ah,s37,dU,coV,faC]
 have ho12:o.length<=12:=o_;have w7:∀f∈aN ⟨o,c.head⟩,f∈aN c:=λf B=>by
  rcases aK.1 B with B|B
  ·exact aa _ (q7 f (y' f B))
  exact bk _ B
 have y4:∀t∈bN ⟨o,c.head⟩,t.size<=400:=λt Z=>by have⟨f,B,Z⟩:=bR.1 ((gb ⟨o,c.head⟩ t).2 Z);exact(bg ((eS ((dH hc).2 f (w7 f B))).2.2 t Z)).2.1
 have j3:(bN ⟨o,c.head⟩).length<=104:=by
  have h1:∀fs:List Fa,(∀f∈fs,f.terms.length<=8)->(cC fs).length<=8*fs.length:=by
   intro fs;induction fs with
   |nil=>simp[cC]
   |cons a fs ih=>
    intro h;have h1:=h a s_;have h2:=ih λf B=>h f (by simp[B])
    simp only[cC,dt,List.length_append,aL]at h2 ⊢;omega
  have h2:=h1 o λf B=>(v1 f (w7 f (by simp[aN,B]))).1
  have h3:=(v1 c.head (by simp[aN])).1;simp only[bN,List.length_append];omega
 have c3:∀h,aj C h (.func 36 []) (some [.agg (coV o x c.head)])=some (terms (bN ⟨o,c.head⟩),h):=λh=>an (Na o x c.head) rfl s_ (Hz ⟨o,c.head⟩ o_ (by show o.length<4000000;omega))
 have l9:∀h:H,aJ C.P (h++[.cells (coV o x c.head) .live,.tok 0 121]) 39 (.ptr h.length 0)=some (.agg (coV o x c.head)):=λh=>Mf s_
 subst I;simp[go_sem,g1,g5,g6,g7,v2,j2,bl,om,am,e1,show au (aQ c.head)=true from rfl,show au (AV.isl ((lS l).map aQ) x)=true from rfl];simp[go_sem,l9,c3];have x4:∀t∈bN ⟨lS l,c.head⟩,t.size<4000000:=λt Z=>by have:=y4 t Z;omega
 have x5:∀f∈aN ⟨lS l,c.head⟩,smallT f.terms:=λf B=>A.2 f (w7 f B)
 rw[<-wi]at hV E;generalize hD:(⟨lS l,c.head⟩:Cl)=D at hV E y4 x4 j3 x5;clear q4;generalize hTS:bN D=ts at hV E y4 x4 j3;generalize hF:rL (ts.flatMap (bm bD)) []=F at hV E;have j4:1<h.length:=(aB.1 K).1;refine bX (Z1 c ts h.length (coV (lS l) x c.head) F) ts.length ⟨0,[],.isl [] (.tok (h.length+1)),rfl,aO _,s_,by rw[aH j4];exact K,s_,g_,g_,g_,.inr ⟨h.length+1,rfl,by simp[ow]⟩,g_,g_,g_,by rw[eH];exact hF⟩ ?_;clear l9 j2 g1 g2 g5 g6 g7;generalize h.length=p at j4;clear m0 K hx;clear h st;rintro n st h ⟨i,d,v,rfl,hi,A,K,mp,g2,g9,r,go,q5,q',V,hk⟩;have z4:=dX ts;by_cases s:i<ts.length
 ·have N:(i:Int)<ts.length:=o_;have hit:=dh ts i s;have w2:=wS i o_;have hsi:=y4 _ (aG s);have c4:=Dc ts[i] o_;rw[aI s,dt]at hk;have j5:∀y∈bm bD ts[i],y.size<=400:=λy hy=>by have:=pU (n:=401) (f:=bD) (λt x hx=>by simpa[bD]using hx) ts[i] o_ y hy;omega
  have g3:(bm bD ts[i]).length<=400:=by have:=qw bD (λt=>by simp[bD]) ts[i];omega
  generalize bm bD ts[i]=ws at c4 hk j5 g3;generalize w8:(ts.drop (i+1)).flatMap (bm bD)=rest at hk;have j6:=dX ws;simp[go_sem,q',V,z4,N,hit,ee,c4];refine bX (Zz c ts ws rest p i (coV (lS l) x c.head) F) ws.length ⟨0,d,v,rfl,aO _,A,K,mp,g_,g_,g_,go,g_,g_,g_,g_,g_,by rw[eH];exact hk⟩ ?_;clear K mp g2 g9 r go q5 q' V A hk c4;clear h st v d;rintro n st h ⟨k,d,v,rfl,hk,A,K,mp,g2,g9,r,go,q5,q',V,y5,q0,I⟩;by_cases U:k<ws.length
  ·have j7:(k:Int)<ws.length:=o_;have j8:=dh ws k U;have w3:=wS k o_;have g4:=j5 _ (aG U);rw[aI U,cV]at I;generalize ws[k]=y at j8 g4 I;have e2:=qM y h;simp[go_sem,y5,q0,j6,j7,j8,ee,e2,am];have hq:(h++[VObj.cells (enc y).cells .live])[h.length]?=some (.cells (enc y).cells .live):=s_;have z5:(h++[VObj.cells (enc y).cells .live])[1]?=some (.cells dU .live):=by rw[aH (aB.1 K).1];exact K
   have z6:(h++[VObj.cells (enc y).cells .live])[p]?=some (.cells (coV (lS l) x c.head) .live):=by rw[aH (aB.1 mp).1];exact mp
   have M:OwnR 121 (h++[VObj.cells (enc y).cells .live]) v ((ow nmV d).map bT):=go.keep (Keep.append _ _ none) s_;clear e2 K mp go;generalize h++[VObj.cells (enc y).cells .live]=h1 at hq z5 z6 M ⊢;refine bX (Zx ts ws d y p i k h.length v h1) d.length ⟨0,rfl,aO _,rfl,g_,g_,g_,g_,g_,g_,g_,g_,g_,g_,g_⟩ ?_;generalize h.length=q at hq ⊢;clear g2 g9 r q5 q' V y5 q0;clear h st;rintro n st h ⟨j,rfl,hj,rfl,g2,g9,r,q5,q',V,y5,q0,z7,J,z8⟩;have⟨z,hz⟩:=M.isl;have X:fG C.P 81 v=some (.int .i64 d.length):=by rw[hz,En,ax,tJ]
   have hcl:d.length<600:=by have:=xp (y::(ws.drop (k+1)++rest)) d;rw[I]at this;omega
   by_cases q6:j<d.length
   ·have x6:(j:Int)<d.length:=o_;have w4:=wS j o_;have hij:aZ C.P 81 v (.int .i64 j)=some (.iptr (bT (d[j],.mk 1 (nmV j) d[j].sort [])) 0):=by rw[hz,yk (ow nmV d) j (by rw[tJ];exact q6) z,MQ nmV d j q6]
    have c5:=nH d[j] y (A _ (aG q6)) o_;have ly:=sg y hq;have w9:=ki (d[j],.mk 1 (nmV j) d[j].sort []);have y6:=OG (p:=λz=>decide (z.cmp y=0)) q6;cases q3:(d.take j).any λz=>decide (z.cmp y=0)with
    |true=>rw[q3]at J y6;simp[go_sem,r,J,z8,X,x6,-Int.natCast_add,w4];exact⟨d.length-(j+1),o_,j+1,rfl,q6,rfl,g_,g_,g_,g_,g_,g_,g_,g_,g_,by simp[go_sem,y6],g_⟩
    |false=>rw[q3,gQ]at y6;rw[q3]at J;simp[go_sem,r,z7,J,z8,X,x6,hij,oQ,w9,ly,c5,-Int.natCast_add,w4];exact⟨d.length-(j+1),o_,j+1,rfl,q6,rfl,g_,g_,g_,g_,g_,g_,g_,g_,g_,by simp[go_sem,y6],g_⟩
   have:j=d.length:=o_;subst this;rw[ak]at J;have j9:=hq;rw[aq]at j9;have⟨y0,_,y2,_,_⟩:=ji j9;have z9:AU d y=(decide (y.kind≠1)||d.any λz=>decide (z.cmp y=0)):=rfl;by_cases kk:y.kind=1
   rotate_left
   ·simp[go_sem,r,q0,z7,J,z8,X,y0,kk,-Int.natCast_add,w3];refine⟨ws.length-(k+1),o_,k+1,d,v,rfl,U,A,z5,z6,g_,g_,g_,M,g_,g_,g_,g_,g_,by rw[uY _ (by rw[z9];simp[kk])]at I;exact I⟩
   cases q3:d.any λz=>decide (z.cmp y=0)with
   |true=>rw[q3]at J z9;simp[go_sem,r,q0,z7,J,z8,X,y0,kk,-Int.natCast_add,w3];refine⟨ws.length-(k+1),o_,k+1,d,v,rfl,U,A,z5,z6,g_,g_,g_,M,g_,g_,g_,g_,g_,by rw[uY _ (by rw[z9];simp)]at I;exact I⟩
   |false=>
    rw[q3,kk]at z9;rw[q3]at J;have hkf:AU d y=false:=by rw[z9];rfl
    rw[xo _ hkf]at I;have k':=KJ nmV d y;have x7:d.length<600:=hcl;rw[show nmV d.length=vn d.length by rw[nmV,if_pos x7]]at k';have c6:=QX x7;have c7:=Ts (vn d.length) y.sort;have c8:=λa b=>ZS a b d.length
    have ly:=sg y hq;have bl:=tz y (.mk 1 (vn d.length) y.sort []);have nt1:=dZ y;have nt2:=dZ (.mk 1 (vn d.length) y.sort []);have w5:IntKind.i64.wrap ((d.length:Int)+1)=((d.length+1:Nat):Int):=by rw[ay o_];omega
    have⟨v',h',ha,hw,k0,hid⟩:=jd (ys:=[(y,.mk 1 (vn d.length) y.sort [])]) (x:=.full) M (by simp[tJ];omega);rw[<-k']at hw;have hnq:=bn M hq;have k1:=k0.get z5 (bn M z5);have k2:=k0.get z6 (bn M z6);rw[aM,bM]at ha;simp[go_sem,r,z7,J,z8,X,y0,kk];refine eQ 31 _ (by simp[gM]) rfl ?_;simp[go_sem,r,q5,q0,z7,c6,c7,c8,ly,y2,bl,nt1,nt2,nr,fN,ha,-Int.natCast_add,w3,w5];refine⟨?_,ws.length-(k+1),o_,k+1,d++[y],v',rfl,U,λu hu=>?_,k1,k2,g_,g_,g_,hw,g_,g_,g_,g_,g_,I⟩
    ·rcases M with rfl|⟨id,rfl,hdd⟩
     ·simp[go_sem,ff,fL,fP,iC,dy,cF]
     simp only[cG,ne_eq,aA]at hnq;simp[go_sem,ff,fL,fP,iC,dy,cF]
     (try omega)
    rcases aK.1 hu with hu|hu
    ·exact A u hu
    rw[aS.1 hu];omega
  have:k=ws.length:=o_;subst this;rw[bH,cN]at I;simp[go_sem,V,y5,q0,j6,-Int.natCast_add,w2];exact⟨ts.length-(i+1),o_,i+1,d,v,rfl,s,A,K,mp,g_,g_,g_,go,g_,g_,g_,by rw[w8];exact I⟩
 have:i=ts.length:=o_;subst this;rw[bH,lN,KU]at hk;subst hk;have⟨z,hz⟩:=go.isl;rw[hz]at r;clear go hz;simp[go_sem,q',V,z4];have k3:∀b∈ow nmV d,b.1.size<4000000/\b.2.size<4000000:=λb hb=>by obtain⟨q,hq,rfl⟩:=ae.1 hb;refine⟨A q.1 ?_,by show T.size (.mk 1 _ _ [])<_;rw[size_kids];simp[T.kids,sizes]⟩;exact(List.mem_zipIdx hq).2.2▸s_
 have hSl:(ow nmV d).length<600:=by rw[tJ];exact hV
 have k4:((ow nmV d).map (·.1)).Nodup:=by rw[wZ,<-hF,wi];exact(wq _).1
 generalize ow nmV d=S at r k3 hSl k4 E;refine bX (Zw S p (coV (lS l) x c.head) z) S.length ⟨0,[],.tok h.length,rfl,aO _,λb hb=>by simp at hb,aO _,by rw[aH (aB.1 K).1];exact K,by rw[aH (aB.1 mp).1];exact mp,g_,g_,g_,g_,g_,rfl⟩ ?_;clear K mp g2 g9 r q5 q' V;clear h st;rintro n st h ⟨i,b,x',rfl,hi,v0,hbi,K,mp,g2,g9,r,k5,k6,I⟩;have X:fG C.P 81 (.isl (S.map bT) z)=some (.int .i64 S.length):=by rw[En,ax]
 by_cases s:i<S.length
 ·have N:(i:Int)<S.length:=o_;have w4:=wS i o_;have hix:=yk S i s z;have hb:=k3 _ (aG s);have c5:=FX S[i] b x' hb.1 hb.2 v0 o_;have li0:=ki S[i];have w9:=nC S[i];rw[aI s,dc]at I;simp[go_sem,r,k5,k6,X,N,hix,oQ,ww,li0,w9,c5,-Int.natCast_add,w4];exact⟨S.length-(i+1),o_,i+1,lR b S[i],.unk,rfl,s,Fb v0 hb,by have:=K8 b S[i];omega,K,mp,g_,g_,g_,by simp[go_sem,binds],g_,I⟩
 have:i=S.length:=o_;subst this;rw[bH,List.foldl_nil]at I;have l9:=Mf mp;have hDs:∀f∈aN D,smallT f.terms:=λf B=>x5 f B
 have c6:∀h,aj C h (.func 38 []) (some [.isl (b.map bT) x',.agg (coV (lS l) x c.head)])=some (ai (fK b D),h):=λh=>an (args':=[binds b,ai D]) (by rw[<-hD];rfl) (by simp[short,coV,faC]) s_ (Dl b D v0 o_ hDs (by rw[<-hD];show(lS l).length<=10000;omega))
 have k7:fK b D=qp nmV c:=by rw[E,I];exact ES (λv=>HB k4 v) D
 rw[k7]at c6;have e3:ah C.P h 39 (.ptr 1 0) (ai (qp nmV c))=some (h.set 1 (.cells (clC (qp nmV c)) .live)):=by simp[ah,K,s37,dU,ai,clC,faC]
 have hl1:=(aB.1 K).1;have l2:aJ C.P (h.set 1 (.cells (clC (qp nmV c)) .live)) 39 (.ptr 1 0)=some (ai (qp nmV c)):=jJ (by rw[aD hl1]);simp[go_sem,g2,g9,r,k5,k6,X,l9,c6,e3];exact hR ⟨.tuple [ai (qp nmV c),.int .i64 0],by simp[ag,gk,cO,f61,go_sem,g2,l2],du rfl rfl s_⟩
def suf(x:UInt8) (v:T):T:=.mk 1 ⟨v.name.data.push x⟩ v.sort []
theorem H6{x y:UInt8}{v w:T}(hv:v.kind=1/\v.kids=[]) (hw:w.kind=1/\w.kids=[]) (h:suf x v=suf y w):x=y/\v=w:=by
 simp only[suf,T.mk.injEq,ByteArray.mk.injEq,and_true,true_and]at h;have⟨d,c⟩:=h;have⟨a,b⟩:=Array.push_eq_push.1 d;refine⟨a,?_⟩;cases v;cases w;simp only[T.kind,T.kids,T.name,T.sort]at hv hw b c;obtain⟨rfl,rfl⟩:=hv;obtain⟨rfl,rfl⟩:=hw;subst c;congr 1
 exact congrArg ByteArray.mk b
theorem zi{x:UInt8}{V:Lq}(hn:V.Nodup) (hV:∀v∈V,v.kind=1/\v.kids=[]):(V.map (suf x)).Nodup:=by rw[lC,iD];rw[lC]at hn;refine hn.imp_of_mem fun {a b} c d h e=>h (H6 (hV a c) (hV b d) e).2
theorem GB{V1 V2:Lq}(h1:V1.Nodup) (h2:V2.Nodup) (k1:∀v∈V1,v.kind=1/\v.kids=[]) (k2:∀v∈V2,v.kind=1/\v.kids=[]):(V1.map (suf 108)++V2.map (suf 114)).Nodup:=by rw[List.nodup_append];refine⟨zi h1 k1,zi h2 k2,λa c b d e=>?_⟩;obtain⟨v,f,rfl⟩:=ae.1 c;obtain⟨w,g,rfl⟩:=ae.1 d;have:=(H6 (k1 v f) (k2 w g) e).1;exact absurd this d_
theorem M3{S R:List Cl}(h:∀c∈R,c.head.kind=1->∀θ,fS θ->had S (fu c θ) (ii c θ)){g:T}{w:Lq}(hr:had R g w):had S g w:=by
 rcases hr with⟨c,f,i,θ,j,b,more,e⟩|k
 ·rcases h c f i θ j with⟨d,l,a,θ',n,o,m,p⟩|q
  ·refine .inl ⟨d,l,a,θ',n,o.trans b,m++more,e.trans ?_⟩;rw[<-List.append_assoc];exact p.append_right more
  refine .inr ?_;rw[<-b];exact e.mem_iff.2 (aa _ q)
 exact .inr k
def VM(nm:Nat->ByteArray) (drop:List Fa->Fa->Bool) (c:Cl):Cl:=qp nm ⟨(setF c.body).filter λf=>!drop (setF c.body) f,c.head⟩
theorem Nb{nm:Nat->ByteArray}{drop:List Fa->Fa->Bool}{c:Cl}(ht:ot c) (hn:∀i j,nm i=nm j->i=j):cov (VM nm drop c) c:=by have a:cov ⟨(setF c.body).filter λf=>!drop (setF c.body) f,c.head⟩ c:=lL (HR (c:=⟨setF c.body,c.head⟩) _) Ix;refine lL (CE (zb ht λf b=>?_) λi j _ _ e=>hn i j e) a;have⟨more,d⟩:=mX c.body;exact d.mem_iff.2 (aa _ (cE.1 b).1)
theorem GV{S all l:List Cl}{smp:Cl->Cl}(hc:∀c∈l,cov (smp c) c) (h1:∀c∈l,(smp c).head∈(smp c).body\/smp c∈all) (h2:∀(j:Nat) (d:Cl),all[j]?=some d->se all j=true->d∈S):∀c∈l,c.head.kind=1->∀θ,fS θ->had S (fu c θ) (ii c θ):=by
 intro c a b θ e;refine M4 b (hc c a) ?_ e;rcases h1 c a with h|h
 ·exact .inl h
 have⟨j,d,f,g,a3⟩:=Ci h;exact .inr ⟨d,h2 j d f g,a3⟩
theorem B9:∀ {l:List Fa},(∀f∈l,eZ f=0)->ia l=0
 |[],_=>rfl
 |a::l,h=>by rw[ia,if_neg (by simpa using h a s_)];exact B9 λf hf=>h f (by simp[hf])
theorem yJ{c:Cl}(h1:c.body.length<=12) (h2:∀f∈aN c,eZ f=0):bY c=0:=by rw[bY,if_neg o_];exact B9 h2
theorem vq{c:Cl}{b:List Fa}(h:bY c=0) (hl:b.length<=12) (hb:∀f∈b,f∈c.body):bY ⟨b,c.head⟩=0:=by
 refine yJ hl λf a=>(dH h).2 f ?_
 rcases aK.1 a with a|a
 ·exact aa _ (hb f a)
 exact bk _ a
def vJ(hd:Fa) (o:List Fa) (f:Fa):Bool:=decide (f.kind=1)&&decide ((dQ f).kind=1)&&decide (Cs ⟨o,hd⟩ (dQ f)=1)
def gK(c:Cl):Cl:=VM nmV (vJ c.head) c
def jb(hd:Fa) (o:List Fa) (l:List Fa):List Fa:=l.filter λf=>!vJ hd o f
def aAF(c:Cl) (n:Nat) (st:PT) (h:H):Prop:=∃(k:Nat) (o:List Fa) (v:AV),n=c.body.length-k/\k<=c.body.length/\o.length<=k/\(∀f∈o,f∈c.body)/\h[0]?=some (.cells (clC c) .live)/\h[1]?=some (.cells dU .live)/\h[2]?=some (.cells (v::faC c.head) .live)/\st.get 1=.ptr 0 0/\st.get 2=.ptr 1 0/\st.get 3=.ptr 2 0/\st.get 4=.int .i64 k/\OwnR 34 h v (o.map aQ)/\vE (c.body.drop k) o=setF c.body
def Xe(c:Cl) (once:List Fa) (x:Ext) (q:Nat) (n:Nat) (st:PT) (h:H):Prop:=∃(k:Nat) (v:AV),n=once.length-k/\k<=once.length/\h[1]?=some (.cells dU .live)/\h[2]?=some (.cells (coV once x c.head) .live)/\h[q]?=some (.cells (v::faC c.head) .live)/\st.get 2=.ptr 1 0/\st.get 3=.ptr 2 0/\st.get 5=.ptr q 0/\st.get 6=.int .i64 k/\OwnR 34 h v ((jb c.head once (once.take k)).map aQ)
theorem SP(c:Cl) (hc:bY c=0) (hV:∀b:List Fa,(∀f∈b,f∈c.body)->(kj ((bN ⟨b,c.head⟩).flatMap (bm bD))).length<600):az C 30 [ai c]=some (ai (gK c)):=by
 refine bL func30 rfl λR hR=>?_
 have⟨y4,q1⟩:=gY hc;have q3:=gR hc;have l0:aJ C.P [.cells (clC c) .live,.cells dU .live] 39 (.ptr 0 0)=some (ai c):=jJ rfl;have E:aJ C.P [.cells (clC c) .live,.cells dU .live] 34 (.ptr 0 1)=some (aQ c.head):=lQ rfl;have c1:=qB c q3.okF;rw[hc]at c1;have bl:=CN c.head;have e1:ah C.P [.cells (clC c) .live,.cells dU .live,.cells dU .live] 39 (.ptr 2 0) (.agg (.isl [] .full::faC c.head))=some [.cells (clC c) .live,.cells dU .live,.cells (.isl [] .full::faC c.head) .live]:=H7 (h:=[.cells (clC c) .live,.cells dU .live]) c.head (.isl [] .full) rfl;simp[go_sem,fk,om,am,l0,c1,E,bl,e1,show au (aQ c.head)=true from rfl];refine bX (aAF c) c.body.length ⟨0,[],.isl [] .full,rfl,aO _,aO _,s_,rfl,rfl,rfl,g_,g_,g_,g_,.inl rfl,rfl⟩ ?_;clear l0 E e1;rintro n st h ⟨k,o,v,rfl,hk,z2,p,m0,S,F,g1,g2,M,g4,B,U⟩;have lb:=jn m0;have V:=iu c.body;have l2:aJ C.P h 29 (.ptr 2 0)=some v:=by obtain⟨x,rfl⟩:=B.isl;simp[aJ,F,aY,a33,s33]
 by_cases d:k<c.body.length
 ·have e:(k:Int)<c.body.length:=o_;have j:aZ C.P 29 (bK c.body) (.int .i64 k)=some (.iptr (aQ c.body[k]) 0):=kD c.body k d .unk;have l:=ll c.body[k];have X:=wS k o_;have⟨x,hx⟩:=B.isl;have q4:∀f∈c.body,smallT f.terms:=λf a=>q3.2 f (by simp[aN,a])
  have c2:=λh=>Hf o c.body[k] x o_ (λf a=>q4 f (p f a)) (q4 _ (aG d)) h
  rw[aI d]at U;cases hz:ut o c.body[k]with
  |true=>rw[xt _ hz]at U;rw[hz]at c2;rw[hx]at l2;simp[go_sem,g1,M,g4,lb,V,e,j,l,l2,c2,-Int.natCast_add,X];exact⟨c.body.length-(k+1),o_,k+1,o,v,rfl,d,o_,p,m0,S,F,g_,g_,g_,g_,B,U⟩
  |false=>
   rw[xr _ hz]at U;rw[hz]at c2;have⟨v',h',ha,G,hw,s,w⟩:=wv (i:=2) (o:=0) c.body[k] B F s_ o_;have z3:=bn B F;have z4:=bn B m0;have q5:=l2;rw[hx]at q5;simp[go_sem,g1,M,g4,lb,V,e,j,l,q5,c2];refine eQ 8 _ (by simp[gM]) rfl ?_;simp[go_sem,g1,M,g4,lb,l2,j,l,eI,ha,G,show au (aQ c.body[k])=true from rfl,-Int.natCast_add,X];refine⟨?_,c.body.length-(k+1),o_,k+1,o++[c.body[k]],v',rfl,d,by simp;omega,λf a=>?_,s 0 _ _ o_ m0,s 1 _ _ o_ S,w,g_,g_,g_,g_,hw,U⟩
   ·rcases B with rfl|⟨id,rfl,y5⟩
    ·simp[go_sem,ff,fL,fP,iC,dy,cF]
    simp only[cG,ne_eq,aA]at z3 z4;simp[go_sem,ff,fL,fP,iC,dy,cF]
    (try omega)
   rcases aK.1 a with a|a
   ·exact p f a
   rw[aS.1 a];exact aG d
 have:k=c.body.length:=o_;subst this;rw[bH,xq]at U;subst U;obtain⟨x,rfl⟩:=B.isl;change h[2]?=some (.cells (coV (setF c.body) x c.head) .live)at F;have E:=lQ m0;have e1:=H7 (h:=h) c.head (.isl [] .full) rfl;have z:=(aB.1 F).1;have u:(h++[VObj.cells (.isl [] .full::faC c.head) .live])[1]?=some (.cells dU .live):=by rw[aH o_];exact S
 have A:(h++[VObj.cells (.isl [] .full::faC c.head) .live])[2]?=some (.cells (coV (setF c.body) x c.head) .live):=by rw[aH z];exact F
 simp[go_sem,g1,g4,lb,V,E,bl,om,am,e1,show au (aQ c.head)=true from rfl];have q6:gK c=qp nmV ⟨jb c.head (setF c.body) (setF c.body),c.head⟩:=rfl;have hq:2<h.length:=z;generalize hS:setF c.body=once at q6 z2 p A ⊢;refine bX (Xe c once x h.length) once.length ⟨0,.isl [] .full,rfl,aO _,u,A,s_,g_,g_,g_,g_,.inl rfl⟩ ?_;clear m0 S F E e1 u A g1 g2 M g4 lb l2 z B;generalize h.length=q at hq ⊢;clear h st;rintro n st h ⟨k,v,rfl,hk,S,F,mq,g2,M,g5,g6,B⟩;have lo:aJ C.P h 29 (.ptr 2 0)=some (.isl (once.map aQ) x):=by simp[aJ,F,aY,a33,s33,coV]
 have I:fG C.P 29 (.isl (once.map aQ) x)=some (.int .i64 once.length):=by simp[Eo]
 have z5:∀f∈once,eZ f=0/\smallT f.terms:=λf a=>⟨(dH hc).2 f (by simp[aN,p f a]),(q1 f (by simp[aN,p f a])).2.2⟩
 by_cases d:k<once.length
 ·have e:(k:Int)<once.length:=o_;have j:aZ C.P 29 (.isl (once.map aQ) x) (.int .i64 k)=some (.iptr (aQ once[k]) 0):=kD once k d x;have l:=ll once[k];have X:=wS k o_;have⟨q7,Q⟩:=z5 _ (aG d);have z6:once.take (k+1)=once.take k++[once[k]]:=by rw[<-aW d]
  have Y:jb c.head once (once.take (k+1))=jb c.head once (once.take k)++jb c.head once [once[k]]:=by rw[z6,jb,gu];rfl
  have s1:=yW once[k] h;generalize once[k]=f at j l q7 Q Y s1;obtain⟨h2,J⟩:∃g,g=h++[VObj.cells (faC f) .live]:=⟨_,rfl⟩
  have y6:h2.length=h.length+1:=by rw[J];simp
  have up:∀ {i:Nat}{o:VObj},h[i]?=some o->h2[i]?=some o:=fun {i o} hi=>by rw[J,aH (aB.1 hi).1];exact hi
  have n1:h2[h.length]?=some (.cells (faC f) .live):=by rw[J];simp
  rw[<-J]at s1;have u:=up S;have A:=up F;have Z:=up mq;have q8:OwnR 34 h2 v ((jb c.head once (once.take k)).map aQ):=by rw[J];exact B.keep (Keep.append _ _ none) s_
  have q0:=rK n1;have q2:=mY n1;have lf:=IZ n1;have lv:aJ C.P h2 29 (.ptr q 0)=some v:=by obtain⟨y,rfl⟩:=B.isl;simp[aJ,Z,aY,a33,s33]
  have N:=Mf A;have z7:f.terms≠[]:=(eS q7).1;obtain⟨t,r,a⟩:∃t r,f.terms=t::r:=by
   cases h:f.terms with
   |nil=>exact absurd h z7
   |cons t r=>exact⟨t,r,rfl⟩
  have z8:dQ f=t:=by unfold dQ;rw[a];rfl
  have z9:t∈f.terms:=by rw[a];simp
  have K:aZ C.P 32 (terms f.terms) (.int .i64 0)=some (.iptr (enc t) 0):=by
   have e0:f.terms[0]'(by simp[a])=t:=by simp[a]
   rw[<-e0];exact dh f.terms 0 (by simp[a])
  have lt:=Ep t;have c3:∀h,aj C h (.func 60 []) (some [.agg (coV once x c.head),enc t])=some (.int .i64 (Cs ⟨once,c.head⟩ t),h):=λh=>an (args':=[ai ⟨once,c.head⟩,enc t]) (by rw[bV t];rfl) (by simp[bF];simp[short,coV,faC]) s_ (MM ⟨once,c.head⟩ t (by show once.length<=10000;omega) (λg hg=>by
   have y':g∈aN c:=by
    rcases aK.1 hg with hg|hg
    ·exact aa _ (p g hg)
    exact bk _ hg
   have:=q1 g y';exact⟨this.2.2,o_⟩) (Q.2 t z9))
  have O:vJ c.head once f=(decide (f.kind=1)&&decide (t.kind=1)&&decide (Cs ⟨once,c.head⟩ t=1)):=by rw[vJ,z8]
  have keep:vJ c.head once f=false->jb c.head once (once.take (k+1))=jb c.head once (once.take k)++[f]:=λa=>by rw[Y];simp[jb,a]
  have skip:vJ c.head once f=true->jb c.head once (once.take (k+1))=jb c.head once (once.take k):=λa=>by rw[Y];simp[jb,a]
  have⟨v',h',ha,G,hw,s,w⟩:=wv (i:=q) (o:=0) f q8 Z s_ (by have:=dS (λf=>!vJ c.head once f) (once.take k);have:(jb c.head once (once.take k)).length<=(once.take k).length:=this;simp at this;omega);have L:vJ c.head once f=false->∀D:PT,D.get 2=.ptr 1 0->D.get 3=.ptr 2 0->D.get 5=.ptr q 0->D.get 6=.int .i64 (k+1:Nat)->∃m,m<once.length-k/\Xe c once x q m D (h'.set q (.cells ((v::faC c.head).set 0 v') .live)):=λa D a2 a3 a5 a6=>⟨once.length-(k+1),o_,k+1,v',rfl,d,s 1 _ _ o_ u,s 2 _ _ o_ A,w,a2,a3,a5,a6,by rw[keep a];exact hw⟩
  by_cases k1:f.kind=1
  rotate_left
  ·simp[go_sem,M,g5,g6,lo,I,e,j,l,qv,am,s1,q0,k1,lf,lv,eI,ha,G,show au (aQ f)=true from rfl,-Int.natCast_add,X];exact L (by rw[O];simp[k1]) _ g_ g_ g_ g_
  by_cases k2:t.kind=1
  rotate_left
  ·simp[go_sem,M,g5,g6,lo,I,e,j,l,qv,am,s1,q0,q2,k1,K,pL,lt,k2,lf,lv,eI,ha,G,show au (aQ f)=true from rfl,-Int.natCast_add,X];exact L (by rw[O];simp[k2]) _ g_ g_ g_ g_
  by_cases k3:Cs ⟨once,c.head⟩ t=1
  ·have q':(Cs ⟨once,c.head⟩ t:Int)=1:=o_;simp[go_sem,M,g6,lo,I,e,j,l,qv,am,s1,q0,q2,k1,K,pL,lt,k2,N,ee,c3,q',-Int.natCast_add,X];exact⟨once.length-(k+1),o_,k+1,v,rfl,d,u,A,Z,g_,g_,g_,g_,by rw[skip (by rw[O];simp[k1,k2,k3])];exact q8⟩
  have q':¬(Cs ⟨once,c.head⟩ t:Int)=1:=o_;simp[go_sem,M,g5,g6,lo,I,e,j,l,qv,am,s1,q0,q2,k1,K,pL,lt,k2,N,ee,c3,q',lf,lv,eI,ha,G,show au (aQ f)=true from rfl,-Int.natCast_add,X];exact L (by rw[O];simp[k3]) _ g_ g_ g_ g_
 have:k=once.length:=o_;subst this;rw[ak]at B;obtain⟨y,rfl⟩:=B.isl;have y0:(jb c.head once once).length<=12:=cJ (dS _ _) o_;have q9:∀f∈jb c.head once once,f∈c.body:=λf a=>p f (cE.1 a).1
 have N:aJ C.P h 39 (.ptr q 0)=some (.agg (coV (jb c.head once once) y c.head)):=Mf mq;have z':=vq hc y0 q9;have z0:∀f∈lS (setF (jb c.head once once)),f∈c.body:=λf a=>by have h1:=(np (setF (jb c.head once once))).mem_iff.2 a;have⟨more,hp⟩:=mX (jb c.head once once);exact q9 f (hp.mem_iff.2 (aa _ h1))
 have z1:=I2 ⟨jb c.head once once,c.head⟩ z' (hV _ z0);rw[<-q6]at z1;have c4:∀h,aj C h (.func 61 []) (some [.agg (coV (jb c.head once once) y c.head)])=some (.tuple [ai (gK c),.int .i64 0],h):=λh=>an (Na _ _ _) (by simp[short,coV,faC]) s_ z1
 have stq:ah C.P h 39 (.ptr q 0) (ai (gK c))=some (h.set q (.cells (clC (gK c)) .live)):=by simp[ah,mq,s37,faC,ai,clC]
 have y1:=(aB.1 mq).1;have lq:aJ C.P (h.set q (.cells (clC (gK c)) .live)) 39 (.ptr q 0)=some (ai (gK c)):=jJ (by rw[aD y1]);have u:(h.set q (.cells (clC (gK c)) .live))[1]?=some (.cells dU .live):=by rw[aC o_];exact S
 have y2:ah C.P (h.set q (.cells (clC (gK c)) .live)) 39 (.ptr 1 0) (ai (gK c))=some ((h.set q (.cells (clC (gK c)) .live)).set 1 (.cells (clC (gK c)) .live)):=by simp only[ah,u];simp[s37,dU,ai,clC,faC]
 have y3:=(aB.1 u).1;have l1:aJ C.P ((h.set q (.cells (clC (gK c)) .live)).set 1 (.cells (clC (gK c)) .live)) 39 (.ptr 1 0)=some (ai (gK c)):=jJ (by rw[aD y3]);simp[go_sem,g2,M,g5,g6,lo,I,N,c4,stq,lq,y2];exact hR ⟨ai (gK c),by simp[ag,cO,f30,go_sem,g2,l1],aU rfl rfl⟩
def mO(l:Lb) (c1 c2:Cl) (pre post:List Fa):Cl:=fK l ⟨c1.body.map (cq (suf 108))++(pre++post).map (cq (suf 114)),cq (suf 114) c2.head⟩
theorem Ba{c:Cl}(hc:bY c=0):(bS (bN c)).Nodup/\(∀v∈bS (bN c),v.kind=1/\v.kids=[])/\zX (bS (bN c)) (aN c):=by
 refine⟨?_,λv i=>?_,λf j t k v i g=>?_⟩
 ·have d:(bS (bN c)).Pairwise lt:=oX _;exact d.imp fun {a b} h (e:a=b)=>AP (by rw[e]at h;exact h)
 ·have⟨t,k,h⟩:=bR.1 (mem_setS.1 i);have⟨m,n⟩:=cE.1 (mem_setS.1 h);have g:v.kind=1:=by simpa[isK]using n
  have⟨f,j,l⟩:=bR.1 ((gb c t).2 k);exact⟨g,pM hc f j t l v m g⟩
 have:t∈bN c:=(gb c t).1 (bR.2 ⟨f,j,k⟩);exact mem_setS.2 (bR.2 ⟨t,this,mem_setS.2 (cE.2 ⟨i,by simp[isK,g]⟩)⟩)
theorem GK{S:List Cl}(hval:∀c∈S,bY c=0) (hcl:∀c1∈S,∀c2∈S,kc c1=true->c1.head.kind=1->c2.head.kind=1->∀pre sel post,c2.body=pre++sel::post->gU sel=true->(∀f∈pre,gU f=false) ->
  bA (bc (suf 108) (dQ c1.head))=0/\bA (bc (suf 114) (dQ sel))=0/\∀n r,gg AZ n [(bc (suf 108) (dQ c1.head),bc (suf 114) (dQ sel))] []=some (r,0) ->
   ∃l:Lb,(∀b∈l,b∈r)/\∃s,cov s (mO l c1 c2 pre post)/\(s.head∈s.body\/∃d∈S,cov d s)):Sat (vF S):=by
 refine SV hval λc1 k c2 o D E y pre sel post z g h θ1 θ2 F G p I=>?_
 have⟨J,K,i⟩:=hcl c1 k c2 o D E y pre sel post z g h;have⟨L,A,M⟩:=Ba (hval c1 k);have⟨N,B,O⟩:=Ba (hval c2 o);have q:=vk (l:=[bc (suf 108) (dQ c1.head)]) (m:=[bc (suf 114) (dQ sel)]) (λt a=>by
  simp only[aS]at a;subst a;exact J) (λt a=>by
  simp only[aS]at a;subst a;exact K)
 have⟨n,⟨r,e⟩,u⟩:=QI _ _ _ _ q (aP _) (aP _);rw[gq,List.zip_nil_left]at q u;have⟨Q,w⟩:=Cf (ρ1:=suf 108) (ρ2:=suf 114) F G (λv x=>⟨(A v x).1,rfl,rfl⟩) (λv x=>⟨(B v x).1,rfl,rfl⟩) (GB L N A B) (fa (hval c1 k)) (fa (hval c2 o)) M O z p I q u;subst Q;have⟨l,U,s,j,V⟩:=i n r u;have⟨θ,a,X,Y⟩:=w l U;have Z:(mO l c1 c2 pre post).head.kind=1:=y;have:=M4 (θ:=θ) Z j V a;have e3:ii (mO l c1 c2 pre post) θ=ii c1 θ1++(bd (pre++post)).map (bc θ2):=X;have e4:fu (mO l c1 c2 pre post) θ=fu c2 θ2:=Y;rwa[e3,e4]at this
theorem wP{ins:T × T->Lb->Lb}:∀(n:Nat) (ps s:Lb) (x:Lb × Int),gg ins n ps s=some x->gg ins (n+1) ps s=some x
 |n,[],s,x,h=>by cases n<;>simpa[gg]using h
 |0,_::_,s,x,h=>by simp[gg]at h
 |n+1,(a,b)::ps,s,x,h=>by
  rw[gg]at h ⊢;by_cases h1:a.cmp b=0
  ·rw[if_pos h1]at h ⊢;exact wP n _ _ _ h
  rw[if_neg h1]at h ⊢;by_cases h2:fH a b=true
  ·rw[if_pos h2]at h ⊢;exact wP n _ _ _ h
  rw[if_neg h2]at h ⊢;cases hc:fB a b with
  |bad e=>rw[hc]at h;exact h
  |ok u v=>
   rw[hc]at h;dsimp only at h ⊢;by_cases h3:okU u v ps s=true
   ·rw[if_pos h3]at h ⊢;exact wP n _ _ _ h
   rw[if_neg h3]at h ⊢;exact h
theorem O8{ins:T × T->Lb->Lb}{n m:Nat}{ps s:Lb}{x y:Lb × Int}(h1:gg ins n ps s=some x) (h2:gg ins m ps s=some y):x=y:=by
 have c:∀k n x,gg ins n ps s=some x->gg ins (n+k) ps s=some x:=by
  intro k;induction k with
  |zero=>intro n x h;exact h
  |succ k d=>intro n x h;exact wP _ _ _ _ (d n x h)
 have a:=c m n x h1;have b:=c n m y h2;rw[Nat.add_comm m n]at b;rw[a]at b;exact Option.some.inj b
theorem B3{α:Type}{p:α->Bool}:∀ {l:List α}{k:Nat},0<=ixF p l k->∃pre a post,l=pre++a::post/\p a=true/\(∀x∈pre,p x=false)/\ixF p l k=(k+pre.length:Nat)
 |[],k,h=>by simp[ixF]at h
 |a::l,k,h=>by
  rw[ixF]at h ⊢;by_cases ha:p a=true
  ·exact⟨[],a,l,rfl,ha,s_,by rw[if_pos ha];simp⟩
  rw[if_neg ha]at h ⊢;have⟨pre,b,post,e,h1,h2,h3⟩:=B3 h;refine⟨a::pre,b,post,by rw[e];rfl,h1,λx c=>?_,by rw[h3];simp;omega⟩;rcases aV.1 c with rfl|c
  ·simpa using ha
  exact h2 x c
theorem AW{α:Type}{p:α->Bool}{a:α}{post:List α}(ha:p a=true):∀ {pre:List α}{k:Nat},(∀x∈pre,p x=false)->ixF p (pre++a::post) k=(k+pre.length:Nat)
 |[],k,_=>by simp[ixF,ha]
 |b::pre,k,h=>by rw[cV,ixF,if_neg (by simp[h b s_]),AW ha λx hx=>h x (by simp[hx])];simp;omega
theorem zE:∀ {l m:Lq},l.Nodup->(∀x∈l,x∈m)->l.length<=m.length
 |[],m,_,_=>s_
 |a::l,m,hn,hs=>by
  have⟨h1,h2⟩:=gd.1 hn;obtain⟨d,c,rfl⟩:=List.append_of_mem (hs a s_);have:=zE (l:=l) (m:=d++c) h2 λx e=>by
   have b:=hs x (by simp[e]);simp only[aK,aV]at b ⊢;rcases b with b|rfl|b
   ·exact .inl b
   ·exact absurd e h1
   exact .inr b
  simp only[List.length_append,aL]at this ⊢;omega
def nv(c:Cl):Nat:=(bS (bN c)).length
theorem MO{c:Cl}{V:Lq}(hc:∀f∈aN c,∀t∈f.terms,∀v∈bm bD t,v.kind=1->v∈V):nv c<=V.length:=by
 have d:(bS (bN c)).Pairwise lt:=oX _;refine zE (d.imp fun {a b} h (e:a=b)=>AP (by rw[e]at h;exact h)) λx i=>?_
 have⟨t,j,h⟩:=bR.1 (mem_setS.1 i);have⟨k,l⟩:=cE.1 (mem_setS.1 h);have⟨f,m,g⟩:=bR.1 ((gb c t).2 j);exact hc f m t g x k (by simpa[isK]using l)
theorem vZ{c:Cl}{f:Fa}{t v:T}(hf:f∈aN c) (ht:t∈f.terms) (hv:v∈bm bD t) (hk:v.kind=1):v∈bS (bN c):=nw (kl hf ht) hv hk
theorem MN{c d:Cl}(h:∀f∈aN d,f∈aN c):nv d<=nv c:=MO λf a _t b _v e g=>vZ (h f a) b e g
theorem Sn{c:Cl}{l:Lb}(hc:bY c=0) (hg:∀v:T,v.kind=1->v.kids=[]->(dp l v).kind=1/\(dp l v).kids=[]):nv (fK l c)<=nv c:=by
 have:=MO (c:=fK l c) (V:=(bS (bN c)).map (dp l)) (λf a t h v i j=>by
  obtain⟨b,d,rfl⟩:∃b∈aN c,cD l b=f:=by
   rcases aK.1 a with a|a
   ·obtain⟨b,k,rfl⟩:=ae.1 a;exact⟨b,aa _ k,rfl⟩
   exact⟨c.head,bk _ s_,(aS.1 a).symm⟩
  obtain⟨g,e,rfl⟩:=ae.1 h;obtain⟨w,m,n,rfl⟩:=EQ hg g (pM hc b d g e) v i j;exact df (vZ d e m n))
 rwa[ax]at this
theorem yC{c:Cl}{b:List Fa}(hb:∀f∈b,f∈c.body):(kj ((bN ⟨b,c.head⟩).flatMap (bm bD))).length<=nv c:=by
 have⟨n,p⟩:=wq ((bN ⟨b,c.head⟩).flatMap (bm bD));refine zE n λx j=>?_
 have q:x∈(bN ⟨b,c.head⟩).flatMap (bm bD):=by
  have e:∀(l o:Lq),x∈rL l o->x∈o\/x∈l:=by
   intro l;induction l with
   |nil=>intro o h;exact .inl h
   |cons a l k=>
    intro o h;cases m:AU o a with
    |true=>rw[uY l m]at h;exact(k o h).imp id λh=>by simp[h]
    |false=>
     rw[xo l m]at h;rcases k _ h with h|h
     ·rcases aK.1 h with h|h
      ·exact .inl h
      exact .inr (by simp[aS.1 h])
     exact .inr (by simp[h])
  rcases e _ [] j with h|h
  ·simp at h
  exact h
 have⟨t,r,s⟩:=bR.1 q;have⟨f,d,g⟩:=bR.1 ((gb ⟨b,c.head⟩ t).2 r);have i:f∈aN c:=by
  rcases aK.1 d with d|d
  ·exact aa _ (hb f d)
  exact bk _ d
 exact vZ i g s (p x j)
theorem xO{ρ:T->T}(hg:∀v:T,v.kind=1->(ρ v).kind=1/\(ρ v).kids=[]):∀t:T,∀u∈bm bD (bc ρ t),u.kind=1->∃v∈bm bD t,v.kind=1/\u=ρ v:=by
 refine T.ind λt g u b e=>?_
 rw[qb]at b;by_cases k:t.kind=1
 ·rw[if_pos k]at b;have c:=hg t k;rcases mem_walk.1 b with rfl|⟨a,d,_⟩
  ·exact⟨t,dD t,k,rfl⟩
  rw[c.2]at d;simp at d
 rw[if_neg k]at b;rcases mem_walk.1 b with rfl|⟨a,d,h⟩
 ·exact absurd e k
 obtain⟨f,c,rfl⟩:=ae.1 d;have⟨v,i,j,l⟩:=g f c u h e;exact⟨v,mem_walk.2 (.inr ⟨f,c,i⟩),j,l⟩
theorem EO{l:Lb}:∀t:T,∀u∈bm bD (cy l t),u.kind=1->u∈bm bD t\/∃b∈l,u∈bm bD b.2:=by
 refine T.ind λt g u c d=>?_
 rw[fh]at c;by_cases k:t.kind=1
 ·rw[if_pos k]at c;rcases iF l t with h|⟨b,i,_,h⟩
  ·rw[h]at c;exact .inl c
  rw[h]at c;exact .inr ⟨b,i,c⟩
 rw[if_neg k]at c;rcases mem_walk.1 c with rfl|⟨a,j,m⟩
 ·exact absurd d k
 obtain⟨e,f,rfl⟩:=ae.1 j;rcases g e f u m d with h|h
 ·exact .inl (mem_walk.2 (.inr ⟨e,f,h⟩))
 exact .inr h
theorem wO{U:Lq}{K:Nat}:∀(n:Nat) (ps s r:Lb) (e:Int),InvU U K ps s->(∀b∈s,∀u∈bm bD b.2,u.kind=1->u∈U)->gg AZ n ps s=some (r,e)->∀b∈r,∀u∈bm bD b.2,u.kind=1->u∈U
 |0,[],s,r,e,_,hb,h=>by simp only[gg,aA,aE]at h;obtain⟨rfl,rfl⟩:=h;exact hb
 |n+1,[],s,r,e,_,hb,h=>by simp only[gg,aA,aE]at h;obtain⟨rfl,rfl⟩:=h;exact hb
 |0,_::_,_,_,_,_,_,h=>by simp[gg]at h
 |n+1,(a,b)::ps,s,r,e,hi,hb,h=>by
  rw[gg]at h;have⟨t,v⟩:=hi.valid (a,b) s_;by_cases k:a.cmp b=0
  ·rw[if_pos k]at h;exact wO n ps s r e hi.skip hb h
  rw[if_neg k]at h;have i:a≠b:=λe=>k (cmp_zero.2 e)
  by_cases m:fH a b=true
  ·rw[if_pos m]at h;exact wO n (mJ a b++ps) s r e hi.kids hb h
  rw[if_neg m]at h;cases j:fB a b with
  |bad w=>rw[j]at h;simp only[aA,aE]at h;intro b hb;rw[<-h.1]at hb;simp at hb
  |ok x y=>
   rw[j]at h;dsimp only at h;by_cases ok:okU x y ps s=true
   ·rw[if_pos ok]at h;have⟨_,_,l⟩:=pS t v i j;have o:∀u∈bm bD y,u.kind=1->u∈U:=λu d f=>by
     refine hi.varsU (a,b) s_ u f ?_;rcases l with⟨_,rfl⟩|⟨_,rfl⟩
     ·exact .inr d
     exact .inl d
    refine wO n (mw x y ps) _ r e (hi.bind i j ok).1 (λc g u d f=>?_) h;rcases aK.1 g with g|g
    ·simp only[ke,ae]at g;obtain⟨q,p,rfl⟩:=g;rcases wc q.2 (eD (hi.bval q p).2) u f d with h|h
     ·exact hb q p u h.1 f
     exact o u h f
    rw[aS.1 g]at d;exact o u d f
   rw[if_neg ok]at h;simp only[aA,aE]at h;intro b hb;rw[<-h.1]at hb;simp at hb
theorem zD(x:UInt8):∀v:T,v.kind=1->(suf x v).kind=1/\(suf x v).kids=[]:=λ_ _=>⟨rfl,rfl⟩
theorem So{a b:Cl}{l:Lb}{pre post:List Fa}{sel:Fa}(hb:b.body=pre++sel::post) (hl:∀c∈l,∀u∈bm bD c.2,u.kind=1->u∈(bS (bN a)).map (suf 108)++(bS (bN b)).map (suf 114)):nv (mO l a b pre post)<=nv a+nv b:=by
 have:=MO (c:=mO l a b pre post) (V:=(bS (bN a)).map (suf 108)++(bS (bN b)).map (suf 114)) (λf o t p v q n=>by
  have k:∀(g:Fa),(g∈aN a/\∃d∈g.terms,v∈bm bD (cy l (bc (suf 108) d)))\/(g∈aN b/\∃d∈g.terms,v∈bm bD (cy l (bc (suf 114) d)))->v∈(bS (bN a)).map (suf 108)++(bS (bN b)).map (suf 114):=by
   rintro g (⟨m,d,i,r⟩|⟨m,d,i,r⟩)
   ·rcases EO _ v r n with h|⟨c,s,h⟩
    ·obtain⟨w,x,y,rfl⟩:=xO (zD 108) d v h n;exact aa _ (df (vZ m i x y))
    exact hl c s v h n
   rcases EO _ v r n with h|⟨c,s,h⟩
   ·obtain⟨w,x,y,rfl⟩:=xO (zD 114) d v h n;exact bk _ (df (vZ m i x y))
   exact hl c s v h n
  rcases aK.1 o with o|o
  ·obtain⟨A,e,rfl⟩:=ae.1 o;obtain⟨z,j,rfl⟩:=ae.1 p;rcases aK.1 e with e|e
   ·obtain⟨g,m,rfl⟩:=ae.1 e;obtain⟨d,i,rfl⟩:=ae.1 j;exact k g (.inl ⟨aa _ m,d,i,q⟩)
   obtain⟨g,m,rfl⟩:=ae.1 e;obtain⟨d,i,rfl⟩:=ae.1 j;refine k g (.inr ⟨aa _ ?_,d,i,q⟩);rw[hb];rcases aK.1 m with h|h
   ·exact aa _ h
   exact bk _ (bP _ h)
  rw[aS.1 o]at p;obtain⟨z,j,rfl⟩:=ae.1 p;obtain⟨d,i,rfl⟩:=ae.1 j;exact k b.head (.inr ⟨by simp[aN],d,i,q⟩))
 rwa[List.length_append,ax,ax]at this
theorem Og{n:Nat}(hn:n<600):iX (vn n)=true:=by
 have a:∀m:Fin 600,iX (vn m.val)=true:=by decide +kernel
 exact a ⟨n,hn⟩
theorem GR{l:Lb}(hl:∀b∈l,∃N,iX N=true/\b.2=.mk 1 N b.1.sort []):∀t:T,cz t=0->(cy l t).size=t.size/\(cy l t).depth=t.depth/\cz (cy l t)=0:=by
 refine T.ind λt o h=>?_
 have d:=eF h;rw[fh];by_cases a:t.kind=1
 ·rw[if_pos a];have c:=lH d (.inl a);rcases iF l t with e|⟨b,p,r,e⟩
  ·rw[e];exact⟨rfl,rfl,h⟩
  have⟨m,s,u⟩:=hl b p;have f:b.1=t:=cmp_zero.1 r;rw[e,u,f];refine⟨?_,?_,?_⟩
  ·rw[size_kids t,c,T.size]
  ·rw[lz t,c,T.depth]
  rw[fi];refine thn_zero.2 ⟨?_,rfl⟩;unfold gL at d ⊢;have n:kz t=false:=by
   by_cases q:kz t=true
   ·rw[if_pos q]at d;cases d
   simpa using q
  have g:kz (.mk 1 m t.sort [])=false:=by rw[<-n];exact oH a.symm rfl (by rw[c];rfl)
  rw[g,if_neg s_];simp only[T.name,T.kids,s];simp
 rw[if_neg a];rw[fi]at h;have⟨n,g⟩:=thn_zero.1 h;have v:=jH g;have i:=λk a=>o k a (v k a)
 refine⟨?_,?_,?_⟩
 ·rw[size_kids t,T.size,uL λk a=>(i k a).1]
 ·rw[lz t,T.depth,sM λk a=>(i k a).2.1]
 rw[fi];refine thn_zero.2 ⟨?_,qR λk a=>?_⟩
 ·have w:kz (.mk t.kind t.name t.sort (t.kids.map (cy l)))=kz t:=oH rfl rfl (by simp[T.kids]);unfold gL;rw[w];simp only[T.name,T.kids,ax];exact d
 obtain⟨x,j,rfl⟩:=ae.1 a;exact(i x j).2.2
theorem BI{l:Lb}(hl:∀b∈l,∃N,iX N=true/\b.2=.mk 1 N b.1.sort []){t:T}(h:bA t=0):bA (cy l t)=0/\(cy l t).size=t.size:=by have⟨d,e,f⟩:=bg h;have⟨a,b,c⟩:=GR hl t d;refine⟨?_,a⟩;unfold bA;rw[c,if_neg o_];rfl
theorem Gj{l:Lq}(hl:l.length<600):∀b∈ow nmV l,∃N,iX N=true/\b.2=.mk 1 N b.1.sort []:=λb a=>by obtain⟨q,c,rfl⟩:=ae.1 a;have:=List.snd_lt_of_mem_zipIdx c;refine⟨nmV q.2,?_,rfl⟩;rw[nmV,if_pos o_];exact Og o_
theorem Gm{l:Lb}(hn:∀b∈l,∃N,iX N=true/\b.2=.mk 1 N b.1.sort []):∀v:T,v.kind=1->v.kids=[]->(dp l v).kind=1/\(dp l v).kids=[]:=λv a c=>by
 rcases iF l v with h|⟨b,d,_,h⟩
 ·rw[h];exact⟨a,c⟩
 have⟨m,_,e⟩:=hn b d;rw[h,e];exact⟨rfl,rfl⟩
theorem vP:∀ {l:Lq},(∀t∈l,bA t=0)->iM l=0
 |[],_=>rfl
 |a::l,h=>by rw[iM,if_neg (by simpa using h a s_)];exact vP λt ht=>h t (by simp[ht])
theorem Kl{f:Fa}{g:T->T}(h:eZ f=0) (hg:∀t∈f.terms,bA (g t)=0):eZ ⟨f.kind,f.goal,f.terms.map g⟩=0:=by
 unfold eZ at h ⊢;simp only[ax];split at h
 ·cases h
 rename_i a;split at h
 ·cases h
 rename_i b;split at h
 ·cases h
 rename_i c;split at h
 ·cases h
 rename_i d;rw[if_neg a,if_neg b,if_neg c,if_neg d];exact vP λt e=>by obtain⟨u,i,rfl⟩:=ae.1 e;exact hg u i
theorem Eg{l:List Fa}{f:Fa}(h:f∈l):f∈setF l:=by
 have c:∀(l o:List Fa),f∈o\/f∈l->f∈vE l o:=by
  intro l;induction l with
  |nil=>intro o h;simpa[xq]using h
  |cons a l d=>
   intro o h;cases b:ut o a with
   |true=>
    rw[xt l b];refine d o ?_;rcases h with h|h
    ·exact .inl h
    rcases aV.1 h with rfl|h
    ·simp only[ut,dT,decide_eq_true_eq]at b;have⟨g,i,e⟩:=b;rw[<-zP e];exact .inl i
    exact .inr h
   |false=>
    rw[xr l b];refine d _ ?_;rcases h with h|h
    ·exact .inl (aa _ h)
    rcases aV.1 h with rfl|h
    ·exact .inl (bk _ s_)
    exact .inr h
 exact c l [] (.inr h)
theorem zx{l:List Fa}{f:Fa}(h:f∈setF l):f∈l:=by have⟨more,a⟩:=mX l;exact a.mem_iff.2 (aa _ h)
theorem EF(l:List Fa):(setF l).length<=l.length:=by have⟨more,a⟩:=mX l;have:=a.length_eq;rw[List.length_append]at this;omega
structure Can (c d:Cl):Prop where
 valid:bY d=0
 nvs:nv d<=nv c
 covers:cov d c
 sel:d.body.any gU=c.body.any gU
 fbody:∀n,(∀f∈c.body,f.terms.length<=n)->∀f∈d.body,f.terms.length<=n
 fhead:d.head.terms.length=c.head.terms.length
theorem Lm{l:Lb}{f:Fa}(hg:∀v:T,v.kind=1->v.kids=[]->(dp l v).kind=1/\(dp l v).kids=[]) (hf:AS f):gU (cD l f)=gU f:=by
 unfold gU cD;dsimp only;cases h:f.terms with
 |nil=>rfl
 |cons t r=>
  simp only[aM];congr 1
  have:(cy l t).kind=1↔t.kind=1:=by
   rw[fh];by_cases k:t.kind=1
   ·rw[if_pos k];simp[k,(hg t k (hf t (by rw[h];simp) t (dD t) k)).1]
   rw[if_neg k];rfl
  simp only[ne_eq,this]
theorem DW{c:Cl}(hc:bY c=0) (hn:nv c<600):Can c (qp nmV c):=by
 have a:∀f∈lS (setF c.body),f∈c.body:=λf b=>zx ((np _).mem_iff.2 b)
 have d:(lS (setF c.body)).length<=12:=by rw[<-(np (setF c.body)).length_eq];have:=EF c.body;have:=(dH hc).1;omega
 have v:=vq hc d a;have u:(kj ((bN ⟨lS (setF c.body),c.head⟩).flatMap (bm bD))).length<600:=by have:=yC a;omega
 have q:=Gj u;have k:=Gm q;have r:qp nmV c=fK (ow nmV (kj ((bN ⟨lS (setF c.body),c.head⟩).flatMap (bm bD)))) ⟨lS (setF c.body),c.head⟩:=rfl;have m:cov (qp nmV c) c:=CE (fa hc) λi j _ _ e=>IQ e
 rw[r]at m ⊢;generalize ow nmV (kj ((bN ⟨lS (setF c.body),c.head⟩).flatMap (bm bD)))=l at *;have s:∀f∈aN ⟨lS (setF c.body),c.head⟩,eZ f=0:=(dH v).2;have o:∀f∈aN ⟨lS (setF c.body),c.head⟩,eZ (cD l f)=0:=λf b=>Kl (s f b) λt x=>(BI q ((eS (s f b)).2.2 t x)).1
 refine⟨yJ (by simpa[fK]using d) λf b=>?_,?_,m,?_,λn h f b=>?_,by simp[fK,cD]⟩
 ·rcases aK.1 b with b|b
  ·obtain⟨g,p,rfl⟩:=ae.1 b;exact o g (aa _ p)
  rw[aS.1 b];exact o c.head (by simp[aN])
 ·refine cJ (Sn v k) (MN λf b=>?_);rcases aK.1 b with b|b
  ·exact aa _ (a f b)
  exact bk _ b
 ·have w:∀f∈lS (setF c.body),gU (cD l f)=gU f:=λf b=>Lm k (AR ((dH hc).2 f (by simp[aN,a f b])))
  rw[fc];simp only[fK,dT,ae];constructor
  ·rintro⟨_,⟨g,p,rfl⟩,h⟩;exact⟨g,a g p,by rw[<-w g p];exact h⟩
  rintro⟨g,p,h⟩;have:=(np (setF c.body)).mem_iff.1 (Eg p);exact⟨_,⟨g,this,rfl⟩,by rw[w g this];exact h⟩
 obtain⟨g,p,rfl⟩:=ae.1 b;simpa[cD]using h g (a g p)
theorem qj{c:Cl}(hc:bY c=0) (hn:nv c<600):Can c (gK c):=by
 have l:gK c=qp nmV ⟨jb c.head (setF c.body) (setF c.body),c.head⟩:=rfl;have a:∀f∈jb c.head (setF c.body) (setF c.body),f∈c.body:=λf b=>zx (cE.1 b).1
 have d:(jb c.head (setF c.body) (setF c.body)).length<=12:=by have s:(jb c.head (setF c.body) (setF c.body)).length<=(setF c.body).length:=dS _ _;have:=EF c.body;have:=(dH hc).1;omega
 have q:=vq hc d a;have m:nv ⟨jb c.head (setF c.body) (setF c.body),c.head⟩<=nv c:=MN λf b=>by
  rcases aK.1 b with b|b
  ·exact aa _ (a f b)
  exact bk _ b
 have k:=DW q o_;rw[l];refine⟨k.valid,cJ k.nvs m,Nb (fa hc) λi j e=>IQ e,?_,λn h=>k.fbody n λf b=>h f (a f b),k.fhead⟩;rw[k.sel,fc];simp only[dT];constructor
 ·rintro⟨g,o,h⟩;exact⟨g,a g o,h⟩
 rintro⟨g,o,h⟩;refine⟨g,cE.2 ⟨Eg o,?_⟩,h⟩;have:vJ c.head (setF c.body) g=false:=by
  unfold vJ;simp only[gU,bI,decide_eq_true_eq]at h;cases p:g.terms with
  |nil=>rw[p]at h;simp at h
  |cons t r=>
   rw[p]at h;have:dQ g=t:=by unfold dQ;rw[p];rfl
   rw[this];simp at h;simp[h.2]
 simp[this]
theorem wK{c:Cl}(hc:bY c=0) (hn:nv c<600):SimR gK c:=⟨SP c hc λb a=>by have:=yC a;omega,gR (qj hc hn).valid⟩
theorem u56:C.P.underlying 56=some (.slice 9):=underlying56
theorem Ot:C.P.underlying 22=some (.slice 5):=underlying22
theorem ZB:ja C.P 56=some 9:=k_
theorem Vw:ja C.P 22=some 5:=k_
theorem s5:cw C.P 5=some 1:=k_
theorem a5:gW C.P 5=some false:=k_
attribute [go_sem] u56 Ot ZB Vw s5 a5
def za:AV:=.isl (tab23.map λe=>.str e.1) .unk
theorem Ov:az C 28 []=some za:=gc (m:=100) k_
def qh(k:Nat):Cl:=match tab23[k]? with
 |some e=>e.2
 |none=>⟨[],⟨0,0,[]⟩⟩
theorem J5{k:Nat}(hk:k<16):∃e,tab23[k]?=some e/\C.prim 23 [.str e.1] []=some (.tuple [ai e.2,.int .i64 0],[]):=by rcases(show k=0\/k=1\/k=2\/k=3\/k=4\/k=5\/k=6\/k=7\/k=8\/k=9\/k=10\/k=11\/k=12\/k=13\/k=14\/k=15 by omega)with rfl|rfl|rfl|rfl|rfl|rfl|rfl|rfl|rfl|rfl|rfl|rfl|rfl|rfl|rfl|rfl<;>exact⟨_,rfl,k_⟩
theorem Tu{k:Nat}(hk:k<16):∃e,tab23[k]?=some e/\∀h,aj C h (.func 23 []) (some [.str e.1])=some (.tuple [ai (qh k),.int .i64 0],h):=by
 have⟨e,a,b⟩:=J5 hk;have c:Go.V.Call C 23 [.str e.1] []=some (.tuple [ai e.2,.int .i64 0],[]):=kK (C:=C) (fn:=f23) func23 b;have d:qh k=e.2:=by rw[qh,a]
 refine⟨e,a,λh=>an (args':=[.str e.1]) rfl rfl s_ ?_⟩;unfold az;rw[c,d];exact du rfl rfl s_
theorem V3{k:Nat}(hk:k<16){e:ByteArray × Cl}(he:tab23[k]?=some e):aZ C.P 56 za (.int .i64 k)=some (.iptr (.str e.1) 0):=by
 have b:k<(tab23.map λe=>AV.str e.1).length:=by simpa[tab23]using hk
 have a:(tab23.map λe=>AV.str e.1)[k]?=some (.str e.1):=by rw[cK,he];rfl
 simp[aZ,u56,s9,za,a,AV.cells];exact fW hk d_
def isA(x:Option AV) (v:AV):Bool:=match x with
 |some u=>AV.same u v
 |none=>false
theorem Mt{x:Option AV}{v:AV}(h:isA x v=true):x=some v:=by
 unfold isA at h;split at h
 ·rw[AV.same_eq h]
 cases h
theorem Nf:((List.range 256).all λn=>isA (Ap C.P 5 3 (.int .u8 n)) (.int .i64 n))=true:=k_
theorem WL{n:Nat}(hn:n<256):Ap C.P 5 3 (.int .u8 n)=some (.int .i64 n):=Mt (av.1 Nf n (dR.2 hn))
theorem PM(x y:Operand):((List.range 256).all λn=>isA (jU C.P .rem 3 x y (.int .i64 n) (.int .i64 16)) (.int .i64 (n%16:Nat)))=true:=k_
theorem VO(x y:Operand){n:Nat}(hn:n<256):jU C.P .rem 3 x y (.int .i64 n) (.int .i64 16)=some (.int .i64 (n%16:Nat)):=Mt (av.1 (PM x y) n (dR.2 hn))
theorem Nm(n:Nat) (hn:n<256):az C 14 [.int .u8 n]=some (ai (qh (n%16))):=by
 refine bL func14 rfl λR f=>?_
 have⟨e,g,d⟩:=Tu (k:=n%16) (iH _ o_);have i:∀h,aj C h (.func 28 []) (some [])=some (za,h):=λh=>an (args':=[]) rfl rfl s_ Ov
 have j:=V3 (iH _ o_) g;have a:fG C.P 56 za=some (.int .i64 16):=k_;have l:∀h,aJ C.P h 9 (.iptr (.str e.1) 0)=some (.str e.1):=λh=>by simp[aJ,aY,a9,s9,AV.cells]
 have m:=WL hn;have o:=λx y=>VO x y hn
 generalize b:qh (n%16)=c at d;have p:ah C.P [.cells dU .live,.cells dU .live] 39 (.ptr 1 0) (ai c)=some [.cells dU .live,.cells (clC c) .live]:=by simp[ah,s37,dU,ai,clC,faC]
 have q:aJ C.P [.cells dU .live,.cells (clC c) .live] 39 (.ptr 1 0)=some (ai c):=jJ rfl;have r:ah C.P [.cells dU .live,.cells (clC c) .live] 39 (.ptr 0 0) (ai c)=some [.cells (clC c) .live,.cells (clC c) .live]:=by simp[ah,s37,dU,ai,clC,faC]
 have s:aJ C.P [.cells (clC c) .live,.cells (clC c) .live] 39 (.ptr 0 0)=some (ai c):=jJ rfl;simp[go_sem,om,am,i,a,m,o,j,l,d,-Int.natCast_emod,p,q,r];exact f ⟨ai c,by simp[ag,cO,f14,go_sem,s],by rw[b];exact aU rfl rfl⟩
theorem Tx{n:Nat}(hn:n<256) (h:H):aj C h (.func 14 []) (some [.int .u8 n])=some (ai (qh (n%16)),h):=an (args':=[.int .u8 n]) rfl rfl s_ (Nm n hn)
def lU(l:List Nat):AV:=.isl (l.map λ(n:Nat)=>.int .u8 n) .unk
def mA(l:List Nat):List Cl:=(l.take 10).map λn=>qh (n%16)
def aAC(l:List Nat) (n:Nat) (st:PT) (h:H):Prop:=∃(k:Nat) (v:AV),n=l.length-k/\k<=l.length/\k<=10/\st.get 0=lU l/\st.get 3=v/\st.get 4=.int .i64 k/\OwnR 39 h v (((l.take k).map λn=>qh (n%16)).map ai)
theorem Nl(l:List Nat) (_hl:l.length<4000000) (hb:∀n∈l,n<256):az C 5 [lU l]=some (dV (mA l)):=by
 refine oV rfl func5 rfl k_ (by simp[f5]) λR s=>?_
 have d:fG C.P 22 (lU l)=some (.int .i64 l.length):=by simp[fG,Ot,lU]
 have fin:∀(st:PT) (h:H) (o:List Cl) (x:Ext),st.get 2=.isl (o.map ai) x->o=mA l->R .ret st h:=λst h o x y z=>s _ _ _ (.inr rfl) ⟨.isl (o.map ai) x,by simp[ag,cO,f5,go_sem,y],by rw[z];exact aU rfl rfl⟩
 clear s;simp[go_sem];refine bX (aAC l) l.length ⟨0,.isl [] (.tok 1),rfl,aO _,o_,g_,g_,g_,.inr ⟨1,rfl,s_⟩⟩ ?_;rintro n st h ⟨k,v,rfl,I,f,m,i,p,j⟩;by_cases a:k<l.length
 rotate_left
 ·have:k=l.length:=o_;subst this;obtain⟨x,rfl⟩:=j.isl;rw[ak]at i;simp[go_sem,m,i,p,d];exact fin _ _ (l.map λn=>qh (n%16)) x g_ (by rw[mA,bJ f])
 have b:(k:Int)<l.length:=o_;by_cases A:k<10
 rotate_left
 ·have e:¬(k:Int)<10:=o_;obtain⟨x,rfl⟩:=j.isl;simp[go_sem,m,i,p,d,b,e];exact fin _ _ ((l.take k).map λn=>qh (n%16)) x g_ (by rw[mA,show k=10 by omega])
 have e:(k:Int)<10:=o_;have q:aZ C.P 22 (lU l) (.int .i64 k)=some (.iptr (.int .u8 l[k]) 0):=by simp[aZ,Ot,s5,lU,AV.cells,a]
 have B:∀h,aJ C.P h 5 (.iptr (.int .u8 l[k]) 0)=some (.int .u8 l[k]):=λh=>by simp[aJ,aY,a5,s5,AV.cells]
 have t:=Tx (hb _ (aG a));have D:=wS k o_;have g:(l.take (k+1)).map (λn=>qh (n%16))=(l.take k).map (λn=>qh (n%16))++[qh (l[k]%16)]:=by rw[<-aW a,List.map_append];rfl
 have u:((l.take k).map λn=>qh (n%16)).length<=k:=by simp;omega
 generalize qh (l[k]%16)=c at t g;have⟨E,J,r,w,F,G⟩:=nM (ys:=[c]) (x:=.full) j (by simp only[eK];omega);rw[<-g]at w;rw[aM,bM]at r;generalize (l.take k).map (λn=>qh (n%16))=cu at j r;simp[go_sem,m,i,p,d,b,e,q,B,t,oi,show au (ai c)=true from rfl,r,-Int.natCast_add,D];exact⟨l.length-(k+1),o_,k+1,E,rfl,a,o_,g_,g_,g_,w⟩
theorem WN(l:List Nat) (hl:l.length<4000000) (hb:∀n∈l,n<256) (h:H):aj C h (.func 5 []) (some [lU l])=some (dV (mA l),h):=an (args':=[lU l]) rfl (by simp[short,lU]) s_ (Nl l hl hb)
theorem c5z:prog.cellsOf 5=1:=k_
theorem Ku{H:Type}{ec:TypeId × Value->H}{w:World}{n:Nat}{v:Value}{x:DataW H × List MemPlace}(h:TR ec w n 22 [v]=some x):∃l:List Nat,(∀n∈l,n<256)/\IRel (λ_ _=>True) w (lU l) v:=by
 have⟨l,f,_⟩:=Kt (α:={n:Nat // n<256}) (toV:=λa=>AV.int .u8 a.1) (sz:=λ_=>0) underlying22 c5z o_ (λa=>⟨rfl,rfl,λc b=>by simp[AV.cells]at b;subst b;rfl⟩) (λm _ p y q g=>by
  have⟨s,e,_,i⟩:=DataW.trod_int underlying5 g;subst e;have k:0<=s/\s<256:=by simp only[Lit.wf,bI,decide_eq_true_eq]at i;have r:IntKind.u8.min=0:=d_;have t:IntKind.u8.max=255:=d_;omega
  refine⟨⟨s.toNat,o_⟩,aO _,λj c u b d=>?_⟩;match j,b,d with
  |0,b,d=>simp[AV.cells]at b d;subst b;subst d;have:max s 0=s:=o_;rw[this];exact .int _ _
  |j+1,b,d=>simp[AV.cells]at b) h
 refine⟨l.map (·.1),λn o=>?_,?_⟩
 ·obtain⟨a,_,rfl⟩:=ae.1 o;exact a.2
 have e:lU (l.map (·.1))=.isl (l.map λa=>AV.int .u8 a.1) .unk:=by unfold lU;rw[eG];rfl
 rw[e];exact f
theorem J8:az C 142 [.str ⟨#[108]⟩]=some (.bool true):=by have h:isB true (fM C 100 142 [.str ⟨#[108]⟩] [])=true:=k_;exact rM h
theorem J7:az C 142 [.str ⟨#[114]⟩]=some (.bool true):=by have h:isB true (fM C 100 142 [.str ⟨#[114]⟩] [])=true:=k_;exact rM h
mutual
def okL:T->Bool
 |.mk k n _ l=>(decide (k≠1)||decide (n.size+1<=24))&&PW l
def PW:Lq->Bool
 |[]=>true
 |t::l=>okL t&&PW l
end
theorem Ea:∀l,PW l=l.all okL
 |[]=>rfl
 |t::l=>by rw[PW,Ea l];rfl
theorem MJ(t:T):okL t=((decide (t.kind≠1)||decide (t.name.size+1<=24))&&t.kids.all okL):=by cases t;rw[okL,Ea];rfl
def rJ(x:UInt8) (t:T):T:=.mk t.kind (if t.kind=1 then⟨t.name.data.push x⟩else t.name) t.sort (t.kids.map (bc (suf x)))
theorem Mc{x:UInt8}{t:T}(h:jI t):rJ x t=bc (suf x) t:=by
 rw[rJ,qb];by_cases k:t.kind=1
 ·rw[if_pos k,if_pos k,h t (dD t) k,k];rfl
 rw[if_neg k,if_neg k]
theorem ZK(n:ByteArray) (x:UInt8):n++⟨#[x]⟩=⟨n.data.push x⟩:=by apply ByteArray.ext;rw[ByteArray.data_append];simp
def R5(x:UInt8) (t:T) (n:Nat) (st:PT) (h:H):Prop:=∃(k:Nat) (v:AV),n=t.kids.length-k/\k<=t.kids.length/\h[0]?=some (.cells (tc t) .live)/\h[1]?=some (.cells zc .live)/\h[2]?=some (.cells [.int .i64 t.kind,.str (rJ x t).name,.int .i64 t.sort,v] .live)/\st.get 1=.str ⟨#[x]⟩/\st.get 2=.ptr 0 0/\st.get 4=.ptr 1 0/\st.get 6=.ptr 2 0/\st.get 7=.bool ((decide (t.kind≠1)||decide (t.name.size+1<=24))&&(t.kids.take k).all okL)/\st.get 8=.int .i64 k/\OwnR 41 h v (((t.kids.take k).map (bc (suf x))).map enc)
theorem KR(x:UInt8) (t:T) (hs:t.size<4000000) (hn:t.name.size<4000000) (hlf:jI t) (hc:∀k∈t.kids,az C 143 [enc k,.str ⟨#[x]⟩]=some (.tuple [enc (bc (suf x) k),.bool (okL k)])):az C 143 [enc t,.str ⟨#[x]⟩]=some (.tuple [enc (bc (suf x) t),.bool (okL t)]):=by
 refine bL func143 rfl λR hR=>?_
 have bx:∀h x,mg C.P h 41 (enc x)=some (.ptr h.length 0,h++[.cells (tc x) .live]):=λh x=>by rw[gx];rfl
 have X:∀(y:VObj),aJ C.P [.cells (tc t) .live,y] 41 (.ptr 0 0)=some (enc t):=λy=>(ji rfl).2.2.2.2
 have z3:∀(y z:VObj),aJ C.P [.cells (tc t) .live,y,z] 3 (.ptr 0 0)=some (.int .i64 t.kind):=λy z=>(ji rfl).1
 have z9:∀(y z:VObj),aJ C.P [.cells (tc t) .live,y,z] 9 (.ptr 0 1)=some (.str t.name):=λy z=>(ji rfl).2.1
 have Y:∀(x y:VObj) (a b c d:AV),ah C.P [x,y,.cells [a,b,c,d] .live] 41 (.ptr 2 0) (enc t)=some [x,y,.cells [.int .i64 t.kind,.str t.name,.int .i64 t.sort,terms t.kids] .live]:=λx y a b c d=>by rw[H8,aq]
 have s9:∀(x y:VObj) (a b c d:AV) (n:ByteArray),ah C.P [x,y,.cells [a,b,c,d] .live] 9 (.ptr 2 1) (.str n)=some [x,y,.cells [a,.str n,c,d] .live]:=λx y a b c d n=>by simp[ah,s9]
 have r9:∀(x y:VObj) (a c d:AV) (n:ByteArray),aJ C.P [x,y,.cells [a,.str n,c,d] .live] 9 (.ptr 2 1)=some (.str n):=λx y a c d n=>by simp[aJ,aY,a9,Go.VZ.s9]
 have s23:∀(x y:VObj) (a b c d:AV),ah C.P [x,y,.cells [a,b,c,d] .live] 32 (.ptr 2 3) (.isl [] .full)=some [x,y,.cells [a,b,c,.isl [] .full] .live]:=λx y a b c d=>by simp[ah,s23]
 have q4:=size_kids t;have q3:=len_sizes t.kids;have p:=λa b=>Dp a b t.name ⟨#[x]⟩ (by show t.name.size+1<_;omega)
 have Z:(⟨#[x]⟩:ByteArray).size=1:=rfl;by_cases A:t.kind=1
 case' pos=>
  have l:(rJ x t).name=t.name++(⟨#[x]⟩:ByteArray):=by rw[ZK];simp[rJ,A,T.name]
  simp[go_sem,bx,X,z3,z9,Y,s9,r9,s23,A,p,ur];refine bX (R5 x t) t.kids.length ⟨0,.isl [] .full,rfl,aO _,rfl,rfl,by rw[l,A];rfl,g_,g_,g_,g_,by simp[go_sem,A];omega,g_,.inl rfl⟩ ?_
 case' neg=>
  have l:(rJ x t).name=t.name:=by simp[rJ,A,T.name]
  simp[go_sem,bx,X,z3,Y,s23,A];refine bX (R5 x t) t.kids.length ⟨0,.isl [] .full,rfl,aO _,rfl,rfl,by rw[l];rfl,g_,g_,g_,g_,by simp[go_sem,A],g_,.inl rfl⟩ ?_
 all_goals
  clear l X z3 z9 Y s9 r9 s23 p;rintro n st h ⟨k,v,rfl,hk,m0,m1,m2,g1,g2,g4,g6,B,g8,G⟩;have lk:aJ C.P h 32 (.ptr 0 3)=some (terms t.kids):=(ji m0).2.2.2.1;have D:=dX t.kids;have l2:aJ C.P h 32 (.ptr 2 3)=some v:=by obtain⟨y,rfl⟩:=G.isl;simp[aJ,m2,aY,a23,s23]
  by_cases f:k<t.kids.length
  ·have r:(k:Int)<t.kids.length:=o_;have E:=dh t.kids k f;have w2:=wS k o_;have Q:∀h,aj C h (.func 143 []) (some [enc t.kids[k],.str ⟨#[x]⟩])=some (.tuple [enc (bc (suf x) t.kids[k]),.bool (okL t.kids[k])],h):=λh=>an (args':=[enc t.kids[k],.str ⟨#[x]⟩]) (by rw[bV t.kids[k]];rfl) (by simp[bF];rfl) s_ (hc _ (aG f))
   have I:t.kids.take (k+1)=t.kids.take k++[t.kids[k]]:=by rw[<-aW f]
   have s:(t.kids.take (k+1)).all okL=((t.kids.take k).all okL&&okL t.kids[k]):=by rw[I,eM];simp
   have F:(t.kids.take (k+1)).map (bc (suf x))=(t.kids.take k).map (bc (suf x))++[bc (suf x) t.kids[k]]:=by rw[I,List.map_append];rfl
   generalize t.kids[k]=u at E Q s F;generalize bc (suf x) u=w at Q F;have S:=qM w h;change ah C.P (h++[.cells zc .live]) 41 _ _=_ at S;obtain⟨U,m⟩:∃g,g=h++[VObj.cells (enc w).cells .live]:=⟨_,rfl⟩
   have up:∀ {i:Nat}{o:VObj},h[i]?=some o->U[i]?=some o:=fun {i o} hi=>by rw[m,aH (aB.1 hi).1];exact hi
   have n1:U[h.length]?=some (.cells (enc w).cells .live):=by rw[m];simp
   have lw:=sg w n1;rw[<-m]at S;have q':OwnR 41 U v (((t.kids.take k).map (bc (suf x))).map enc):=by rw[m];exact G.keep (Keep.append _ _ none) s_
   have J:=up m0;have K:=up m1;have L:=up m2;have M:aJ C.P U 32 (.ptr 2 3)=some v:=by obtain⟨y,rfl⟩:=G.isl;simp[aJ,L,aY,a23,s23]
   have⟨v',h',ha,N,hw,e,j⟩:=ue (i:=2) (o:=3) w q' L s_ (by simp;omega);rw[<-F]at hw;have V:((decide (t.kind≠1)||decide (t.name.size+1<=24))&&(t.kids.take (k+1)).all okL)=(((decide (t.kind≠1)||decide (t.name.size+1<=24))&&(t.kids.take k).all okL)&&okL u):=by rw[s,fZ]
   cases q:((decide (t.kind≠1)||decide (t.name.size+1<=24))&&(t.kids.take k).all okL)with
   |true=>rw[q]at B V;simp[go_sem,g1,g2,g6,B,g8,lk,D,r,E,ee,Q,mV,am,S,M,lw,fO,ha,N,dZ,-Int.natCast_add,w2];exact⟨t.kids.length-(k+1),o_,k+1,v',rfl,f,e 0 _ _ o_ J,e 1 _ _ o_ K,j,g_,g_,g_,g_,by rw[V];simp[go_sem],g_,hw⟩
   |false=>rw[q]at B V;simp[go_sem,g1,g2,g6,B,g8,lk,D,r,E,ee,Q,mV,am,S,M,lw,fO,ha,N,dZ,-Int.natCast_add,w2];exact⟨t.kids.length-(k+1),o_,k+1,v',rfl,f,e 0 _ _ o_ J,e 1 _ _ o_ K,j,g_,g_,g_,g_,by rw[V];simp[go_sem],g_,hw⟩
  have:k=t.kids.length:=o_;subst this;rw[ak]at G B;have q0:okL t=((decide (t.kind≠1)||decide (t.name.size+1<=24))&&t.kids.all okL):=MJ t;rw[<-q0]at B;obtain⟨y,rfl⟩:=G.isl;have e5:aJ C.P h 41 (.ptr 2 0)=some (.agg [.int .i64 t.kind,.str (rJ x t).name,.int .i64 t.sort,.isl ((t.kids.map (bc (suf x))).map enc) y]):=by simp[aJ,m2,aY,a25,s25]
  have e6:ah C.P h 41 (.ptr 1 0) (.agg [.int .i64 t.kind,.str (rJ x t).name,.int .i64 t.sort,.isl ((t.kids.map (bc (suf x))).map enc) y])=some (h.set 1 (.cells [.int .i64 t.kind,.str (rJ x t).name,.int .i64 t.sort,.isl ((t.kids.map (bc (suf x))).map enc) y] .live)):=by simp[ah,m1,s25,zc]
  have e7:=(aB.1 m1).1;have q1:=Mc (x:=x) hlf;have q2:rJ x t=.mk t.kind (rJ x t).name t.sort (t.kids.map (bc (suf x))):=rfl;generalize O:AV.agg [.int .i64 t.kind,.str (rJ x t).name,.int .i64 t.sort,.isl ((t.kids.map (bc (suf x))).map enc) y]=zz at e5 e6;simp[go_sem,g2,g4,g6,B,g8,lk,D,e5,e6];refine hR ⟨.tuple [zz,.bool (okL t)],?_,?_⟩
  ·simp[ag,gk,cO,f143,go_sem,g4,aJ,aD e7,aY,a25,s25,<-O]
  rw[<-q1,q2,bV,<-O];exact du rfl rfl s_
theorem IS{t:T}(h:gL t=0):iX t.name=true:=by
 unfold gL at h;split at h
 ·cases h
 split at h
 ·cases h
 rename_i a;simpa using a
theorem Gx(x:UInt8) (t:T):t.size<4000000->cz t=0->az C 143 [enc t,.str ⟨#[x]⟩]=some (.tuple [enc (bc (suf x) t),.bool (okL t)]):=by
 induction t using T.ind with
 |_ t c=>
  intro d b;refine KR x t d ?_ (λy e a=>lH (eF (pQ t b y e)) (.inl a)) λk a=>c k a (by have:=kid_size a;omega) (pQ t b k (mem_walk.2 (.inr ⟨k,a,dD k⟩)))
  have:=IS (eF b);simp only[iX,bI,decide_eq_true_eq]at this;omega
theorem Nt(x:UInt8) (t:T) (hs:t.size<4000000) (hn:cz t=0) (h:H):aj C h (.func 143 []) (some [enc t,.str ⟨#[x]⟩])=some (.tuple [enc (bc (suf x) t),.bool (okL t)],h):=an (args':=[enc t,.str ⟨#[x]⟩]) (by rw[bV t];rfl) (by simp[bF];rfl) s_ (Gx x t hs hn)
def zeT:T:=.mk 0 ⟨#[]⟩ 0 []
theorem T7:fV C.P 41 []=some (.agg zc):=k_
theorem Jx(x:UInt8) (t:T) (hv:bA t=0) (hp:az C 142 [.str ⟨#[x]⟩]=some (.bool true)):az C 110 [enc t,.str ⟨#[x]⟩]=some (.tuple [if okL t=true then enc (bc (suf x) t)else enc zeT,.int .i64 (if okL t=true then 0 else 3)]):=by
 have b:t.size<4000000:=by have:=(bg hv).2.1;omega
 refine bL func110 rfl λR c=>?_
 have d:∀h x,mg C.P h 41 (enc x)=some (.ptr h.length 0,h++[.cells (tc x) .live]):=λh x=>by rw[gx];rfl
 have e:∀(g:H),aJ C.P (.cells (tc t) .live::g) 41 (.ptr 0 0)=some (enc t):=λy=>(ji rfl).2.2.2.2
 have a:=oF t b;rw[hv]at a;have f:∀h,aj C h (.func 142 []) (some [.str ⟨#[x]⟩])=some (.bool true,h):=λh=>an (args':=[.str ⟨#[x]⟩]) rfl rfl s_ hp
 have c3:=Nt x t b (bg hv).1;have m:∀(w u:T),ah C.P [.cells (tc t) .live,.cells zc .live] 41 (.ptr 1 0) (enc w)=some [.cells (tc t) .live,.cells (tc w) .live]:=λw u=>by rw[bV w];simp[ah,s25,zc,tc,terms]
 have i:∀(w:T),ah C.P [.cells (tc t) .live,.cells zc .live,.cells zc .live] 41 (.ptr 2 0) (enc w)=some [.cells (tc t) .live,.cells zc .live,.cells (tc w) .live]:=λw=>by rw[bV w];simp[ah,s25,zc,tc,terms]
 have j:∀(w:T),aJ C.P [.cells (tc t) .live,.cells zc .live,.cells (tc w) .live] 41 (.ptr 2 0)=some (enc w):=λw=>(ji rfl).2.2.2.2
 have s3:∀(w u:T),ah C.P [.cells (tc t) .live,.cells zc .live,.cells (tc u) .live] 41 (.ptr 1 0) (enc w)=some [.cells (tc t) .live,.cells (tc w) .live,.cells (tc u) .live]:=λw u=>by rw[bV w];simp[ah,s25,zc,tc,terms]
 have k:∀(w u:T),aJ C.P [.cells (tc t) .live,.cells (tc w) .live,.cells (tc u) .live] 41 (.ptr 1 0)=some (enc w):=λw u=>(ji rfl).2.2.2.2
 cases q:okL t with
 |true=>rw[q]at c3;simp[go_sem,d,e,mV,am,a,f,c3,i,j,s3];exact c ⟨.tuple [enc (bc (suf x) t),.int .i64 0],by simp[ag,gk,cO,f110,go_sem,k],by simp[q];exact du (by rw[bV];rfl) (by simp[bF];rfl) s_⟩
 |false=>
  rw[q]at c3;have s4:∀(u:T),ah C.P [.cells (tc t) .live,.cells zc .live,.cells (tc u) .live] 41 (.ptr 1 0) (.agg zc)=some [.cells (tc t) .live,.cells zc .live,.cells (tc u) .live]:=λu=>by rw[ah];simp[s25,zc]
  have l:∀(u:T),aJ C.P [.cells (tc t) .live,.cells zc .live,.cells (tc u) .live] 41 (.ptr 1 0)=some (.agg zc):=λu=>by simp[aJ,aY,a25,s25,zc]
  simp[go_sem,d,e,mV,am,a,f,c3,i,s4,T7];exact c ⟨.tuple [.agg zc,.int .i64 3],by simp[ag,gk,cO,f110,go_sem,l],by simp[q];rw[bV];exact du rfl rfl s_⟩
def nE(p:Fa × Ext):LA:=[.int .i64 p.1.kind,.int .i64 p.1.goal,.isl (p.1.terms.map enc) p.2]
def jc(l:List (Fa × Ext)):LA:=l.flatMap nE
theorem tq(p:Fa × Ext) (l:List (Fa × Ext)):jc (p::l)=nE p++jc l:=rfl
theorem vL(l m:List (Fa × Ext)):jc (l++m)=jc l++jc m:=by simp[jc]
theorem vr(l:List (Fa × Ext)):(jc l).length=3*l.length:=by
 induction l with
 |nil=>rfl
 |cons a l b=>rw[tq,List.length_append,b];simp[nE];omega
theorem FE(l:List (Fa × Ext)):iT (jc l)=some (dO (l.map (·.1))):=by
 induction l with
 |nil=>rfl
 |cons a l b=>rw[tq,aM,kr];exact jo rfl b
theorem Cb(l:List (Fa × Ext)):(jc l).all short=true:=by
 induction l with
 |nil=>rfl
 |cons a l b=>rw[tq,eM,b];rfl
theorem Sz{h:H}{r o:Nat}{c1 c2:LA}{a b:AV}{es:LA}{x:Ext}(hr:h[r]?=some (.cells (c1++([a,b,.isl es x]++c2)) .live)) (ho:c1.length=o):aJ C.P h 32 (.ptr r (o+2))=some (.isl es x):=by subst ho;simp[aJ,hr,aY,a23,s23]
theorem SN{h:H}{r o:Nat}{c1 c2:LA}{a b c:AV}{es:LA}{x:Ext}(hr:h[r]?=some (.cells (c1++([a,b,c]++c2)) .live)) (ho:c1.length=o):ah C.P h 32 (.ptr r (o+2)) (.isl es x)=some (h.set r (.cells (c1++([a,b,.isl es x]++c2)) .live)):=by subst ho;simp[ah,hr,s23]
theorem Sy{h:H}{r o:Nat}{c1:LA}{p:Fa × Ext}(hr:h[r]?=some (.cells (c1++nE p) .live)) (ho:c1.length=o):aJ C.P h 34 (.ptr r o)=some (.agg (nE p)):=by subst ho;simp[aJ,hr,aY,a35,s35,nE]
theorem QV(l:List Fa):(l.map aQ).flatMap AV.cells=dO l:=by
 induction l with
 |nil=>rfl
 |cons a l b=>rw[aM,dt,b];rfl
theorem Wc(h:H) (a:Fa) (l:List Fa) (x:Ext) (hl:(a::l).length<=10000):bi C.P true h 29 (.isl [] .full) (.isl ((a::l).map aQ) x)=some (.msl h.length 0 3 (a::l).length none,h++[.cells (dO (a::l)) .live]):=by
 have b:=gS (a::l);have c:jh h 3 (.isl ((a::l).map aQ) x)=some (dO (a::l),(a::l).length):=by simp only[jh,b,if_true,ax];rw[QV]
 simp only[bi,ey,dC,if_false,aT,de,u33,s35,b35,z35,c];rw[if_neg s_,if_neg s_,if_pos ⟨rfl,by simp at hl ⊢;omega⟩];simp
theorem Wb(h:H) (x:Ext):bi C.P true h 29 (.isl [] .full) (.isl [] x)=some (.isl [] .full,h):=by have a:jh h 3 (.isl [] x)=some ([],0):=rfl;simp only[bi,ey,dC,if_false,aT,de,u33,s35,b35,z35,a];rfl
theorem CG(r:LA):∀l:List Fa,io 3 l.length (dO l++r)=l.map aQ
 |[]=>rfl
 |a::l=>by have:=CG r l;rw[kr];simp only[aL,io,cV,cN,lV,qF,lZ,eH,aM,this,aQ,faC]
theorem SO{hf:H}{r:Nat}{pb:List (Fa × Ext)}{p:Fa × Ext}{e:Int}(hid:hf[r]?=some (.cells (jc pb++nE p) .frozen)) (hl:pb.length<=1000):eW hf cM (.tuple [.agg (.msl r 0 3 pb.length none::nE p),.int .i64 e])=some (.tuple [ai ⟨pb.map (·.1),p.1⟩,.int .i64 e]):=by
 have c:=vr pb;have d:iT (jc pb++nE p)=some (dO (pb.map (·.1))++faC p.1):=jo (FE pb) rfl;have a:(jc pb++nE p).all short=true:=by rw[eM,Cb];rfl
 have⟨f,_⟩:=dM (h:=hf) d a 999995 (by simp[nE];omega);have b:=qA (pb.map (·.1));rw[ax]at b;have g:eW hf 999996 (.msl r 0 3 pb.length none)=some (bK (pb.map (·.1))):=by rw[show(999996:Nat)=999995+1 from rfl];simp only[eW,hid,f];rw[if_pos ⟨by rw[List.length_append];omega,o_⟩,eH];have:=CG (faC p.1) (pb.map (·.1));rw[ax]at this;rw[this];rfl
 have l:∀(m:Nat) (z:Int),eW hf (m+1) (.int .i64 z)=some (.int .i64 z):=λ_ _=>rfl
 have n:∀(m:Nat) (es:LA) (y:Ext),eW hf (m+1) (.isl es y)=some (.isl es .unk):=λ_ _ _=>rfl
 have i:fJ hf 999997 (.msl r 0 3 pb.length none::nE p)=some (clC ⟨pb.map (·.1),p.1⟩):=by rw[show(999997:Nat)=999996+1 from rfl];simp only[fJ,g,nE];rfl
 have j:eW hf 999998 (.agg (.msl r 0 3 pb.length none::nE p))=some (ai ⟨pb.map (·.1),p.1⟩):=by rw[show(999998:Nat)=999997+1 from rfl];simp only[eW,i];rfl
 have k:fJ hf (999998+1) [.agg (.msl r 0 3 pb.length none::nE p),.int .i64 e]=some [ai ⟨pb.map (·.1),p.1⟩,.int .i64 e]:=by rw[fJ,j];rfl
 rw[show cM=999998+1+1 from rfl,eW];rw[k]
def yf(c:Cl):Bool:=(aN c).all λf=>f.terms.all okL
def zeC:Cl:=⟨[],⟨0,0,[]⟩⟩
def aAA(x:UInt8) (c:Cl) (r:Nat) (n:Nat) (st:PT) (h:H):Prop:=∃(pre:List (Fa × Ext)) (post:List Fa),n=post.length/\pre.length+post.length=(aN c).length/\aN c=(aN c).take pre.length++post/\pre.map (·.1)=((aN c).take pre.length).map (cq (suf x))/\(((aN c).take pre.length).all λf=>f.terms.all okL)=true/\h[1]?=some (.cells dU .live)/\h[r]?=some (.cells (jc pre++dO post) .live)/\st.get 1=.str ⟨#[x]⟩/\st.get 4=.ptr 1 0/\st.get 7=.msl r 0 3 (aN c).length none/\st.get 8=.int .i64 pre.length
def Z5(x:UInt8) (c:Cl) (r:Nat) (pre:List (Fa × Ext)) (f:Fa) (post:List Fa) (n:Nat) (st:PT) (h:H):Prop:=∃(k:Nat) (v:AV),n=f.terms.length-k/\k<=f.terms.length/\(f.terms.take k).all okL=true/\h[1]?=some (.cells dU .live)/\h[r]?=some (.cells (jc pre++([.int .i64 f.kind,.int .i64 f.goal,terms f.terms]++dO post)) .live)/\st.get 1=.str ⟨#[x]⟩/\st.get 4=.ptr 1 0/\st.get 7=.msl r 0 3 (aN c).length none/\st.get 8=.int .i64 pre.length/\st.get 9=v/\OwnR 41 h v (((f.terms.take k).map (bc (suf x))).map enc)/\st.get 10=.int .i64 k
theorem EM(x:UInt8) (c:Cl) (hc:bY c=0) (hp:az C 142 [.str ⟨#[x]⟩]=some (.bool true)):az C 67 [ai c,.str ⟨#[x]⟩]=some (.tuple [if yf c=true then ai (il (suf x) c)else ai zeC,.int .i64 (if yf c=true then 0 else 3)]):=by
 refine bL func67 rfl λR hR=>?_
 have⟨q9,x9⟩:=gY hc;have y2:=gR hc;have l0:aJ C.P [.cells (clC c) .live,.cells dU .live] 39 (.ptr 0 0)=some (ai c):=jJ rfl;have L:=qB c y2.okF;rw[hc]at L;simp[go_sem,fk,om,am,l0,L];have w':(aN c).length<=13:=by simp[aN];omega
 have w0:0<(aN c).length:=by simp[aN]
 refine ic 4 _ (λst h=>st.get 1=.str ⟨#[x]⟩/\st.get 4=.ptr 1 0/\st.get 7=.msl 9 0 3 (aN c).length none/\h[1]?=some (.cells dU .live)/\h[9]?=some (.cells (dO (aN c)) .live)) (by rw[gM];decide) k_ ?_ ?_
 ·show MX C 67 _ 2 _ 0 _ _ _ _;generalize z':[VObj.cells (clC c) .live,VObj.cells dU .live]++List.replicate _ VObj.void=H0;have j:Pl [.cells (clC c) .live,.cells dU .live] H0 9:=z'▸Pl.mk' _ 9;have B:H0.length=11:=j.len;clear z';have p0:H0[0]?=some (.cells (clC c) .live):=j.get rfl;have p1:H0[1]?=some (.cells dU .live):=j.get rfl;have q0:=jn p0;have q1:=lQ p0;refine gH (parts:=[]) [] (.isl [] .full) rfl rfl (oG _) (j.isV (i:=0) d_) ?_;refine bE (.ptr 0 0) rfl rfl (j.isV (i:=1) d_) (by simp[opN,go_sem]) (oM o_) ?_;refine cR (.ptr 0 0) (bK c.body) g_ q0 (dW s_) (j.isV (i:=2) d_) rfl ?_;rcases c with⟨body,head⟩
  cases body with
  |nil=>
   refine dq (.isl [] .full) (bK []) _ H0 H0 (by simp[go_sem];rfl) g_ (by rw[wrC];exact Wb H0 .unk) o_ rfl (j.isV (i:=3) d_) (og _ _) ?_;refine bE (.ptr 0 1) rfl rfl (j.isV (i:=4) d_) (by simp[opN,go_sem]) (oM o_) ?_;refine cR (.ptr 0 1) (aQ head) g_ q1 (dW s_) (j.isV (i:=5) d_) rfl ?_;refine gH (parts:=[(0,.tmp 24)]) [(0,aQ head)] (.isl [aQ head] .full) (mN g_ rfl) (kH _ _) (eI _ _) (j.isV (i:=6) d_) ?_;refine dq (.isl [] .full) (.isl [aQ head] .full) _ _ _ (by simp[go_sem];rfl) (by simp[go_sem];rfl) (by rw[wrC];exact OC _ _) s_ rfl (j.isV (i:=7) d_) (jK o_) ?_;refine bE (.msl 9 0 3 1 none) rfl rfl ?_ (by simp[opN,go_sem,AV.mv]) (by simp[AV.mv,B]) ?_
   ·rw[aC s_];exact j.isV (i:=8) d_
   refine⟨k_,g_,g_,by simp[go_sem,aN],by rw[aC s_];exact p1,?_⟩;rw[lI,aD o_];rfl
  |cons a l=>
   have y3:=Wc H0 a l .unk (by simp at q9 ⊢;omega);refine dq (.isl [] .full) (bK (a::l)) _ _ _ (by simp[go_sem];rfl) g_ (by rw[wrC];exact y3) s_ rfl (j.isV (i:=3) d_) (jK o_) ?_;rw[lI,show(AV.msl H0.length 0 3 (a::l).length none).mv H0.length (2+3)=.msl 5 0 3 (a::l).length none by simp[AV.mv]];obtain⟨H1,z⟩:∃g,g=H0.set (2+3) (.cells (dO (a::l)) .live):=⟨_,rfl⟩
   have y4:H1[5]?=some (.cells (dO (a::l)) .live):=by rw[z];simp[B]
   have Y:H1.length=11:=by rw[z];simp[B]
   have hv:∀i,i<9->i≠3->dE H1[2+i]?=true:=λi hi hn=>by rw[z];exact dg (j.isV hi) o_
   have y5:H1[0]?=some (.cells (clC ⟨a::l,head⟩) .live):=by rw[z,aC s_];exact p0
   have y6:H1[1]?=some (.cells dU .live):=by rw[z,aC s_];exact p1
   have y7:=lQ y5;rw[<-z];refine bE (.ptr 0 1) rfl rfl (hv 4 d_ d_) (by simp[opN,go_sem]) (oM o_) ?_;refine cR (.ptr 0 1) (aQ head) g_ y7 (dW s_) (hv 5 d_ d_) rfl ?_;refine gH (parts:=[(0,.tmp 24)]) [(0,aQ head)] (.isl [aQ head] .full) (mN g_ rfl) (kH _ _) (eI _ _) (hv 6 d_ d_) ?_;refine dq (.msl 5 0 3 (a::l).length none) (.isl [aQ head] .full) _ _ _ g_ (by simp[go_sem];rfl) (by rw[wrC];exact OB _ y4 (by simp at q9 ⊢;omega)) s_ (by simp[cF,gZ]) (hv 7 d_ d_) (td o_ s_) ?_;refine bE (.msl 9 0 3 (l.length+2) none) rfl rfl ?_ (by simp[opN,go_sem,AV.mv]) (by simp[AV.mv,Y]) ?_
   ·rw[aC s_,aC s_];exact hv 8 d_ d_
   refine⟨by simp[it,cF,gZ];kernel_rfl,g_,g_,by simp[go_sem,aN],by rw[aC s_,aC s_];exact y6,?_⟩;rw[lI,aD (by simp;omega)];rfl
 rintro st h ⟨g1,S,K,s,A⟩;simp[go_sem];refine bX (aAA x c 9) (aN c).length ⟨[],aN c,rfl,s_,s_,rfl,rfl,s,A,g_,g_,g_,g_⟩ ?_;clear g1 S K s A l0 L;clear h st;rintro n st h ⟨b,d,rfl,t,Z,M,z0,s,A,g1,S,K,g8⟩;have q':fG C.P 29 (.msl 9 0 3 (aN c).length none)=some (.int .i64 (aN c).length):=by simp[fG,u33]
 have z1:=vr b;have z2:1<h.length:=(aB.1 s).1;have z3:9<h.length:=(aB.1 A).1;cases d with
 |cons f d=>
  simp only[aL]at t;have z4:b.length<(aN c).length:=o_;have x7:(b.length:Int)<(aN c).length:=o_;have D:aZ C.P 29 (.msl 9 0 3 (aN c).length none) (.int .i64 b.length)=some (.ptr 9 (3*b.length)):=by simp[aZ,u33,s35,z4,hJ]
  have w2:IntKind.i64.wrap ((b.length:Int)+1)=((b.length+1:Nat):Int):=by rw[ay o_];omega
  have z5:f∈aN c:=by rw[Z];simp
  have y8:=(eS ((dH hc).2 f z5))
  have q2:(aN c).take (b.length+1)=(aN c).take b.length++[f]:=by
   have h1:((aN c).take b.length).length=b.length:=by simp;omega
   conv=>lhs;rw[Z]
   rw[List.take_append,bJ o_,h1];simp
  have z6:aN c=(aN c).take (b.length+1)++d:=by rw[q2];simp;exact Z
  rw[kr]at A;have y9:∀ {h:H},h[9]?=some (.cells (jc b++([.int .i64 f.kind,.int .i64 f.goal,terms f.terms]++dO d)) .live)->aJ C.P h 32 (.ptr 9 (3*b.length+2))=some (terms f.terms):=λhr=>Sz hr z1
  simp[go_sem,K,g8,q',z4];refine bX (Z5 x c 9 b f d) f.terms.length ⟨0,.isl [] (.tok h.length),rfl,aO _,rfl,by rw[aH z2];exact s,by rw[aH z3];exact A,g_,g_,g_,g_,g_,.inr ⟨h.length,rfl,s_⟩,g_⟩ ?_;clear s A g1 S K g8 z2 z3;clear h st;rintro n st h ⟨k,v,rfl,hk,E,s,A,g1,S,K,g8,g9,go,q3⟩;have lt:=y9 A;have F:=dX f.terms;by_cases G:k<f.terms.length
  ·have U:(k:Int)<f.terms.length:=o_;have q4:=dh f.terms k G;have w3:=wS k o_;have z7:=y8.2.2 _ (aG G);have z8:f.terms[k]∈f.terms:=aG G;have I:f.terms.take (k+1)=f.terms.take k++[f.terms[k]]:=by rw[<-aW G]
   have V:=Jx x f.terms[k] z7 hp;generalize f.terms[k]=u at q4 z7 I V z8;have L:∀h,aj C h (.func 110 []) (some [enc u,.str ⟨#[x]⟩])=some (.tuple [if okL u=true then enc (bc (suf x) u)else enc zeT,.int .i64 (if okL u=true then 0 else 3)],h):=λh=>an (args':=[enc u,.str ⟨#[x]⟩]) (by rw[bV u];rfl) (by simp[bF];rfl) s_ V
   cases q:okL u with
   |true=>
    simp only[q,if_true]at L;have q5:(f.terms.take (k+1)).map (bc (suf x))=(f.terms.take k).map (bc (suf x))++[bc (suf x) u]:=by rw[I,List.map_append];rfl
    generalize bc (suf x) u=w at L q5;generalize q6:(f.terms.take k).map (bc (suf x))=ts at go q5;have w4:ts.length<=f.terms.length:=by rw[<-q6];simp;omega
    have s1:=qM w h;change ah C.P (h++[.cells zc .live]) 41 _ _=_ at s1;obtain⟨h2,N⟩:∃g,g=h++[VObj.cells (enc w).cells .live]:=⟨_,rfl⟩
    have up:∀ {i:Nat}{o:VObj},h[i]?=some o->h2[i]?=some o:=fun {i o} hi=>by rw[N,aH (aB.1 hi).1];exact hi
    have n1:h2[h.length]?=some (.cells (enc w).cells .live):=by rw[N];simp
    have lw:=sg w n1;rw[<-N]at s1;have O:OwnR 41 h2 v (ts.map enc):=by rw[N];exact go.keep (Keep.append _ _ none) s_
    have Q:=up s;have z9:=up A;have⟨y,hy⟩:=O.isl;have⟨v',h',ha,hw,y',w5⟩:=jN (ys:=[w]) (x:=.full) O (by simp;omega);rw[<-q5]at hw;rw[aM,bM]at ha;rw[hy]at ha g9;simp[go_sem,g1,K,g8,g9,q3,D,lt,F,U,q4,ee,L,mV,am,s1,lw,fO,ha,dZ,-Int.natCast_add,w3];exact⟨f.terms.length-(k+1),o_,k+1,v',rfl,G,by rw[I,eM,E];simp[q],y'.get Q (bn O Q),y'.get z9 (bn O z9),g_,g_,g_,g_,g_,hw,g_⟩
   |false=>
    simp only[q,aT,if_false]at L;have s1:=qM zeT h;change ah C.P (h++[.cells zc .live]) 41 _ _=_ at s1;have q7:1<(h++[VObj.cells (enc zeT).cells .live]).length:=by have:=(aB.1 s).1;simp;omega
    have Q:(h++[VObj.cells (enc zeT).cells .live])[1]?=some (.cells dU .live):=by rw[aH (aB.1 s).1];exact s
    have e3:ah C.P (h++[VObj.cells (enc zeT).cells .live]) 39 (.ptr 1 0) (.agg dU)=some ((h++[VObj.cells (enc zeT).cells .live]).set 1 (.cells dU .live)):=by simp only[ah,Q];simp[s37,dU]
    have l4:aJ C.P ((h++[VObj.cells (enc zeT).cells .live]).set 1 (.cells dU .live)) 39 (.ptr 1 0)=some (.agg dU):=by simp only[aJ,aD q7];simp[aY,a37,s37,dU]
    have y0:yf c=false:=by unfold yf;exact kT.2 ⟨f,z5,by simp only[Bool.not_eq_true];exact kT.2 ⟨u,z8,by simp[q]⟩⟩
    simp[go_sem,g1,S,K,g8,q3,D,lt,F,U,q4,ee,L,mV,am,s1,uA,e3];exact hR ⟨.tuple [.agg dU,.int .i64 3],by simp[ag,gk,cO,f67,go_sem,S,l4],by rw[y0];exact du rfl rfl s_⟩
  have:k=f.terms.length:=o_;subst this;rw[ak]at go E;generalize q6:f.terms.map (bc (suf x))=ts at go;obtain⟨y,rfl⟩:=go.isl;have e3:ah C.P h 32 (.ptr 9 (3*b.length+2)) (.isl (ts.map enc) y)=some (h.set 9 (.cells (jc b++([.int .i64 f.kind,.int .i64 f.goal,.isl (ts.map enc) y]++dO d)) .live)):=SN A z1;have x':=(aB.1 A).1;simp[go_sem,K,g8,g9,q3,D,lt,F,e3,-Int.natCast_add,w2];refine⟨d.length,s_,b++[(cq (suf x) f,y)],d,rfl,by simp;omega,by rw[List.length_append];exact z6,?_,?_,by rw[aC o_];exact s,?_,g_,g_,g_,g_⟩
  ·rw[List.length_append,eK,q2,List.map_append,List.map_append,M];rfl
  ·rw[List.length_append,eK,q2,eM,z0];simpa using E
  rw[aD x',vL];simp only[jc,nE,cq,q6,dt,lN,br,List.append_assoc];rfl
 |nil=>
  simp only[bB,dm]at t;have X:yf c=true:=by unfold yf;rw[<-z0,t,ak]
  rw[t,ak]at M;have x8:¬b.length<(aN c).length:=o_;obtain⟨pb,J,e1,e2,e3⟩:∃pb J,b=pb++J/\pb.map (·.1)=c.body.map (cq (suf x))/\J.map (·.1)=[cq (suf x) c.head]:=by rw[aN,List.map_append]at M;have⟨u,v,h1,h2,h3⟩:=List.map_eq_append_iff.1 M;exact⟨u,v,h1,h2,h3⟩
  obtain⟨p,rfl⟩:∃p,J=[p]:=by
   cases J with
   |nil=>simp at e3
   |cons p r=>cases r with
    |nil=>exact⟨p,rfl⟩
    |cons _ _=>simp at e3
  have ep:p.1=cq (suf x) c.head:=by simpa using e3
  have q8:pb.length=c.body.length:=by have:=congrArg List.length e2;simpa using this
  have x0:(aN c).length=c.body.length+1:=by simp[aN]
  subst e1;have y1:h[9]?=some (.cells (jc pb++nE p) .live):=by rw[A,vL];simp[jc,dO]
  have x1:=vr pb;have x2:=Sy y1 (by rw[x1,q8]);have w1:IntKind.i64.wrap (((c.body.length+1:Nat):Int)-1)=(c.body.length:Int):=by rw[ay o_];omega
  have D:aZ C.P 29 (.msl 9 0 3 (c.body.length+1) none) (.int .i64 c.body.length)=some (.ptr 9 (3*c.body.length)):=by simp[aZ,u33,s35,hJ];omega
  have x3:fF C.P 29 (.msl 9 0 3 (c.body.length+1) none) none (some (.int .i64 c.body.length)) none=some (.msl 9 0 3 c.body.length none):=by have x4:(c.body.length:Int)<=c.body.length+1:=o_;simp[fF,u33,s35,mB,qC,x4]
  have bl:fV C.P 39 [(0,.msl 9 0 3 c.body.length none),(1,.agg (nE p))]=some (.agg (.msl 9 0 3 c.body.length none::nE p)):=by
   have e:∀(m:Nat) (k g:Int) (es:LA) (y:Ext),fV C.P 39 [(0,.msl 9 0 3 m none),(1,.agg [.int .i64 k,.int .i64 g,.isl es y])]=some (.agg [.msl 9 0 3 m none,.int .i64 k,.int .i64 g,.isl es y]):=λm k g es y=>k_
   exact e _ _ _ _ _
  have q7:=(aB.1 s).1;have e6:ah C.P h 39 (.ptr 1 0) (.agg (.msl 9 0 3 c.body.length none::nE p))=some (h.set 1 (.cells (.msl 9 0 3 c.body.length none::nE p) .live)):=by simp[ah,s,s37,dU,nE]
  have l6:aJ C.P (h.set 1 (.cells (.msl 9 0 3 c.body.length none::nE p) .live)) 39 (.ptr 1 0)=some (.agg (.msl 9 0 3 c.body.length none::nE p)):=by simp only[aJ,aD q7];simp[aY,a37,s37,nE]
  rw[x0]at K q';have x5:st.get 8=.int .i64 ((c.body.length+1:Nat):Int):=by rw[g8];congr 1;simp[q8]
  simp[go_sem,S,K,x5,q',D,x3,x2,w1,bl,e6,show au (AV.agg (nE p))=true from rfl,show au (AV.msl 9 0 3 c.body.length none)=true from rfl,-Int.natCast_add];refine hR ⟨.tuple [.agg (.msl 9 0 3 c.body.length none::nE p),.int .i64 0],by simp[ag,gk,cO,f67,go_sem,S,l6],?_⟩;rw[if_pos X,if_pos X];have x6:(bo (h.set 1 (.cells (.msl 9 0 3 c.body.length none::nE p) .live)))[9]?=some (.cells (jc pb++nE p) .frozen):=nD _ 9 (by rw[aC o_];exact y1);have:=SO (e:=0) x6 o_;rw[q8,e2,ep]at this;exact this
theorem LZ:∀(n:Nat) (s:ByteArray) (k:Nat),pe s k n=true↔∀j,j<n->rG (eU s (k+j))=true:=by
 intro n;induction n with
 |zero=>intro s k;simp[pe]
 |succ n a=>
  intro s k;rw[pe,bI,a];constructor
  ·rintro⟨b,c⟩ j d;rcases mS j with rfl|e
   ·exact b
   have:=c (j-1) o_;rwa[show k+1+(j-1)=k+j by omega]at this
  intro h;exact⟨h 0 o_,λj d=>by have:=h (j+1) o_;rwa[show k+(j+1)=k+1+j by omega]at this⟩
theorem KK{s:ByteArray}{x:UInt8}(h:iX s=true) (hs:s.size+1<=24) (hx:rG x.toNat=true):iX ⟨s.data.push x⟩=true:=by
 simp only[iX,bI,decide_eq_true_eq]at h ⊢;have⟨⟨⟨g,i⟩,e⟩,c⟩:=h;have b:(⟨s.data.push x⟩:ByteArray).size=s.size+1:=Array.size_push _;have d:∀j,j<s.size->eU ⟨s.data.push x⟩ j=eU s j:=λj a=>by
  unfold eU;rw[dif_pos o_,dif_pos a];congr 1
  exact Array.getElem_push_lt a
 have f:eU ⟨s.data.push x⟩ s.size=x.toNat:=by
  unfold eU;rw[dif_pos o_];congr 1
  exact Array.getElem_push_eq
 refine⟨⟨⟨o_,o_⟩,by rw[d 0 o_];exact e⟩,?_⟩;rw[LZ]at c ⊢;intro j a;rw[b]at a;rw[bu];rcases fj j s.size with h|h
 ·rw[d j h];have:=c j h;rwa[bu]at this
 rw[show j=s.size by omega,f];exact hx
theorem SK{x:UInt8}(hx:rG x.toNat=true):∀t:T,cz t=0->okL t=true->(bc (suf x) t).size=t.size/\(bc (suf x) t).depth=t.depth/\cz (bc (suf x) t)=0:=by
 refine T.ind λt n h d=>?_
 have c:=eF h;rw[MJ,bI]at d;rw[qb];by_cases a:t.kind=1
 ·rw[if_pos a];have b:=lH c (.inl a);have e:t.name.size+1<=24:=by simpa[a]using d.1
  refine⟨?_,?_,?_⟩
  ·rw[size_kids t,b];rfl
  ·rw[lz t,b];rfl
  rw[fi];refine thn_zero.2 ⟨?_,rfl⟩;have f:=IS c;unfold gL at c ⊢;have m:kz t=false:=by
   by_cases q:kz t=true
   ·rw[if_pos q]at c;cases c
   simpa using q
  have g:kz (suf x t)=false:=by rw[<-m];exact oH a.symm rfl (by rw[b];rfl)
  rw[g,if_neg s_,if_neg,if_neg]
  ·show ¬8<([]:Lq).length;simp
  show ¬iX ⟨t.name.data.push x⟩=false;rw[KK f e hx];simp
 rw[if_neg a];rw[fi]at h;have⟨m,g⟩:=thn_zero.1 h;have o:=jH g;have i:=av.1 d.2;have j:=λk a=>n k a (o k a) (i k a)
 refine⟨?_,?_,?_⟩
 ·rw[size_kids t,T.size,uL λk a=>(j k a).1]
 ·rw[lz t,T.depth,sM λk a=>(j k a).2.1]
 rw[fi];refine thn_zero.2 ⟨?_,qR λk a=>?_⟩
 ·have p:kz (.mk t.kind t.name t.sort (t.kids.map (bc (suf x))))=kz t:=oH rfl rfl (by simp[T.kids]);unfold gL;rw[p];simp only[T.name,T.kids,ax];exact c
 obtain⟨r,l,rfl⟩:=ae.1 a;exact(j r l).2.2
theorem uJ{x:UInt8}(hx:rG x.toNat=true){t:T}(h:bA t=0) (ho:okL t=true):bA (bc (suf x) t)=0/\(bc (suf x) t).size=t.size:=by have⟨d,e,f⟩:=bg h;have⟨a,b,c⟩:=SK hx t d ho;refine⟨?_,a⟩;unfold bA;rw[c,if_neg o_];rfl
end Go.VZ
