/- A part of the proof. -/
import Derived.Test.YtclakfnjdnibeaaGreatDoorSe
set_option maxHeartbeats 8000000
set_option maxRecDepth 16000
namespace Go.VZ
open Go Go.V Go.Proofs Tryz TL
def DrS(s:Lq) (t:T):Prop:=Dr tP (λx=>x∈s) t
structure Marks (u s:Lq) (kn:List Bool):Prop where
 len:kn.length=u.length
 dr:∀t∈u,knT u kn t=true->DrS s t
def mB(kn:List Bool):Nat:=(kn.filter λb=>!b).length
theorem zF:∀ {kn:List Bool}{i:Nat},kn[i]?=some false->mB (kn.set i true)+1=mB kn
 |[],i,h=>by simp at h
 |b::kn,0,h=>by simp at h;subst h;simp[mB]
 |b::kn,i+1,h=>by have:=zF (kn:=kn) (i:=i) (by simpa using h);rw[List.set_cons_succ];cases b<;>simp[mB]at this ⊢<;>omega
theorem ua{kn:List Bool}{i:Nat}(h:kn[i]?=some true):kn.set i true=kn:=by
 apply cV;intro j;rw[eS];split
 ·rename_i e;subst e;have⟨a,b⟩:=aB.1 h;simp[a,b]
 rfl
theorem uy{u:Lq}{kn:List Bool}(hl:kn.length=u.length){t x:T}(ht:t∈u) (hx:x∈u):knT u (kn.set (ixU u t) true) x=(decide (x=t)||knT u kn x):=by
 have c:=sF ht;unfold knT;rw[bK,bK,eS];by_cases e:x=t
 ·subst e;simp[hl,c]
 have:ixU u t≠ixU u x:=λq=>by have a:=Bs ht;have b:=Bs hx;rw[q,b]at a;simp only[aA]at a;exact e a
 rw[if_neg this];simp[e]
theorem Bq{u:Lq}{kn:List Bool}(hl:kn.length=u.length){t:T}(ht:t∈u):kn[ixU u t]?=some (knT u kn t):=by have a:=sF ht;unfold knT;rw[bK,aC o_];rfl
theorem Marks.set{u s:Lq}{kn:List Bool}(m:Marks u s kn){t:T}(ht:t∈u) (hd:DrS s t):Marks u s (kn.set (ixU u t) true):=
 ⟨by simp[m.len],λx a h=>by
  rw[uy m.len ht a]at h;simp only[bZ,decide_eq_true_eq]at h;rcases h with rfl|h
  ·exact hd
  exact m.dr x a h⟩
def vz(u:Lq) (kn:List Bool) (t:T):Prop:=(knT u kn t=false->pf t=false/\oZ u kn t=false)/\(knT u kn t=true->∀v∈iS u kn t,knT u kn v=true)
theorem Gr{u:Lq}{kn:List Bool}(hl:kn.length=u.length){t:T}(h:knT u kn t=true):t∈u:=by
 by_cases a:t∈u
 ·exact a
 exfalso;have:ixU u t=u.length:=List.findIdx_eq_length.2 λx b=>by simp only[decide_eq_false_iff_not];intro e;rw[cmp_zero.1 e]at b;exact a b
 unfold knT at h;rw[bK,bo o_]at h;simp at h
theorem MM{u s:Lq}{kn:List Bool}(m:Marks u s kn){t:T}(h:oZ u kn t=true):DrS s t:=by simp only[oZ,aq,bM]at h;exact .bld h.1 λk a=>m.dr k (Gr m.len (h.2 k a)) (h.2 k a)
theorem Ak{u s:Lq}{kn:List Bool}(m:Marks u s kn){t v:T}(ht:t∈u) (hk:knT u kn t=true) (h:v∈iS u kn t):DrS s v:=
 Ke h (m.dr t ht hk) λk hk=>m.dr k (Gr m.len hk) hk
theorem Ia{u s:Lq}{kn:List Bool}(m:Marks u s kn) (hn:u.Nodup) (hu:∀t∈u,∀k∈t.kids,k∈u) (hs:∀t∈s,t∈u/\knT u kn t=true) (hc:∀t∈u,vz u kn t){t:T}(ht:t∈u):knT u kn t=true↔DrS s t:=by refine⟨m.dr t ht,λh=>?_⟩;refine(su hn m.len ht).2 (Ih hu (λx a=>(su hn m.len (hs x a).1).1 (hs x a).2) (λx a=>Fs hn m.len hu a (hc x a).1 (hc x a).2) h ht)
def sE(u:Lq) (t:T):Int:=match qp t with
 |some k=>ixU u k
 |none=>-1
def jZ(u:Lq) (t:T):AV:=.agg [.isl (t.kids.map λk=>.int .i64 (ixU u k)) .unk,.int .i64 (sE u t)]
def ID(u:Lq):AV:=.isl (u.map (jZ u)) .unk
theorem py{ins:T × T->Lb->Lb}:∀ {n m:Nat}{ps s:Lb}{r:Lb × Int},n<=m->jY ins n ps s=some r->jY ins m ps s=some r
 |_,_,[],s,r,_,h=>by simpa[jY]using h
 |0,_,p::ps,s,r,_,h=>by simp[jY]at h
 |n+1,m,(a,b)::ps,s,r,hm,h=>by
  obtain⟨m,rfl⟩:∃k,m=k+1:=⟨m-1,o_⟩
  have hm:n<=m:=o_;rw[jY]at h ⊢;split at h
  ·rename_i e;rw[if_pos e];exact py hm h
  rename_i e;rw[if_neg e];split at h
  ·rename_i c;rw[if_pos c];exact py hm h
  rename_i c;rw[if_neg c];split at h
  ·exact h
  split at h
  ·rename_i d;rw[if_pos d];exact py hm h
  rename_i d;rw[if_neg d];exact h
open Classical in
noncomputable def Ed(ps:Lb):Lb × Int:=if h:∃n r,jY jg n ps []=some r then Classical.choose (Classical.choose_spec h)else([],0)
theorem Hq{n:Nat}{ps:Lb}{r:Lb × Int}(h:jY jg n ps []=some r):Ed ps=r:=by
 have c:∃n r,jY jg n ps []=some r:=⟨n,r,h⟩
 unfold Ed;rw[dif_pos c];have d:=Classical.choose_spec (Classical.choose_spec c);have a:=py (eY n (Classical.choose c)) h;have b:=py (eJ n (Classical.choose c)) d;rw[a]at b;exact(Option.some.inj b).symm
noncomputable def fR(t u:T):Lb × Int:=if bc t≠0 then([],bc t)else if bc u≠0 then([],bc u)else Ed [(t,u)]
structure UniOk (s:Lb):Prop where
 val:∀b∈s,bc b.1=0/\bc b.2=0/\b.1.kind=1
 dup:(s.map (·.1)).Nodup
 len:s.length<=800
theorem yH{t u:T}(ht:bc t=0) (hu:bc u=0):ay C 296 [binds [(t,u)]]=some (.tuple [binds (fR t u).1,.int .i64 (fR t u).2])/\((fR t u).2=0->UniOk (fR t u).1) /\
  (∀bad,nf bad t->nf bad u->(fR t u).2=0->∀b∈(fR t u).1,nf bad b.2)/\∃U K n rE,InvU U K [(t,u)] []/\jY N3 n [(t,u)] []=some (rE,(fR t u).2)/\rE.Perm (fR t u).1/\wW (fR t u).1:=by
 have m:∀x∈[t],bc x=0:=by simpa using ht
 have o:∀x∈[u],bc x=0:=by simpa using hu
 have p:∀x∈[t]++[u],bc x=0:=λx q=>(aZ.1 q).elim (m x) (o x)
 have j:=HZ p;have f:=FF m o;rw[show [t].zip [u]=[(t,u)]from rfl]at f;have⟨n,⟨rE,e⟩,k⟩:=Xs _ _ _ _ f (aT _) (aT _);have⟨i,a,g,r⟩:=ub n _ _ _ rE e (.refl _) .nil k;have v:=KF (varsU ([t]++[u])) ([t].length+400*(varsU ([t]++[u])).length) (by simp at j ⊢;omega) (by simp at j ⊢;omega) n _ i e f a;have w:fR t u=(i,e):=by unfold fR;rw[if_neg (by simp[ht]),if_neg (by simp[hu]),Hq a]
 rw[w];refine⟨v,λl=>?_,λbad y z l b d=>?_,_,_,n,rE,f,k,g,r⟩
 ·dsimp only at l;subst l;rcases xY n _ _ rE f k with e|e
  ·subst e;have:i=[]:=by simpa using g.length_eq.symm
   subst this;exact⟨s_,s_,s_⟩
  refine⟨λb d=>?_,?_,?_⟩
  ·have d:=g.mem_iff.2 d;exact⟨(e.bval b d).1,(e.bval b d).2,(e.gone b d).1⟩
  ·refine(g.map _).nodup_iff.1 ?_;rw[List.Nodup,eR];exact e.diff
  have:=e.slen;rw[<-g.length_eq];simp at j this ⊢;omega
 exact BU (λb s c h=>(aZ.1 ((lD b s).mem_iff.1 h)).elim .inr λh=>.inl (by simpa using h)) n [(t,u)] [] i e (by simpa using⟨y,z⟩) s_ a b d
end Go.VZ
namespace Go.VZ
open Go Go.V Go.Proofs Tryz TL
def kZ(t:T):Int:=if dW t≠0 then dW t else if fI t≠[]then 13 else 0
def fJ:Lq->Int
 |[]=>0
 |t::l=>if kZ t≠0 then kZ t else fJ l
def ft(l:Lq):Lq:=mA (l.flatMap (cU bS))
def xT(k:Lq) (t:T):Int:=if 60<k.length then 3 else if fJ (k++[t])≠0 then fJ (k++[t])else if 200<(ft (k++[t])).length then 3 else 0
open Classical in
noncomputable def rU(k:Lq) (t:T):Bool × Int:=if xT k t≠0 then(false,xT k t)else(decide (DrS k t),0)
theorem tY:∀ {l:Lq},fJ l=0->∀t∈l,dW t=0/\fI t=[]
 |[],_,t,ht=>by simp at ht
 |a::l,h,t,ht=>by
  rw[fJ]at h;split at h
  ·rename_i e;exact absurd h e
  rename_i e;rcases ak.1 ht with rfl|ht
  ·have e:kZ t=0:=by simpa using e
   unfold kZ at e;split at e
   ·rename_i q;exact absurd e q
   split at e
   ·cases e
   rename_i b c;exact⟨by simpa using b,by simpa using c⟩
  exact tY h t ht
def AM(s:Lb) (t:T):Int:=(fB s t).2
def lf(s:Lb):Lq->Int
 |[]=>0
 |t::l=>if AM s t≠0 then AM s t else lf s l
def tT(s:Lb) (d:Dm):Int:=if lf s d.knows≠0 then lf s d.knows else AM s d.term
def yy(s:Lb):List Dm->Int
 |[]=>0
 |d::l=>if tT s d≠0 then tT s d else yy s l
noncomputable def ph(s:Lb):List Dm->Bool × Int
 |[]=>(true,0)
 |d::l=>if tT s d≠0 then(false,tT s d)else if(rU (iR s d).knows (iR s d).term).2≠0\/(rU (iR s d).knows (iR s d).term).1=false then(false,(rU (iR s d).knows (iR s d).term).2)else ph s l
def BR(l:List Dm) (s:Lb):Int:=if kJ s≠0 then kJ s else if((cR (bE l)).all λv=>s.any λb=>decide (b.1.cmp v=0))=false then 13 else if(s.all λb=>decide (fI b.2=[]))=false then 13 else if(s.all λb=>decide (dW b.2=0))=false then 10 else 0
noncomputable def nK(l:List Dm) (s:Lb):Bool × Int:=if bp l≠0 then(false,bp l)else if BR l s≠0 then(false,BR l s)else ph s l
theorem wp{s:Lb}:∀ {l:List Dm},(∀d∈l,DrS (iR s d).knows (iR s d).term)->(ph s l).2=0->(ph s l).1=true
 |[],_,_=>rfl
 |d::l,h,e=>by
  rw[ph]at e ⊢;split at e
  ·rename_i q;exact absurd e q
  rename_i q;rw[if_neg q];split at e
  ·rename_i q2;exfalso;have e:(rU (iR s d).knows (iR s d).term).2=0:=e;rcases q2 with q2|q2
   ·exact q2 e
   unfold rU at e q2;split at e
   ·rename_i a;exact absurd e a
   rename_i a;rw[if_neg a]at q2;simp only[decide_eq_false_iff_not]at q2;exact q2 (h d s_)
  rename_i q2;rw[if_neg q2];exact wp (λx b=>h x (by simp[b])) e
theorem DR{l:List Dm}{s:Lb}(h:∀d∈l,DrS (iR s d).knows (iR s d).term) (e:(nK l s).2=0):(nK l s).1=true:=by
 unfold nK at e ⊢;split at e
 ·rename_i q;exact absurd e q
 rename_i q;rw[if_neg q];split at e
 ·rename_i a;exact absurd e a
 rename_i a;rw[if_neg a];exact wp h e
end Go.VZ
namespace Go.VZ
open Go Go.V Go.Proofs Tryz TL
def xP(b:ByteArray):Bool:=decide (3<b.size)&&decide (b.data.toList.take 3=[118,35,35])
def fh(t:T):Lq:=mA ((cU bS t).filter (isK 2))
def ji(ts:Lq):List ByteArray:=ts.flatMap λt=>((fh t).filter λa=>xP a.name).map T.name
def inN(b:ByteArray) (l:List ByteArray):Bool:=l.any λx=>decide (x=b)
theorem inN_iff{b:ByteArray}{l:List ByteArray}:inN b l=true↔b∈l:=by simp[inN]
def fb(used:List ByteArray):Nat->Nat->Nat->List Nat
 |0,_,_=>[]
 |_+1,_,0=>[]
 |f+1,n,c+1=>if inN (gx n).name used=true then fb used f (n+1) (c+1)else n::fb used f (n+1) c
theorem LV{n m:Nat}(h:(gx n).name=(gx m).name):n=m:=by
 refine Gz ?_;have:∀k,gx k=.mk 2 (gx k).name 0 []:=λ_=>rfl
 rw[this n,this m,h]
theorem pW{u v:List ByteArray}:∀ {f n c:Nat},(∀m,n<=m->((gx m).name∈u↔(gx m).name∈v))->fb u f n c=fb v f n c
 |0,_,_,_=>rfl
 |_+1,_,0,_=>rfl
 |f+1,n,c+1,h=>by
  rw[fb,fb];have h':∀m,n+1<=m->((gx m).name∈u↔(gx m).name∈v):=λm a=>h m o_
  by_cases e:(gx n).name∈u
  ·rw[if_pos (inN_iff.2 e),if_pos (inN_iff.2 ((h n (aT _)).1 e))];exact pW h'
  rw[if_neg λk=>e (inN_iff.1 k),if_neg λk=>e ((h n (aT _)).2 (inN_iff.1 k)),pW h']
theorem oo:∀(f:Nat) (used:List ByteArray) (n c:Nat),c+used.length<f->(fb used f n c).length=c
 |0,_,_,_,h=>o_
 |_+1,_,_,0,_=>rfl
 |f+1,used,n,c+1,h=>by
  rw[fb];by_cases e:(gx n).name∈used
  ·rw[if_pos (inN_iff.2 e)];have e2:fb used f (n+1) (c+1)=fb (used.filter λb=>decide (b≠(gx n).name)) f (n+1) (c+1):=pW λm a=>by
    have:(gx m).name≠(gx n).name:=λq=>by have:=LV q;omega
    simp[this]
   rw[e2];refine oo f _ (n+1) (c+1) ?_;have:(used.filter λb=>decide (b≠(gx n).name)).length<used.length:=by refine List.length_filter_lt_length_iff_exists.2 ⟨_,e,s_⟩
   omega
  rw[if_neg λk=>e (inN_iff.1 k),aF,oo f used (n+1) c o_]
theorem qV{used:List ByteArray}:∀ {f n c:Nat},(∀m∈fb used f n c,n<=m/\(gx m).name∉used)/\(fb used f n c).Nodup
 |0,_,_=>by simp[fb]
 |_+1,_,0=>by simp[fb]
 |f+1,n,c+1=>by
  rw[fb];by_cases e:(gx n).name∈used
  ·rw[if_pos (inN_iff.2 e)];have:=qV (used:=used) (f:=f) (n:=n+1) (c:=c+1);exact⟨λm a=>⟨by have:=(this.1 m a).1;omega,(this.1 m a).2⟩,this.2⟩
  rw[if_neg λk=>e (inN_iff.1 k)];have:=qV (used:=used) (f:=f) (n:=n+1) (c:=c);refine⟨λm a=>?_,ke.2 ⟨λa=>?_,this.2⟩⟩
  ·rcases ak.1 a with rfl|a
   ·exact⟨aT _,e⟩
   exact⟨by have:=(this.1 m a).1;omega,(this.1 m a).2⟩
  have:=(this.1 n a).1;omega
def lM(ts:Lq) (c:Nat):List Nat:=fb (ji ts) (c+(ji ts).length+1) 0 c
theorem LW(n:Nat):xP (gx n).name=true:=by
 have h:(gx n).name=⟨(118::35::35::lH n).toArray⟩:=rfl;have a:0<(lH n).length:=gO.2 (zC n).1;rw[h];simp only[xP,ByteArray.size,aq,decide_eq_true_eq];refine⟨?_,?_⟩
 ·simp;omega
 simp
theorem AT(ts:Lq) (c:Nat):xr ts (lM ts c)/\(lM ts c).length=c:=by
 have h:=qV (used:=ji ts) (f:=c+(ji ts).length+1) (n:=0) (c:=c);refine⟨⟨h.2,λn a t b y d k e=>(h.1 n a).2 ?_⟩,oo _ _ _ _ o_⟩;rw[<-e];refine bh.2 ⟨t,b,bA.2 ⟨y,bm.2 ⟨?_,?_⟩,rfl⟩⟩
 ·exact mem_setS.2 (bm.2 ⟨d,by simp[isK,k]⟩)
 rw[e];exact LW n
def ot(l:List Dm):Lb:=iq (cR (bE l)) (lM (bE l) (cR (bE l)).length)
def J1(l:List Dm) (i:Nat) (d:Dm):Lq:=d.knows.map (cE (ot l))++((l.take i).filter λe=>decide (e.term.kind=1)).map λe=>cE (ot l) e.term
noncomputable def pv(l:List Dm) (i:Nat) (d:Dm):Bool × Int:=rU (J1 l i d) (cE (ot l) d.term)
theorem I9{k:Lq}{t:T}(h1:(rU k t).1=true):DrS k t:=by
 unfold rU at h1;split at h1
 ·cases h1
 simpa using h1
theorem Hh{l pre post:List Dm}{d:Dm}(hv:bp l=0) (e:l=pre++d::post) (h:(pv l pre.length d).1=true) (θ:T->T) (hs:Sol tP θ (pre++post)):Sol tP θ l:=by
 have⟨c,g⟩:=AT (bE l) (cR (bE l)).length;refine Oe hv e o_ c (qv (λt a=>.ax ?_) (I9 h)) θ hs;rcases aZ.1 a with a|a
 ·obtain⟨k,f,rfl⟩:=bA.1 a;exact⟨k,.inl f,rfl⟩
 obtain⟨x,b,rfl⟩:=bA.1 a;have b:=(bm.1 b).1;rw[e,List.take_left' rfl]at b;exact⟨x.term,.inr ⟨x,b,rfl⟩,rfl⟩
def lZ(l:List Dm) (s:Lb):List Dm × Int:=if bp l≠0 then([],bp l)else if kJ s≠0 then([],kJ s)else if yy s l≠0 then([],yy s l)else if bp (l.map (iR s))≠0 then([],bp (l.map (iR s)))else(l.map (iR s),0)
theorem Il{l:List Dm}{s:Lb}(h:(lZ l s).2=0):(lZ l s).1=l.map (iR s)/\bp (l.map (iR s))=0/\kJ s=0:=by
 unfold lZ at h ⊢;split at h
 ·rename_i q;exact absurd h q
 rename_i q;rw[if_neg q];split at h
 ·rename_i q;exact absurd h q
 rename_i q;rw[if_neg q];split at h
 ·rename_i q;exact absurd h q
 rename_i b;rw[if_neg b];split at h
 ·rename_i q;exact absurd h q
 rename_i a;rw[if_neg a];exact⟨rfl,by simpa using a,by simpa using q⟩
def Bx(out:List Al) (rule:Int) (s:Lb):Bool:=out.any λa=>decide (a.rule=rule)&&decide (a.bind=s)
noncomputable def lz(l:List Dm) (rule:Int) (out:List Al) (p:T × T):List Al × Int:=
 if(fR p.1 p.2).2≠0\/Bx out rule (fR p.1 p.2).1=true then(out,0)
 else if(lZ l (fR p.1 p.2).1).2≠0 then([],(lZ l (fR p.1 p.2).1).2)
 else(out++[⟨rule,(fR p.1 p.2).1,(lZ l (fR p.1 p.2).1).1⟩],0)
noncomputable def eF(l:List Dm) (rule:Int):List Al->Lb->List Al × Int
 |out,[]=>(out,0)
 |out,p::ps=>if(lz l rule out p).2≠0 then([],(lz l rule out p).2)else eF l rule (lz l rule out p).1 ps
def du(l:Lq):Lq:=(ft l).filter λt=>decide (t.kind≠1)
def jN(p:Lq) (t:T):Lb:=(p.filter λx=>decide (x.cmp t≠0)).map λx=>(x,t)
def ik:Lq->Lb
 |[]=>[]
 |a::p=>p.map (λb=>(a,b))++ik p
def rP(d:Dm):List Dm:=d.term.kids.map (Dm.mk d.knows)
def en(l:List Dm) (i:Nat) (o:List Dm):List Dm:=l.take i++o++l.drop (i+1)
noncomputable def uP(l:List Dm) (i:Nat) (d:Dm) (out:List Al):List Al × Int:=
 if bld d.term=true then(if bp (en l i (rP d))≠0 then([],bp (en l i (rP d)))else(out++[⟨4,[],en l i (rP d)⟩],0))else(out,0)
noncomputable def np(l:List Dm) (i:Nat) (d:Dm):List Al × Int:=
 if 80<(du d.knows).length then([],3)
 else if(eF l 2 [] (jN (du d.knows) d.term)).2≠0 then([],(eF l 2 [] (jN (du d.knows) d.term)).2)
 else if(eF l 3 (eF l 2 [] (jN (du d.knows) d.term)).1 (ik (du d.knows))).2≠0 then([],(eF l 3 (eF l 2 [] (jN (du d.knows) d.term)).1 (ik (du d.knows))).2)
 else uP l i d (eF l 3 (eF l 2 [] (jN (du d.knows) d.term)).1 (ik (du d.knows))).1
noncomputable def tt(l:List Dm) (i:Nat) (d:Dm):List Al × Int:=
 if(pv l i d).2≠0 then([],(pv l i d).2)
 else if(pv l i d).1=true then(if bp (en l i [])≠0 then([],bp (en l i []))else([⟨1,[],en l i []⟩],0))
 else np l i d
noncomputable def cn(l:List Dm):List Al × Int:=
 if bp l≠0 then([],bp l)else if dv l<0 then([],9)else match l[(dv l).toNat]? with
  |none=>([],0)
  |some d=>tt l (dv l).toNat d
theorem Bh{bad:ByteArray->Bool}{y:T}:∀t:T,nf bad t->y∈cU bS t->nf bad y:=by
 refine T.ind λt c h a=>?_
 rcases mem_walk.1 a with rfl|⟨k,b,a⟩
 ·exact h
 exact c k b (vt h b) a
theorem AS{y:T}:∀t:T,bc t=0->y∈cU bS t->bc y=0:=by
 refine T.ind λt c h a=>?_
 rcases mem_walk.1 a with rfl|⟨k,b,a⟩
 ·exact h
 exact c k b (sY h b) a
theorem mem_subsT{l:Lq}{y:T}:y∈ft l↔∃t∈l,y∈cU bS t:=by rw[ft,mem_setS,bh]
def okT(t:T):Prop:=bc t=0/\nf gF t
theorem sf{t:T}(h:eM t=0):okT t:=⟨(jD (jJ h).1).1,(jJ h).2.2.1⟩
theorem yR{l:Lq}(h:∀t∈l,okT t):∀t∈du l,okT t:=λt c=>by have⟨x,a,b⟩:=mem_subsT.1 (bm.1 c).1;exact⟨AS x (h x a).1 b,Bh x (h x a).2 b⟩
theorem Md{l:List Dm}{rule:Int}{t u:T}(ht:okT t) (hu:okT u) (h1:(fR t u).2=0) (h2:(lZ l (fR t u).1).2=0):AltOk l ⟨rule,(fR t u).1,(lZ l (fR t u).1).1⟩:=by
 have⟨b,c,f⟩:=Il h2;have⟨_,d,e,_⟩:=yH ht.1 hu.1;refine⟨λθ a=>?_,e gF ht.2 hu.2 h1,(d h1).dup,?_⟩
 ·dsimp only at a ⊢;rw[b]at a;exact NO a
 dsimp only;rw[b];exact c
theorem M9{l:List Dm}{rule:Int}{out:List Al}{p:T × T}(hp:okT p.1/\okT p.2) (ho:∀a∈out,AltOk l a) (h:(lz l rule out p).2=0):∀a∈(lz l rule out p).1,AltOk l a:=by
 unfold lz at h ⊢;split
 ·exact ho
 rename_i q;rw[if_neg q]at h;split at h
 ·rename_i c;exact absurd h c
 rename_i c;rw[if_neg c];intro a b;rcases aZ.1 b with b|b
 ·exact ho a b
 simp only[bL]at b;subst b;exact Md hp.1 hp.2 (by simp only[not_or,ne_eq,Decidable.not_not]at q;exact q.1) (by simpa using c)
theorem ve{l:List Dm}{rule:Int}:∀ {ps:Lb}{out:List Al},(∀p∈ps,okT p.1/\okT p.2)->(∀a∈out,AltOk l a)->(eF l rule out ps).2=0->∀a∈(eF l rule out ps).1,AltOk l a
 |[],out,_,ho,_=>ho
 |p::ps,out,hp,ho,h=>by
  rw[eF]at h ⊢;split at h
  ·rename_i q;exact absurd h q
  rename_i q;rw[if_neg q];exact ve (λx hx=>hp x (by simp[hx])) (M9 (hp p s_) ho (by simpa using q)) h
theorem oO:∀ {p:Lq}{x:T × T},x∈ik p->x.1∈p/\x.2∈p
 |[],_,h=>by simp[ik]at h
 |a::p,x,h=>by
  rw[ik]at h;rcases aZ.1 h with h|h
  ·obtain⟨b,hb,rfl⟩:=bA.1 h;exact⟨s_,by simp[hb]⟩
  have:=oO h;exact⟨by simp[this.1],by simp[this.2]⟩
theorem td{pre post o:List Dm}{d:Dm}:en (pre++d::post) pre.length o=pre++o++post:=by
 rw[en,List.take_left' rfl];congr 1
 rw[List.drop_append];simp
theorem Me{l dem:List Dm}{rule:Int}(h:∀θ,Sol tP θ dem->Sol tP θ l) (hv:bp dem=0):AltOk l ⟨rule,[],dem⟩:=
 ⟨λθ a=>AZ (λt=>(BN θ t).symm) (h θ a),s_,s_,hv⟩
theorem Mc{pre post:List Dm}{d:Dm}{out:List Al}(ho:∀a∈out,AltOk (pre++d::post) a) (h:(uP (pre++d::post) pre.length d out).2=0):∀a∈(uP (pre++d::post) pre.length d out).1,AltOk (pre++d::post) a:=by
 unfold uP at h ⊢;split
 ·rename_i c;rw[if_pos c]at h;split at h
  ·rename_i q;exact absurd h q
  rename_i q;rw[if_neg q];intro a b;rcases aZ.1 b with b|b
  ·exact ho a b
  simp only[bL]at b;subst b;refine Me (λθ e=>Hr c ?_) (by simpa using q);rw[td,dD]at e;exact e
 exact ho
theorem Hn{pre post:List Dm}{d:Dm}(hv:bp (pre++d::post)=0) (h:(tt (pre++d::post) pre.length d).2=0):∀a∈(tt (pre++d::post) pre.length d).1,AltOk (pre++d::post) a:=by
 have k:kz d=0:=rW hv s_;have i:∀t∈du d.knows,okT t:=yR λt j=>sf ((oQ k).2.1 t j)
 have j:okT d.term:=sf (oQ k).2.2;unfold tt at h ⊢;split at h
 ·rename_i q;exact absurd h q
 rename_i q;rw[if_neg q];split at h
 ·rename_i c;rw[if_pos c];split at h
  ·rename_i b;exact absurd h b
  rename_i b;rw[if_neg b];intro a l;simp only[bL]at l;subst l;refine Me (λθ m=>Hh hv rfl c θ ?_) (by simpa using b);rw[td]at m;simpa using m
 rename_i c;rw[if_neg c];unfold np at h ⊢;split at h
 ·cases h
 rename_i b;rw[if_neg b];split at h
 ·rename_i e;exact absurd h e
 rename_i e;rw[if_neg e];split at h
 ·rename_i f;exact absurd h f
 rename_i f;rw[if_neg f];refine Mc (ve (λp g=>?_) (ve (λp g=>?_) s_ (by simpa using e)) (by simpa using f)) h
 ·exact⟨i _ (oO g).1,i _ (oO g).2⟩
 obtain⟨x,n,rfl⟩:=bA.1 g;exact⟨i _ (bm.1 n).1,j⟩
theorem yF{l:List Dm}(h:(cn l).2=0):∀a∈(cn l).1,AltOk l a:=by
 unfold cn at h ⊢;split at h
 ·rename_i q;exact absurd h q
 rename_i q;rw[if_neg q];split at h
 ·cases h
 rename_i c;rw[if_neg c];have⟨b,d,f,e,g,m,_⟩:=uH (l:=l) (k:=0) (by unfold dv at c;omega);have g:dv l=(b.length:Int):=by rw[dv,g];simp
 have i:(dv l).toNat=b.length:=o_;have j:l[(dv l).toNat]?=some d:=by rw[i,e];simp
 rw[j]at h ⊢;dsimp only at h ⊢;rw[i]at h ⊢;subst e;exact Hn (by simpa using q) h
def eG(s u:Lb):Lb × Int:=
 if kJ s≠0 then([],kJ s)else if kJ u≠0 then([],kJ u)else if lf u (s.map (·.2))≠0 then([],lf u (s.map (·.2)))
 else if 200<(kV s u).length then([],3)else(kV s u,0)
theorem qM{s u:Lb}(h:(eG s u).2=0):(eG s u).1=kV s u/\(kV s u).length<=200/\kJ s=0/\kJ u=0/\lf u (s.map (·.2))=0:=by
 unfold eG at h ⊢;split at h
 ·rename_i q;exact absurd h q
 rename_i q;rw[if_neg q];split at h
 ·rename_i q;exact absurd h q
 rename_i a;rw[if_neg a];split at h
 ·rename_i q;exact absurd h q
 rename_i b;rw[if_neg b];split at h
 ·cases h
 rename_i c;rw[if_neg c];exact⟨rfl,o_,by simpa using q,by simpa using a,by simpa using b⟩
structure Nd where
 dem:List Dm
 bind:Lb
 kids:List Nat
structure NdOk (l0:List Dm) (n:Nd):Prop where
 good:GoodN l0 n.dem n.bind
 len:n.bind.length<=200
 val:∀b∈n.bind,b.1.size<=400/\b.2.size<=400
theorem uI{s:Lb}:∀ {l:Lq},lf s l=0->∀t∈l,AM s t=0
 |[],_,_,h=>by simp at h
 |a::l,e,t,h=>by
  rw[lf]at e;split at e
  ·rename_i q;exact absurd e q
  rename_i q;rcases ak.1 h with rfl|h
  ·simpa using q
  exact uI e t h
theorem tJ{s:Lb}{t:T}(h:AM s t=0):bc (cE s t)=0/\bc t=0/\kJ s=0:=by
 unfold AM fB at h;split at h
 ·rename_i q;exact absurd h q
 rename_i a;split at h
 ·rename_i q;exact absurd h q
 rename_i b;split at h
 ·rename_i q;exact absurd h q
 rename_i c;exact⟨by simpa using c,by simpa using b,by simpa using a⟩
theorem JH{s u:Lb}(h:(eG s u).2=0):∀b∈vL s u,b.1.size<=400/\b.2.size<=400:=λb a=>by
 have⟨_,_,e,f,g⟩:=qM h;rcases aZ.1 a with a|a
 ·obtain⟨c,d,rfl⟩:=bA.1 a;exact⟨((rg e).2.2 c d).1,(cT (tJ (uI g c.2 (bA.2 ⟨c,d,rfl⟩))).1).2.1⟩
 exact(rg f).2.2 b (bm.1 a).1
theorem Dk{s u:Lb}(h:(eG s u).2=0):∀b∈kV s u,b.1.size<=400/\b.2.size<=400:=λb a=>by have p:=mS (vL s u) [];rw[bz]at p;exact JH h b (bm.1 (p.mem_iff.1 a)).1
theorem Ar{l:List Dm}(h:bp l=0):NdOk l ⟨l,[],[]⟩:=⟨Io h,s_,s_⟩
theorem Aq{l0:List Dm}{n:Nd}{a:Al}{k:List Nat}(h:NdOk l0 n) (ha:AltOk n.dem a) (e:(eG n.bind a.bind).2=0):NdOk l0 ⟨a.dem,kV n.bind a.bind,k⟩:=
 ⟨In h.good ha,(qM e).2.1,Dk e⟩
theorem Bk(x y:Operand) (a b:ByteArray):jC C.P .neq 9 x y (.str a) (.str b)=some (.bool !(decide (a=b))):=by
 have e:dA C.P (do eqGuard BinOp.neq 9 x y (.string a) (.string b);binOp .neq 9 (.string a) (.string b))=some (.bool (a.toList != b.toList)):=by simp[eqGuard,binOp,Op.stringOp];try rfl
 simp only[jC,fE,ce,e,dl,dT];congr 2
 have:a.toList=b.toList↔a=b:=by have c:a.toList=a.data.toList:=ByteArray.toList_eq a;have d:b.toList=b.data.toList:=ByteArray.toList_eq b;rw[c,d];exact name_inj
 by_cases h:a=b
 ·subst h;simp
 have f:¬a.toList=b.toList:=λe=>h (this.1 e)
 simp[h,f,bne]
def CA(s:ByteArray) (k:Nat):Bool:=(s.data.toList.drop k).all λc=>decide (48<=c)&&decide (c<=57)
theorem I6{s:ByteArray}{k:Nat}(hk:k<s.size):CA s k=(decide (48<=dI s k)&&decide (dI s k<=57)&&CA s (k+1)):=by
 have a:k<s.data.toList.length:=by rw[dF];exact hk
 have e:s.data.toList[k]=s[k]:=by rw[nJ];rfl
 have b:dI s k=s[k].toNat:=by unfold dI;rw[dif_pos hk]
 unfold CA;rw[aH a,dp,e,b];rfl
theorem Xr{s:ByteArray}(_h:3<=s.size):decide (s.extract 0 2=⟨#[101,35]⟩)=decide (s.data.toList.take 2=[101,35]):=by
 have:s.extract 0 2=⟨(s.data.toList.take 2).toArray⟩:=by apply ByteArray.ext;simp only[lp];apply Array.toList_inj.1;simp
 rw[this,eZ];simp
def Vn(s:ByteArray) (m:Nat) (st:PT) (h:H):Prop:=∃k:Nat,m=s.size-k/\k<=s.size/\h=[]/\st.get 0=.str s/\st.get 3=.int .i64 k/\CA s k=CA s 2
theorem Q7(s:ByteArray) (hsz:s.size<4000000):ay C 233 [.str s]=some (.bool (zw s)):=by
 refine bD func233 rfl λR hR=>?_
 have fin:∀(st:PT) (b:Bool),st.get 2=.bool b->zw s=b->R .ret st []:=λst b h2 he=>hR ⟨.bool b,by simp[ag,cG,f233,h2],by rw[he];exact aL rfl rfl⟩
 have mr:=mr s;have ho:zw s=(decide (3<=s.size)&&decide (s.data.toList.take 2=[101,35])&&CA s 2):=rfl;by_cases h3:s.size<3
 ·have h3':(s.size:Int)<3:=o_;simp +contextual [go_sem,mr,h3'];exact fin _ false g_ (by rw[ho,decide_eq_false (show ¬3<=s.size by omega)];rfl)
 have h3':¬(s.size:Int)<3:=o_;have hsl:iO C.P 9 (.str s) none (some (.int .i64 2)) none=some (.str (s.extract 0 2)):=by have:(2:Int)<=s.size:=o_;simp[iO,show C.P.underlying 9=some .string from underlying9,nM,sS,this]
 have hx:=Xr (s:=s) o_;cases hb:decide (s.extract 0 2=⟨#[101,35]⟩)with
 |false=>simp +contextual [go_sem,mr,h3',hsl,Bk,hb];exact fin _ false g_ (by rw[ho,<-hx,hb];simp)
 |true=>
  have ho':zw s=CA s 2:=by rw[ho,<-hx,hb,decide_eq_true (show 3<=s.size by omega)];simp
  simp +contextual [go_sem,mr,h3',hsl,Bk,hb];refine bR (Vn s) (s.size-2) ⟨2,rfl,o_,rfl,g_,g_,rfl⟩ ?_;rintro m st h ⟨k,rfl,hk,rfl,g0,g3,hd⟩;by_cases hlt:k<s.size
  ·have hlt':(k:Int)<s.size:=o_;have hi:=Bw s k hlt;have w2:IntKind.i64.wrap ((k:Int)+1)=((k+1:Nat):Int):=by rw[av o_];omega
   rw[I6 hlt]at hd;by_cases q:48<=dI s k/\dI s k<=57
   ·simp +contextual [go_sem,g0,g3,mr,hlt',hi,show ¬((dI s k:Nat):Int)<48 by omega,show ¬(57:Int)<(dI s k:Nat) by omega,-Int.natCast_add,w2]
    exact⟨s.size-(k+1),by omega,k+1,rfl,hlt,rfl,by simp[go_sem,g0],by simp[go_sem],by rw[<-hd,decide_eq_true q.1,decide_eq_true q.2];simp⟩
   have e:CA s 2=false:=by
    rw[<-hd];by_cases q1:48<=dI s k
    ·rw[decide_eq_false (show ¬dI s k<=57 from λx=>q ⟨q1,x⟩)];simp
    rw[decide_eq_false q1];simp
   by_cases q1:(dI s k:Int)<48
   ·simp +contextual [go_sem,g0,g3,mr,hlt',hi,q1];exact fin _ false g_ (by rw[ho',e])
   have q2:(57:Int)<dI s k:=o_;simp +contextual [go_sem,g0,g3,mr,hlt',hi,q1,q2];exact fin _ false g_ (by rw[ho',e])
  have:k=s.size:=o_;subst this;simp[go_sem,g0,g3,mr];refine fin _ true g_ ?_;rw[ho',<-hd];unfold CA;rw[gR (by rw[dF];exact aT _)];rfl
theorem Ov(s:ByteArray) (hsz:s.size<4000000) (h:H):az C h (.func 233 []) (some [.str s])=some (.bool (zw s),h):=ah rfl rfl s_ (Q7 s hsz)
theorem IB(t:T) (hsz:t.name.size<4000000):ay C 172 [enc t]=some (.bool (pf t)):=by
 refine gu rfl func172 rfl k_ (by simp[f172]) λR g=>?_
 have fin:∀(a:PT) (h:H) (b:Bool),a.get 2=.bool b->pf t=b->R .ret a h:=λa h b e f=>g _ _ _ (.inr rfl) ⟨.bool b,by simp[ag,cG,f172,e],by rw[f];exact aL rfl rfl⟩
 have i:∀(a:PT) (h:H) (b:Bool),a.get 2=.bool b->pf t=b->R .normal a h:=λa h b e f=>g _ _ _ (.inl rfl) ⟨.bool b,by simp[ag,cG,f172,e],by rw[f];exact aL rfl rfl⟩
 have j:=Ov t.name hsz;by_cases c:t.kind=3
 ·simp +contextual [go_sem,aQ,xN,sC,jG,fM,dq,c];exact fin _ _ _ (by simp[go_sem];rfl) (by rw[pf,if_pos c,show decide (t.kids.length=0)=decide (t.kids=[]) by simp];rfl)
 by_cases d:t.kind=2
 ·simp +contextual [go_sem,aQ,xN,sC,UV,fM,d,j];exact fin _ _ _ (by simp[go_sem];rfl) (by rw[pf,if_neg c,if_pos d])
 simp +contextual [go_sem,aQ,xN,c,d];exact fin _ _ false g_ (by rw[pf,if_neg c,if_neg d])
theorem Ou(t:T) (hsz:t.name.size<4000000) (h:H):az C h (.func 172 []) (some [enc t])=some (.bool (pf t),h):=ah (dC _) (by simp[aw]) s_ (IB t hsz)
theorem E1{t:T}(h:iE t=0):t.name.size<4000000:=by have:=(qD h).2.2.2.1;simp only[jt,aq,decide_eq_true_eq]at this;have:=this.1.1.2;omega
def gt(h:H) (i:Nat):Option VObj:=h[i]?
def pt(h:H) (i:Nat) (o:VObj):H:=h.set i o
@[congr] theorem Uk {h:H}{i:Nat}{tk:Nat}(_:mM=tk):gt h i=gt h i:=rfl
@[congr] theorem T9 {h:H}{i:Nat}{o:VObj}{tk:Nat}(_:mM=tk):pt h i o=pt h i o:=rfl
theorem G{h:H}{i:Nat}{o:VObj}(e:h[i]?=some o):gt h i=some o:=e
@[go_sem] theorem Y1 (x:VObj) (l:H):gt (x::l) 0=some x:=(rfl)
@[go_sem] theorem Y0 (x:VObj) (l:H) (n:Nat):gt (x::l) (n+1)=gt l n:=(rfl)
@[go_sem] theorem Yl (h:H) (x:VObj) (l:H):gt (h++x::l) h.length=some x:=by simp[gt]
@[go_sem] theorem Uj (h:H) (x y:VObj) (l:H):gt (h++x::y::l) (h.length+1)=some y:=by simp[gt]
@[go_sem] theorem Yv (x y:VObj) (l:H):pt (x::l) 0 y=y::l:=(rfl)
@[go_sem] theorem Yu (x y:VObj) (l:H) (n:Nat):pt (x::l) (n+1) y=x::pt l n y:=(rfl)
@[go_sem] theorem Yf (h:H) (x y:VObj) (l:H):pt (h++x::l) h.length y=h++y::l:=by simp[pt]
@[go_sem] theorem Ye (h:H) (x x1 y:VObj) (l:H):pt (h++x::x1::l) (h.length+1) y=h++x::y::l:=by simp[pt]
@[go_sem] theorem W8 (h:H) (i:Nat) (y:VObj):(pt h i y).length=h.length:=by simp[pt]
@[go_sem] theorem W9 {h g:H}{i:Nat}{y:VObj}(hi:i<h.length):pt (h++g) i y=pt h i y++g:=by simp[pt,hi]
@[go_sem] theorem Yk {h:H}{i:Nat}{y:VObj}(hi:i<h.length):gt (pt h i y) i=some y:=by simp[pt,gt,hi]
@[go_sem] theorem Xk {h:H}{i j:Nat}{y:VObj}(hi:i≠j):gt (pt h i y) j=gt h j:=by simp[pt,gt,hi]
theorem xe{h g:H}{i:Nat}(hi:i<h.length):gt (h++g) i=gt h i:=aM hi
def ldM(P:Program) (t:TypeId) (off:Nat):Option VObj->Option AV
 |some (.cells cs .live)|some (.cells cs .frozen)=>ae P t cs off
 |_=>none
theorem E6{P:Program}{h:H}{t:TypeId}{i off:Nat}:aX P h t (.ptr i off)=ldM P t off (gt h i):=by
 unfold aX ldM gt;dsimp only;cases h[i]? with
 |none=>rfl
 |some x=>cases x with
  |cells b a=>cases a<;>rfl
  |_=>rfl
@[congr] theorem S6 {P:Program}{t:TypeId}{off:Nat}{x y:Option VObj}{tk:Nat}(h:x=y) (_:mM=tk):ldM P t off x=ldM P t off y:=by rw[h]
theorem UP(t:T):ldM C.P 39 0 (some (.cells (enc t).cells .live))=some (enc t):=by simp[ldM,ae,a25,s25,bB];rw[bJ]
theorem RZ(t:T):ldM C.P 3 0 (some (.cells (enc t).cells .live))=some (.int .i64 t.kind):=by simp[ldM,ae,a3,s3,bB]
theorem RX(t:T):ldM C.P 9 1 (some (.cells (enc t).cells .live))=some (.str t.name):=by simp[ldM,ae,a9,s9,bB]
theorem RY(t:T):ldM C.P 37 3 (some (.cells (enc t).cells .live))=some (aQ t.kids):=by simp[ldM,ae,a23,s23,bB]
theorem UR(a b c d:AV):ldM C.P 39 0 (some (.cells [a,b,c,d] .live))=some (.agg [a,b,c,d]):=by simp[ldM,ae,a25,s25]
theorem Rm(a:AV) (l:LA):ldM C.P 3 0 (some (.cells (a::l) .live))=some a:=by simp[ldM,ae,a3,s3]
theorem Rk(a b:AV) (l:LA):ldM C.P 9 1 (some (.cells (a::b::l) .live))=some b:=by simp[ldM,ae,a9,s9]
theorem Rl(a b c d:AV) (l:LA):ldM C.P 37 3 (some (.cells (a::b::c::d::l) .live))=some d:=by simp[ldM,ae,a23,s23]
theorem dU(t:T):AV.agg [.int .i64 t.kind,.str t.name,.int .i64 t.sort,.isl (t.kids.map enc) .unk]=enc t:=by rw[bJ];rfl
theorem Iz(t:T):AV.agg [.int .i64 t.kind,.str t.name,.int .i64 t.sort,aQ t.kids]=enc t:=by rw[bJ]
def stM(P:Program) (t:TypeId) (v:AV) (off:Nat) (h:H) (i:Nat) (o:Option VObj):Option H:=
 match o,cS P t with
  |some (.cells cs .live),some n=>match v with
   |.tuple _=>none
   |.agg vs=>if vs.length=n/\off+n<=cs.length then some (pt h i (.cells (cs.take off++vs++cs.drop (off+n)) .live))else none
   |v=>if n=1/\off<cs.length then some (pt h i (.cells (cs.set off v) .live))else none
  |_,_=>none
theorem Eb{P:Program}{h:H}{t:TypeId}{i off:Nat}{v:AV}:cr P h t (.ptr i off) v=stM P t v off h i (gt h i):=(rfl)
@[congr] theorem S3 {P:Program}{t:TypeId}{off:Nat}{v:AV}{h:H}{i:Nat}{x y:Option VObj}{tk:Nat}(e:x=y) (_:mM=tk):stM P t v off h i x=stM P t v off h i y:=by rw[e]
theorem rh{P:Program}{t:TypeId}{n:Nat}(hs:cS P t=some n) (h:H) (i:Nat) (cs l:LA) (hl:l.length=n) (hc:cs.length=n):stM P t (.agg l) 0 h i (some (.cells cs .live))=some (pt h i (.cells l .live)):=by unfold stM;rw[hs];dsimp only;rw[if_pos ⟨hl,o_⟩,gR o_];simp
theorem uZ{P:Program}{t:TypeId}(hs:cS P t=some 1) (h:H) (i off:Nat) (cs:LA) (v:AV) (hv:v.one=true) (hc:off<cs.length):stM P t v off h i (some (.cells cs .live))=some (pt h i (.cells (cs.set off v) .live)):=by unfold stM;rw[hs];cases v<;>first|(cases hv;done)|(dsimp only;rw[if_pos ⟨rfl,hc⟩])
theorem P9(h:H) (i:Nat) (cs l:LA) (hl:l.length=4) (hc:cs.length=4):stM C.P 39 (.agg l) 0 h i (some (.cells cs .live))=some (pt h i (.cells l .live)):=rh s25 h i cs l hl hc
theorem Qi(t:T) (h:H) (i:Nat):stM C.P 39 (enc t) 0 h i (some (.cells zc .live))=some (pt h i (.cells (enc t).cells .live)):=by rw[bJ];exact P9 h i _ _ rfl rfl
theorem Qs(h:H) (i:Nat) (a' b' c' d':AV):stM C.P 39 (.agg [a',b',c',d']) 0 h i (some (.cells zc .live))=some (pt h i (.cells [a',b',c',d'] .live)):=P9 h i _ _ rfl rfl
theorem OwnR.app{e:TypeId}{h:H}{v:AV}{xs:LA}(o:OwnR e h v xs) (g:H):OwnR e (h++g) v xs:=o.keep (Keep.append _ _ none) (λi _=>s_)
theorem uR{u t:T}(h:u∈t.kids):u∈cU bS t:=mem_walk.2 (.inr ⟨u,h,eU u⟩)
theorem EO{a b:T}:∀c:T,a∈cU bS b->b∈cU bS c->a∈cU bS c:=by
 refine T.ind λc g e d=>?_
 rcases mem_walk.1 d with rfl|⟨k,f,d⟩
 ·exact e
 exact mem_walk.2 (.inr ⟨k,f,g k f e d⟩)
theorem By(h:H) (i:Nat):gt h i=h[i]?:=rfl
theorem Xo(e:AV):bH C.P 39 (.iptr e 0) 0=some (.iptr e 0):=k_
theorem Xn(e:AV):bH C.P 39 (.iptr e 0) 1=some (.iptr e 1):=k_
theorem Xm(e:AV):bH C.P 39 (.iptr e 0) 2=some (.iptr e 2):=k_
theorem Xl(e:AV):bH C.P 39 (.iptr e 0) 3=some (.iptr e 3):=k_
theorem XR(t:T) (h:H):aX C.P h 39 (.iptr (enc t) 0)=some (enc t):=iT t h
theorem XV(t:T) (h:H):aX C.P h 3 (.iptr (enc t) 0)=some (.int .i64 t.kind):=by simp[aX,ae,a3,s3,bB]
theorem XT(t:T) (h:H):aX C.P h 9 (.iptr (enc t) 1)=some (.str t.name):=by simp[aX,ae,a9,s9,bB]
theorem XS(t:T) (h:H):aX C.P h 3 (.iptr (enc t) 2)=some (.int .i64 t.sort):=by simp[aX,ae,a3,s3,bB]
theorem XU(t:T) (h:H):aX C.P h 37 (.iptr (enc t) 3)=some (aQ t.kids):=by simp[aX,ae,a23,s23,bB]
attribute [go_sem] Xo Xn Xm Xl XR XV XT XS XU
@[go_sem] theorem If (l:Lq):fW C.P 37 (aQ l)=some (.int .i64 l.length):=fK l
@[go_sem] theorem WR (l:Lq) (x:Ext):fW C.P 37 (.isl (l.map enc) x)=some (.int .i64 l.length):=by rw[dq,aU]
theorem Ti:[AV.int .i64 0,.str ⟨#[]⟩,.int .i64 0,.isl [] .full]=zc:=rfl
@[go_sem] theorem XE (es:LA) (x:Ext):bV (.isl es x)=true:=(rfl)
@[go_sem] theorem XF (k:IntKind) (n:Int):bV (.int k n)=true:=(rfl)
@[go_sem] theorem XD (n:ByteArray):bV (.str n)=true:=(rfl)
@[go_sem] theorem WO (b:Bool):bV (.bool b)=true:=(rfl)
@[go_sem] theorem XG (l:LA):bV (.agg l)=true:=(rfl)
attribute [go_sem low] E6 Eb
attribute [go_sem] dU Iz
attribute [go_sem] UP RZ RX RY UR Rm Rk Rl Qi Qs
theorem D8{n:ByteArray}(h:gF n=false):ED n=false/\rf n≠3:=by simp only[gF,iL,decide_eq_false_iff_not]at h;exact h
theorem lw:gy C.P 39=some (.agg zc):=k_
theorem qO(h:H):cQ C.P h 37 0 []=some (.isl [] .full,h):=cW u23 s25 z25 rfl o_ rfl rfl rfl s_ rfl
theorem SV(n:ByteArray) (l:Lq) (x:Ext):fZ C.P 39 [(0,.int .i64 3),(1,.str n),(3,.isl (l.map enc) x)]=some (.agg [.int .i64 3,.str n,.int .i64 0,.isl (l.map enc) x]):=k_
theorem sd(h:H) (k s:Int) (n:ByteArray) (l:Lq) (x:Ext):gE h dH (.agg [.int .i64 k,.str n,.int .i64 s,.isl (l.map enc) x])=some (enc (.mk k n s l)):=aL (by rw[enc,kT];rfl) rfl
theorem Nm(n:ByteArray) (l:Lq) (hl:l.length<4000000):ay C 75 [.str n,aQ l]=some (enc (.mk 3 n 0 l)):=by
 refine bD func75 rfl λR d=>?_
 have⟨i,e,f,b,g,_⟩:=dz (xs:=[]) (ys:=l) (x:=.unk) (h:=[.cells zc .live]) (v:=.isl [] .full) (.inl rfl) (by simp;omega);simp only[bz]at b;obtain⟨x,rfl⟩:=b.isl;have c:e[0]?=some (.cells zc .live):=g.get rfl (by simp[bj]);have a:=(aB.1 c).1;simp[go_sem,lw,aa,qO,aQ,f,SV,G c];refine d ⟨.agg [.int .i64 3,.str n,.int .i64 0,.isl (l.map enc) x],?_,sd _ _ _ _ _ _⟩;simp[ag,cG,f75,go_sem,a]
theorem JY(n:ByteArray) (l:Lq) (x:Ext) (hl:l.length<4000000) (h:H):az C h (.func 75 []) (some [.str n,.isl (l.map enc) x])=some (enc (.mk 3 n 0 l),h):=
 ah (args':=[.str n,aQ l]) rfl rfl s_ (Nm n l hl)
def Su(t:T) (m:Nat) (st:PT) (h:H):Prop:=∃k:Nat,m=t.kids.length-k/\k<=t.kids.length/\h[0]?=some (.cells (enc t).cells .live)/\h[1]?=some (.cells zc .live)/\st.get 1=.ptr 0 0/\st.get 2=.ptr 1 0/\st.get 5=.int .i64 k/\OwnR 39 h (st.get 4) ((t.kids.take k).map enc)
theorem IQ(t:T) (hs:t.size<4000000) (hv:dG t=0) (hn:nf gF t) (hc:∀k∈t.kids,ay C 165 [enc k]=some (gX (k,0))):ay C 165 [enc t]=some (gX (t,0)):=by
 refine bD func165 rfl λR I=>?_
 have fin:∀(e:PT) (h:H),e.get 2=.ptr 1 0->e.get 3=.int .i64 0->h[1]?=some (.cells (enc t).cells .live)->R .ret e h:=λe h J K L=>I ⟨gX (t,0),by
  have:=yg t L;simp[ag,df,cG,f165,J,K,this,gX],qZ _ _ _⟩
 have M:=size_kids t;have z:=len_sizes t.kids;have g:=fK t.kids;by_cases f:t.kind=3
 ·simp[go_sem,aQ,lw,aa,f];have b:t.sort=0:=by
   have:=ee hv;simp only[iE]at this;split at this
   ·cases this
   rename_i q;simp only[tU,bZ,aq,decide_eq_true_eq,not_or]at q;have:=q.1.2;rw[f]at this;simpa using this
  have p:T.mk 3 t.name 0 t.kids=t:=by have:=pg t;rw[f,b]at this;exact this
  have⟨c,r⟩:=D8 (hn t (eU t) f);have N:=xl t.name;refine bR (Su t) t.kids.length ⟨0,rfl,aO _,by simp[f,bB,aQ],by simp[aa],g_,g_,g_,.inr ⟨2,g_,s_⟩⟩ ?_;rintro m e h ⟨k,rfl,hk,i,j,A,B,D,o⟩;obtain⟨v4,s⟩:∃v,v=e.get 4:=⟨_,rfl⟩
  rw[<-s]at o;by_cases a:k<t.kids.length
  ·have l:(k:Int)<t.kids.length:=o_;have u:=fL t.kids k a;have O:=wS k o_;have Q:∀h,az C h (.func 165 []) (some [enc t.kids[k]])=some (gX (t.kids[k],0),h):=λh=>ah (dC _) (by simp[aw]) s_ (hc _ (aG a))
   have d:=OwnR.app o [.cells (enc t.kids[k]).cells .live];have⟨v',h',E,F,n,_⟩:=dz (ys:=[t.kids[k]]) (x:=.full) d (by simp;omega);rw[<-aI a]at F;simp only[aS,au]at E;have w:=n.get (ga i) (cK d (ga i));have y:=n.get (ga j) (cK d (ga j));simp[go_sem,A,D,<-s,G i,g,l,u,iT,Q,gX,lw,aa,dm,E,-Int.natCast_add,O];exact⟨t.kids.length-(k+1),o_,k+1,rfl,a,w,y,g_,g_,g_,by simpa[go_sem]using F⟩
  have:k=t.kids.length:=o_;subst this;rw[ao]at o;have⟨x,S⟩:=o.isl;have c3:=JY t.name t.kids x o_;simp only[ED,iL,decide_eq_false_iff_not]at c;simp only[RK,C7,RN,RL,RM,Kq]at c;have⟨⟨⟨⟨⟨U,n2⟩,V⟩,X⟩,Y⟩,Z⟩:=c;simp +contextual [go_sem,A,B,D,<-s,G i,g,S,c3,p,lw,aa,N,r,fM,U,V,X,Y,Z,G (ga i),G (ga j)];have q':=(aB.1 j).1;refine fin _ _ g_ g_ ?_;rw[pt,eS,if_pos rfl,if_pos (by simp;omega)]
 simp[go_sem,aQ,lw,aa,f,dU];exact fin _ _ g_ g_ rfl
theorem zx:∀t:T,t.size<4000000->dG t=0->nf gF t->ay C 165 [enc t]=some (gX (t,0)):=by refine T.ind λt d e b c=>IQ t e b c λk a=>d k a (by have:=kid_size a;omega) (kE t b k (uR a)) (vt c a)
theorem PI(t:T) (hs:t.size<4000000) (hv:dG t=0) (hn:nf gF t) (h:H):az C h (.func 165 []) (some [enc t])=some (gX (t,0),h):=ah (dC _) (by simp[aw]) s_ (zx t hs hv hn)
def nrm(t:T):T × Int:=if dW t≠0 then(zT,dW t)else(t,0)
theorem IR(t:T) (hs:t.size<4000000) (hn:nf gF t):ay C 108 [enc t]=some (gX (nrm t)):=by
 refine bD func108 rfl λR b=>?_
 have fin:∀(a:PT) (h:H) (r:T × Int),a.get 2=.ptr 1 0->a.get 3=.int .i64 r.2->h[1]?=some (.cells (enc r.1).cells .live)->nrm t=r->R .ret a h:=λa h r f g i e=>b ⟨gX r,by
  have:=yg r.1 i;simp[ag,df,cG,f108,f,g,this,gX],by rw[e];exact qZ _ _ _⟩
 have c:=vR t hs;by_cases q:dW t=0
 ·have⟨d,_⟩:=jD q;have j:=PI t hs (cT d).1 hn;have c3:=kq t hs;simp[go_sem,aQ,lw,aa,dU,c,q,j,gX,c3,d];exact fin _ _ (t,0) g_ g_ rfl (by rw[nrm,if_neg (by simp[q])])
 simp[go_sem,aQ,lw,aa,dU,c,q,za];refine b ⟨.tuple [.agg [.int .i64 0,.str ⟨#[]⟩,.int .i64 0,.isl [] .full],.int .i64 (dW t)],by simp[ag,df,cG,f108,go_sem],?_⟩;rw[nrm,if_pos q];exact vk _ _
theorem F6(t:T) (hs:t.size<4000000) (hn:nf gF t) (h:H):az C h (.func 108 []) (some [enc t])=some (gX (nrm t),h):=ah (dC _) (by simp[aw]) s_ (IR t hs hn)
theorem LP(t:T) (hs:t.size<4000000):ay C 69 [enc t]=some (.bool (decide (fI t=[]))):=by
 refine bD func69 rfl λR a=>?_
 have b:=xk t hs;have c:=fK (fI t);simp[go_sem,aQ,dU,b];exact a ⟨.bool (decide (fI t=[])),by simp[ag,cG,f69,go_sem],aL rfl rfl⟩
theorem zQ(t:T) (hs:t.size<4000000) (h:H):az C h (.func 69 []) (some [enc t])=some (.bool (decide (fI t=[])),h):=ah (dC _) (by simp[aw]) s_ (LP t hs)
def Pz(w:Lq) (m:Nat) (st:PT) (_h:H):Prop:=∃k:Nat,m=w.length-k/\k<=w.length/\st.get 5=aQ w/\st.get 6=.int .i64 k
theorem Nc(t:T) (hs:t.size<4000000) (hn:nf gF t):ay C 70 [enc t]=some (.bool (decide (dW t=0))):=by
 refine bD func70 rfl λR r=>?_
 have fin:∀(f:PT) (h:H) (b:Bool),f.get 2=.bool b->decide (dW t=0)=b->R .ret f h:=λf h b s u=>r ⟨.bool b,by simp[ag,cG,f70,s],by rw[u];exact aL rfl rfl⟩
 have l:=F6 t hs hn;by_cases q:dW t=0
 ·have e:nrm t=(t,0):=by rw[nrm,if_neg (by simp[q])]
  have v:=lg t t hs hs;have c3:=vQ t hs;have y:=kB bS jI t;have z:∀x∈cU bS t,x.kind=3->rf x.name≠3:=λx A k=>(D8 (hn x A k)).2
  simp +contextual [go_sem,aQ,dU,l,e,gX,lw,v,c3,cmp_refl];rw[show AV.isl ((cU bS t).map enc) .unk=aQ (cU bS t)from rfl];generalize cU bS t=w at *;have c:=fK w;refine bR (Pz w) w.length ⟨0,rfl,aO _,g_,g_⟩ ?_;rintro m f h ⟨k,rfl,D,n,g⟩;by_cases a:k<w.length
  ·have d:(k:Int)<w.length:=o_;have i:=fL w k a;have o:=wS k o_;have E:=A3 w[k];have B:=xl w[k].name;have j:=z w[k] (aG a);simp +contextual [go_sem,n,g,c,d,i,B,-Int.natCast_add];refine Ife_iff.2 ⟨λp=>absurd p.2 (j p.1),λ_=>?_⟩;simp[go_sem,g,-Int.natCast_add,o];exact⟨w.length-(k+1),o_,k+1,rfl,a,g_,g_⟩
  have:k=w.length:=o_;subst this;simp[go_sem,n,g,c];exact fin _ _ true g_ (by simp[q])
 have e:nrm t=(zT,dW t):=by rw[nrm,if_pos q]
 simp +contextual [go_sem,aQ,dU,l,e,gX,lw,q];exact fin _ _ false g_ (by simp[q])
theorem BE(t:T) (hs:t.size<4000000) (hn:nf gF t) (h:H):az C h (.func 70 []) (some [enc t])=some (.bool (decide (dW t=0)),h):=ah (dC _) (by simp[aw]) s_ (Nc t hs hn)
theorem KL(t:T) (hs:t.size<4000000) (hn:nf gF t):ay C 230 [enc t]=some (.int .i64 (kZ t)):=by
 refine gu rfl func230 rfl k_ (by simp[f230]) λR g=>?_
 have fin:∀(e:Ex) (c:PT) (h:H) (b:Int),e=.normal\/e=.ret->c.get 2=.int .i64 b->kZ t=b->R e c h:=λe c h b i j k=>g _ _ _ i ⟨.int .i64 b,by simp[ag,cG,f230,j],by rw[k];exact aL rfl rfl⟩
 have d:=vR t hs;have f:=zQ t hs;have c3:=BE t hs hn;by_cases q:dW t=0
 ·by_cases a:fI t=[]
  ·simp[go_sem,aQ,dU,d,q,f,a,c3];exact fin _ _ _ 0 (.inr rfl) g_ (by rw[kZ,if_neg (by simp[q]),if_neg (by simp[a])])
  simp[go_sem,aQ,dU,d,q,f,a];exact fin _ _ _ 13 (.inr rfl) g_ (by rw[kZ,if_neg (by simp[q]),if_pos a])
 simp[go_sem,aQ,dU,d,q];exact fin _ _ _ (dW t) (.inr rfl) g_ (by rw[kZ,if_pos q])
theorem Dv(t:T) (hs:t.size<4000000) (hn:nf gF t) (h:H):az C h (.func 230 []) (some [enc t])=some (.int .i64 (kZ t),h):=ah (dC _) (by simp[aw]) s_ (KL t hs hn)
def Mp(l:Lq) (m:Nat) (st:PT) (_h:H):Prop:=∃k:Nat,m=l.length-k/\k<=l.length/\st.get 0=aQ l/\st.get 3=.int .i64 k/\fJ (l.drop k)=fJ l
theorem H3(l:Lq) (hs:∀t∈l,t.size<4000000) (hn:∀t∈l,nf gF t) (hl:l.length<4000000):ay C 167 [aQ l]=some (.int .i64 (fJ l)):=by
 refine gu rfl func167 rfl k_ (by simp[f167]) λR hR=>?_
 have fin:∀(e:Ex) (st:PT) (h:H) (b:Int),e=.normal\/e=.ret->st.get 2=.int .i64 b->fJ l=b->R e st h:=λe st h b hx h2 he=>hR _ _ _ hx ⟨.int .i64 b,by simp[ag,cG,f167,h2],by rw[he];exact aL rfl rfl⟩
 have hln:=fK l;simp[go_sem];refine bR (Mp l) l.length ⟨0,rfl,aO _,g_,g_,rfl⟩ ?_;rintro m st h ⟨k,rfl,hk,g0,g3,hd⟩;by_cases hlt:k<l.length
 ·have hlt':(k:Int)<l.length:=o_;have hix:=fL l k hlt;have w2:=wS k o_;have c1:=Dv l[k] (hs _ (aG hlt)) (hn _ (aG hlt));rw[aH hlt,fJ]at hd;by_cases q:kZ l[k]=0
  ·rw[if_neg (by simp[q])]at hd
   simp[go_sem,g0,g3,hln,hlt',hix,c1,q,-Int.natCast_add,w2]
   exact⟨l.length-(k+1),by omega,k+1,rfl,hlt,by simp[go_sem,g0],by simp[go_sem],hd⟩
  rw[if_pos q]at hd;simp[go_sem,g0,g3,hln,hlt',hix,c1,q];exact fin _ _ _ (kZ l[k]) (.inr rfl) g_ hd.symm
 have:k=l.length:=o_;subst this;rw[aj,fJ]at hd;simp[go_sem,g0,g3,hln];exact fin _ _ _ 0 (.inr rfl) g_ hd.symm
theorem F3(l:Lq) (x:Ext) (hs:∀t∈l,t.size<4000000) (hn:∀t∈l,nf gF t) (hl:l.length<4000000) (h:H):az C h (.func 167 []) (some [.isl (l.map enc) x])=some (.int .i64 (fJ l),h):=ah (args':=[aQ l]) rfl rfl s_ (H3 l hs hn hl)
theorem Bj{t:T}(hn:nf gF t){n:ByteArray}(hb:gF n=true):iH t n=false:=by
 rw[iH,jh];by_cases k:t.kind=3
 ·right;have:=hn t (eU t) k;simp only[decide_eq_false_iff_not];intro e;rw[e,hb]at this;cases this
 left;simp[k]
theorem xm{n:ByteArray}(h:ED n=true):gF n=true:=by simp[gF,h]
theorem RG{t:T}(hn:nf gF t):iH t ⟨#[109,117,108]⟩=false:=Bj hn (xm k_)
theorem RH{t:T}(hn:nf gF t):iH t ⟨#[105,110,118]⟩=false:=Bj hn (xm k_)
theorem RE{t:T}(hn:nf gF t):iH t ⟨#[120,111,114]⟩=false:=Bj hn (xm k_)
theorem Km{t:T}(hn:nf gF t):iH t ⟨#[101,120,112]⟩=false:=Bj hn (xm k_)
theorem DZ(t:T) (hn:nf gF t):ay C 169 [enc t]=some (.bool false):=by
 refine bD func169 rfl λR a=>?_
 have b:=wR t;simp +contextual [go_sem,aQ,dU,b,RG hn,RH hn];exact a ⟨.bool false,by simp[ag,cG,f169,go_sem],aL rfl rfl⟩
theorem rC(t:T) (hn:nf gF t) (h:H):az C h (.func 169 []) (some [enc t])=some (.bool false,h):=ah (dC _) (by simp[aw]) s_ (DZ t hn)
theorem CW(t:T) (hn:nf gF t):ay C 111 [enc t]=some (.bool false):=by
 refine bD func111 rfl λR a=>?_
 have b:=wR t;have c:=rC t hn;simp +contextual [go_sem,aQ,dU,b,c,RE hn,Km hn];exact a ⟨.bool false,by simp[ag,cG,f111,go_sem],aL rfl rfl⟩
theorem AH(t:T) (hn:nf gF t) (h:H):az C h (.func 111 []) (some [enc t])=some (.bool false,h):=ah (dC _) (by simp[aw]) s_ (CW t hn)
def Jn(l:Lq) (m:Nat) (st:PT) (_h:H):Prop:=∃k:Nat,m=l.length-k/\k<=l.length/\st.get 0=aQ l/\st.get 4=.int .i64 k/\∃x,st.get 3=.isl [] x
theorem FT(l:Lq) (hn:∀t∈l,nf gF t) (hl:l.length<4000000):ay C 231 [aQ l]=some (aQ []):=by
 refine bD func231 rfl λR hR=>?_
 have hln:=fK l;simp[go_sem];refine bR (Jn l) l.length ⟨0,rfl,aO _,g_,g_,_,by simp[go_sem];rfl⟩ ?_;rintro m st h ⟨k,rfl,hk,g0,g4,x,g3⟩;by_cases hlt:k<l.length
 ·have hlt':(k:Int)<l.length:=by omega
  have hix:=fL l k hlt
  have w2:IntKind.i64.wrap ((k:Int)+1)=((k+1:Nat):Int):=by rw[av (by omega)];omega
  have hk:=hn _ (aG hlt)
  have c1:=wR l[k]
  have c2:=rC l[k] hk
  simp[go_sem,g0,g4,hln,hlt',hix,lw,aa,c1,Km hk,c2,-Int.natCast_add,w2]
  exact⟨l.length-(k+1),by omega,k+1,rfl,hlt,by simp[go_sem,g0],by simp[go_sem],x,by simp[go_sem,g3]⟩
 have:k=l.length:=o_;subst this;simp[go_sem,g0,g3,g4,hln];exact hR ⟨.isl [] x,by simp[ag,cG,f231,go_sem],aL rfl rfl⟩
theorem Dw(l:Lq) (x:Ext) (hn:∀t∈l,nf gF t) (hl:l.length<4000000) (h:H):az C h (.func 231 []) (some [.isl (l.map enc) x])=some (aQ [],h):=ah (args':=[aQ l]) rfl rfl s_ (FT l hn hl)
def Mn(l:Lq) (m:Nat) (st:PT) (_h:H):Prop:=∃k:Nat,m=l.length-k/\k<=l.length/\st.get 0=aQ l/\st.get 4=.int .i64 k/\st.get 3=.int .i64 0
theorem NS(l:Lq) (hn:∀t∈l,nf gF t) (hl:l.length<4000000):ay C 168 [aQ l]=some (.int .i64 (if 200<l.length then 3 else 0)):=by
 refine bD func168 rfl λR hR=>?_
 have hln:=fK l;simp[go_sem];refine bR (Mn l) l.length ⟨0,rfl,aO _,g_,g_,g_⟩ ?_;rintro m st h ⟨k,rfl,hk,g0,g4,g3⟩;by_cases hlt:k<l.length
 ·have hlt':(k:Int)<l.length:=by omega
  have hix:=fL l k hlt
  have w2:IntKind.i64.wrap ((k:Int)+1)=((k+1:Nat):Int):=by rw[av (by omega)];omega
  have c2:=rC l[k] (hn _ (aG hlt))
  simp[go_sem,g0,g4,hln,hlt',hix,c2,-Int.natCast_add,w2]
  exact⟨l.length-(k+1),by omega,k+1,rfl,hlt,by simp[go_sem,g0],by simp[go_sem],by simp[go_sem,g3]⟩
 have:k=l.length:=o_;subst this;have c3:∀h,az C h (.func 231 []) (some [aQ l])=some (aQ [],h):=Dw l .unk hn hl;have hl0:=fK [];by_cases q:200<l.length
 ·have q':(200:Int)<l.length:=o_;simp +contextual [go_sem,g0,g3,g4,hln,q',c3,hl0];refine hR ⟨.int .i64 3,by simp[ag,cG,f168,go_sem],?_⟩;rw[if_pos q];exact aL rfl rfl
 have q':¬(200:Int)<l.length:=o_;simp +contextual [go_sem,g0,g3,g4,hln,q',c3,hl0];refine hR ⟨.int .i64 0,by simp[ag,cG,f168,go_sem],?_⟩;rw[if_neg q];exact aL rfl rfl
theorem F0(l:Lq) (x:Ext) (hn:∀t∈l,nf gF t) (hl:l.length<4000000) (h:H):az C h (.func 168 []) (some [.isl (l.map enc) x])=some (.int .i64 (if 200<l.length then 3 else 0),h):=ah (args':=[aQ l]) rfl rfl s_ (NS l hn hl)
theorem tl(l:Lq):(l.flatMap (cU bS)).length<=sizes l:=by
 induction l with
 |nil=>simp[sizes]
 |cons a l b=>have:=kB bS jI a;rw[cD,aK,sizes];omega
theorem mR:∀ {l:Lq}{t:T},t∈l->t.size<=sizes l
 |[],_,h=>by simp at h
 |a::l,t,h=>by
  rw[sizes];rcases ak.1 h with rfl|h
  ·omega
  have:=mR h;omega
def Sr(l:Lq) (m:Nat) (st:PT) (h:H):Prop:=∃k:Nat,m=l.length-k/\k<=l.length/\st.get 0=aQ l/\st.get 4=.int .i64 k/\OwnR 39 h (st.get 3) (((l.take k).flatMap (cU bS)).map enc)
theorem Ea(l:Lq) (hs:sizes l<4000000):ay C 28 [aQ l]=some (aQ (ft l)):=by
 refine bD func28 rfl λR w=>?_
 have c:=fK l;have q:=len_sizes l;have d:∀t∈l,t.size<4000000:=λt z=>by have:=mR z;omega
 simp[go_sem];refine bR (Sr l) l.length ⟨0,rfl,aO _,g_,g_,.inr ⟨1,g_⟩⟩ ?_;rintro m A h ⟨k,rfl,L,r,s,i⟩;obtain⟨B,n⟩:∃v,v=A.get 3:=⟨_,rfl⟩
 rw[<-n]at i;by_cases b:k<l.length
 ·have e:(k:Int)<l.length:=o_;have o:=fL l k b;have D:=wS k o_;have E:=vQ l[k] (d _ (aG b));have f:(l.take (k+1)).flatMap (cU bS)=(l.take k).flatMap (cU bS)++cU bS l[k]:=by rw[aI b,ig];simp
  have g:=tl (l.take (k+1));have F:=take_sizes_le l (k+1);rw[f,aK]at g;have⟨G,I,j,u,_,_⟩:=dz (ys:=cU bS l[k]) (x:=.unk) i o_;rw[<-f]at u;change cL C.P false h 37 B (aQ (cU bS l[k]))=some (G,I)at j;simp[go_sem,r,s,<-n,c,e,o,E,j,-Int.natCast_add,D];exact⟨l.length-(k+1),o_,k+1,rfl,b,g_,g_,by simpa[go_sem]using u⟩
 have:k=l.length:=o_;subst this;rw[ao]at i;have⟨x,J⟩:=i.isl;have g:=tl l;have K:=xj (l.flatMap (cU bS)) x (λy p=>by have⟨a,j,p⟩:=bh.1 p;exact qS qa a (d a j) y p) o_
 simp[go_sem,r,s,<-n,c,J,K];exact w ⟨aQ (ft l),by simp[ag,cG,f28,go_sem,ft],aL rfl rfl⟩
theorem zO(l:Lq) (x:Ext) (hs:sizes l<4000000) (h:H):az C h (.func 28 []) (some [.isl (l.map enc) x])=some (aQ (ft l),h):=ah (args':=[aQ l]) rfl rfl s_ (Ea l hs)
def xu(a:Lq):Int:=if fJ a≠0 then fJ a else if 200<(ft a).length then 3 else 0
theorem Ca(k t:Lq) (_ht:t.length<=1) (hs:sizes (k++t)<4000000) (hn:∀x∈k++t,nf gF x):ay C 110 [aQ k,aQ t]=some (if 60<k.length then .tuple [aQ [],.int .i64 3]else .tuple [if xu (k++t)=0 then aQ (ft (k++t))else aQ [],.int .i64 (xu (k++t))]):=by
 refine gu rfl func110 rfl k_ (by simp[f110]) λR a=>?_
 have b:=fK k;by_cases q:60<k.length
 ·have d:(60:Int)<k.length:=o_;rw[if_pos q]at a;simp[go_sem,b,d];refine a _ _ _ (.inr rfl) ⟨.tuple [.isl [] (.tok _),.int .i64 3],by simp[ag,df,cG,f110,go_sem];rfl,cw rfl rfl s_⟩
 have d:¬(60:Int)<k.length:=o_;rw[if_neg q]at a;have f:=len_sizes (k++t);rw[aK]at f;have⟨B,s,i,u,_,_⟩:=dz (xs:=[]) (ys:=k) (x:=.unk) (h:=[.tok 0 39]) (v:=.isl [] .full) (.inl rfl) (by simp;omega);have⟨D,w,l,p,_,_⟩:=dz (ys:=t) (x:=.unk) u (by simp;omega);simp only[bz]at i p;obtain⟨x,rfl⟩:=p.isl;have m:∀y∈k++t,y.size<4000000:=λy g=>by have:=mR g;omega
 have n:=F3 (k++t) x m hn (by rw[aK];omega);have r:=zO (k++t) x hs;have o:(ft (k++t)).length<4000000:=by have s:=mq ((k++t).flatMap (cU bS));have w:=tl (k++t);unfold ft;omega
 have c3:=F0 (ft (k++t)) .unk (λy g=>by have⟨z,A,g⟩:=mem_subsT.1 g;exact Bh z (hn z A) g) o
 generalize k++t=kt at *;by_cases c:fJ (kt)=0
 ·by_cases j:200<(ft (kt)).length
  ·have e:xu (kt)=3:=by rw[xu,if_neg (by simp[c]),if_pos j]
   rw[e]at a;simp[go_sem,d,qO,aQ,i,l,n,c,r,c3,j];refine a _ _ _ (.inr rfl) ⟨.tuple [.isl [] (.tok _),.int .i64 3],by simp[ag,df,cG,f110,go_sem];rfl,cw rfl rfl s_⟩
  have e:xu (kt)=0:=by rw[xu,if_neg (by simp[c]),if_neg j]
  rw[e]at a;simp[go_sem,d,qO,aQ,i,l,n,c,r,c3,j];refine a _ _ _ (.inr rfl) ⟨.tuple [aQ (ft (kt)),.int .i64 0],by simp[ag,df,cG,f110,go_sem,aQ],cw rfl rfl s_⟩
 have e:xu (kt)=fJ (kt):=by rw[xu,if_pos c]
 rw[e,if_neg c]at a;simp[go_sem,d,qO,aQ,i,l,n,c];refine a _ _ _ (.inr rfl) ⟨.tuple [.isl [] (.tok _),.int .i64 (fJ (kt))],by simp[ag,df,cG,f110,go_sem];rfl,cw rfl rfl s_⟩
theorem G5(k:Lq) (t:T):xT k t=if 60<k.length then 3 else xu (k++[t]):=rfl
theorem EV(k:Lq) (t:T) (hs:sizes (k++[t])<4000000) (hn:∀x∈k++[t],nf gF x):ay C 72 [aQ k,enc t]=some (.tuple [if xT k t=0 then aQ (ft (k++[t]))else aQ [],.int .i64 (xT k t)]):=by
 refine bD func72 rfl λR a=>?_
 have b:∀h,az C h (.func 110 []) (some [aQ k,.isl [enc t] .full])=some (.tuple [if xT k t=0 then aQ (ft (k++[t]))else aQ [],.int .i64 (xT k t)],h):=λh=>by refine ah (args':=[aQ k,aQ [t]]) rfl rfl s_ ?_;rw[Ca k [t] s_ hs hn,G5];split<;>rfl
 simp[go_sem,aQ,dU,dm];rw[show AV.isl (k.map enc) .unk=aQ k from rfl];simp[go_sem,b];refine a ⟨_,by simp[ag,df,cG,f72,go_sem];rfl,cw ?_ ?_ s_⟩<;>(split<;>rfl)
theorem CG(k:Lq) (x:Ext) (t:T) (hs:sizes (k++[t])<4000000) (hn:∀y∈k++[t],nf gF y) (h:H):az C h (.func 72 []) (some [.isl (k.map enc) x,enc t])=some (.tuple [if xT k t=0 then aQ (ft (k++[t]))else aQ [],.int .i64 (xT k t)],h):=
 ah (args':=[aQ k,enc t]) (by rw[bJ];rfl) (by rw[bJ];rfl) s_ (EV k t hs hn)
theorem Ug(l:Lq) (t:T) (hl:∀y∈l,y.size<4000000) (hn:l.length<4000000) (ht:t.size<4000000):ay C 73 [aQ l,enc t]=some (.bool (oi l t)):=by
 refine bD func73 rfl λR a=>?_
 have b:=CM l .unk t hl hn ht;simp[go_sem,aQ,dU,b];exact a ⟨.bool (oi l t),by simp[ag,cG,f73,go_sem],aL rfl rfl⟩
theorem JU(l:Lq) (x:Ext) (t:T) (hl:∀y∈l,y.size<4000000) (hn:l.length<4000000) (ht:t.size<4000000) (h:H):az C h (.func 73 []) (some [.isl (l.map enc) x,enc t])=some (.bool (oi l t),h):=
 ah (args':=[aQ l,enc t]) (by rw[bJ];rfl) (by rw[bJ];rfl) s_ (Ug l t hl hn ht)
def qr(t:T):T × Int:=if dW t≠0 then(zT,dW t)else match qp t with
 |some k=>(k,0)
 |none=>(zT,if iH t oS=true then 4 else 10)
theorem jq{t:T}(h:gh t=0) (k:t.kind=3):nU t=true/\rf t.name≠0/\jk t.kids=0:=by
 rw[Ao,if_neg (by simp[k])]at h;split at h
 ·cases h
 rename_i q;split at h
 ·cases h
 rename_i a;split at h
 ·cases h
 exact⟨by simpa using a,q,h⟩
theorem ru:∀ {l:Lq},jk l=0->∀t∈l,gh t=0
 |[],_,t,h=>by simp at h
 |a::l,e,t,h=>by
  rw[jk]at e;have e:=thn_zero.1 e;rcases ak.1 h with rfl|h
  ·exact e.1
  exact ru e.2 t h
theorem yo{t:T}(h:nU t=true) (hn:t.name=uA\/t.name=oS):t.kids.length=2:=by
 have e:∀n,n=uA\/n=oS->uY n=some ⟨n,2,2,1⟩:=λn hn=>by
  rcases hn with rfl|rfl
  ·kernel_rfl
  kernel_rfl
 unfold nU at h;rw[e _ hn]at h;simp only[aq,decide_eq_true_eq]at h;omega
theorem Lc{t:T}(h:nU t=true) (hn:t.name=nPk):t.kids.length=1:=by have e:uY nPk=some ⟨nPk,1,1,1⟩:=k_;unfold nU at h;rw[hn,e]at h;simp only[aq,decide_eq_true_eq]at h;omega
theorem hG(l:Lq) (k:Nat) (hk:k<l.length):bP C.P 37 (aQ l) (.int .i64 (k:Nat))=some (.iptr (enc l[k]) 0):=fL l k hk
theorem Rq(t:T) (hs:t.size<4000000):ay C 232 [enc t]=some (gX (qr t)):=by
 refine bD func232 rfl λR y=>?_
 have fin:∀(d:PT) (r:T) (x:VObj) (l:H),d.get 2=.ptr 1 0->d.get 3=.int .i64 0->qr t=(r,0)->R .ret d (x::.cells (enc r).cells .live::l):=λd r x l s u e=>y ⟨gX (r,0),by
  have:aX C.P (x::.cells (enc r).cells .live::l) 39 (.ptr 1 0)=some (enc r):=yg r rfl;simp[ag,df,cG,f232,s,u,this,gX],by rw[e];exact qZ _ _ _⟩
 have b:∀(d:PT) (x:VObj) (l:H) (e:Int),d.get 2=.ptr 1 0->d.get 3=.int .i64 e->qr t=(zT,e)->R .ret d (x::.cells [.int .i64 0,.str ⟨#[]⟩,.int .i64 0,.isl [] .full] .live::l):=λd x l e s u h=>y ⟨.tuple [.agg [.int .i64 0,.str ⟨#[]⟩,.int .i64 0,.isl [] .full],.int .i64 e],by
  simp[ag,df,cG,f232,s,u,go_sem],by rw[h];exact vk _ _⟩
 have m:=vR t hs;have o:=wR t;by_cases q:dW t=0
 ·have v:=(jD q).2;by_cases j:iH t uA=true
  ·have⟨p,w⟩:=eE j;have A:=yo (jq v p).1 (.inl w);have a:bP C.P 37 (aQ t.kids) (.int .i64 1)=some (.iptr (enc t.kids[1]) 0):=hG t.kids 1 o_;have e:qr t=(t.kids[1],0):=by unfold qr qp;rw[if_neg (by simp[q]),if_pos j,aC o_]
   have c:iH t ⟨#[101,110,99]⟩=true:=j;simp only[aQ]at a;simp[go_sem,aQ,lw,aa,dU,m,q,o,c,a];exact fin _ _ _ _ g_ g_ e
  have c:iH t ⟨#[101,110,99]⟩=false:=iM.2 j;by_cases g:iH t oS=true
  ·have⟨p,w⟩:=eE g;have A:=yo (jq v p).1 (.inr w);have a:bP C.P 37 (aQ t.kids) (.int .i64 1)=some (.iptr (enc t.kids[1]) 0):=hG t.kids 1 o_;have f:iH t ⟨#[97,101,110,99]⟩=true:=g;have c3:=wR t.kids[1];have z:t.kids[1]?=some t.kids[1]:=aC o_;by_cases n:iH t.kids[1] nPk=true
   ·have⟨B,D⟩:=eE n;have E:=ru (jq v p).2.2 t.kids[1] (aG _);have F:=Lc (jq E B).1 D;have i:bP C.P 37 (aQ t.kids[1].kids) (.int .i64 0)=some (.iptr (enc t.kids[1].kids[0]) 0):=hG t.kids[1].kids 0 o_;have k:iH t.kids[1] ⟨#[112,107]⟩=true:=n;have e:qr t=(t.kids[1].kids[0],0):=by unfold qr qp;rw[if_neg (by simp[q]),if_neg j,if_pos g,z,cN,if_pos n,aC o_]
    simp only[aQ]at a i;simp[go_sem,aQ,lw,aa,dU,m,q,o,c,f,a,c3,k,i];exact fin _ _ _ _ g_ g_ e
   have k:iH t.kids[1] ⟨#[112,107]⟩=false:=iM.2 n;have e:qr t=(zT,4):=by unfold qr qp;rw[if_neg (by simp[q]),if_neg j,if_pos g,z,cN,if_neg n];dsimp only;rw[if_pos g]
   simp only[aQ]at a;simp[go_sem,aQ,lw,aa,dU,m,q,o,c,f,a,c3,k,za];exact b _ _ _ _ g_ g_ e
  have f:iH t ⟨#[97,101,110,99]⟩=false:=iM.2 g;have e:qr t=(zT,10):=by unfold qr qp;rw[if_neg (by simp[q]),if_neg j,if_neg g];dsimp only;rw[if_neg g]
  simp[go_sem,aQ,lw,aa,dU,m,q,o,c,f,za];exact b _ _ _ _ g_ g_ e
 have e:qr t=(zT,dW t):=by unfold qr;rw[if_pos q]
 simp[go_sem,aQ,lw,aa,dU,m,q,za];exact b _ _ _ _ g_ g_ e
theorem Ow(t:T) (hs:t.size<4000000) (h:H):az C h (.func 232 []) (some [enc t])=some (gX (qr t),h):=ah (dC _) (by simp[aw]) s_ (Rq t hs)
theorem nD(x y:Operand) (a b:ByteArray) (hs:a.size+b.size<9223372036854775807):jC C.P .add 9 x y (.str a) (.str b)=some (.str (a++b)):=by
 have e:dA C.P (do eqGuard BinOp.add 9 x y (.string a) (.string b);binOp .add 9 (.string a) (.string b))=some (.string (a++b)):=by have c:¬(9223372036854775807:Int)<(a.size:Int)+b.size:=o_;simp[eqGuard,binOp,Op.stringOp,c];try rfl
 simp only[jC,fE,ce,e,dl,dT]
@[go_sem] theorem TS (P:Program) (a b:TypeId) (es:LA) (x:Ext):G7 P a b (.isl es x)=vK P a b es:=(rfl)
def bs(l:List UInt8):ByteArray:=⟨l.toArray⟩
theorem SS(a b:List UInt8):bs a++bs b=bs (a++b):=by apply ByteArray.ext;simp[bs]
theorem HK(a:List UInt8):(bs a).size=a.length:=by simp[bs,ByteArray.size]
theorem xK(x y:Operand) (a b:List UInt8) (hs:a.length+b.length<9223372036854775807):jC C.P .add 9 x y (.str (bs a)) (.str (bs b))=some (.str (bs (a++b))):=by rw[nD _ _ _ _ (by rw[HK,HK];exact hs),SS]
theorem Ol:(List.range 256).all (λn=>match zE C.P 3 5 (.int .i64 n)with|some (.int .u8 m)=>decide (m=n)|_=>false)=true:=k_
theorem cvb(n:Nat) (h:n<256):zE C.P 3 5 (.int .i64 n)=some (.int .u8 n):=by
 have:=bM.mp Ol n (dO.mpr h);split at this
 ·rename_i m e;simp only[decide_eq_true_eq]at this;rw[e,this]
 cases this
theorem NA:C.P.underlying 25=some (.slice 5):=underlying25
theorem s5:cS C.P 5=some 1:=k_
theorem z5:fe C.P 5=true:=k_
theorem Ja(h:H) (a b c:Int):cQ C.P h 25 3 [(0,.int .u8 a),(1,.int .u8 b),(2,.int .u8 c)]=some (.isl [.int .u8 a,.int .u8 b,.int .u8 c] .full,h):=cW NA s5 z5 rfl o_ rfl rfl rfl s_ rfl
theorem BH(h:H) (a:Int):cQ C.P h 25 1 [(0,.int .u8 a)]=some (.isl [.int .u8 a] .full,h):=cW NA s5 z5 rfl o_ rfl rfl rfl s_ rfl
theorem SL(a b c:Nat):vK C.P 25 9 ([.int .u8 a,.int .u8 b,.int .u8 c])=some (.str (bs [UInt8.ofNat a,UInt8.ofNat b,UInt8.ofNat c])):=by unfold vK;rw[NA,show C.P.underlying 9=some .string from underlying9];dsimp only;rw[show C.P.underlying 5=some (.int .u8)from underlying5];rfl
theorem Lv(a:Nat):vK C.P 25 9 ([.int .u8 a])=some (.str (bs [UInt8.ofNat a])):=by unfold vK;rw[NA,show C.P.underlying 9=some .string from underlying9];dsimp only;rw[show C.P.underlying 5=some (.int .u8)from underlying5];rfl
def prt(t:T):ByteArray:=bs (jL t)
def jM(t:T):List UInt8:=[UInt8.ofNat t.kind.toNat,UInt8.ofNat t.sort.toNat,UInt8.ofNat t.kids.length]++t.name.data.toList++[40]
theorem wd(a b:Lq):dM (a++b)=dM a++dM b:=by
 induction a with
 |nil=>rfl
 |cons x a c=>rw[cP,dM,dM,c];simp
theorem IF:∀t:T,dG t=0->(jL t).length<=40*t.size:=by
 refine T.ind λt i d=>?_
 have⟨_,_,_,e,f⟩:=qD (ee d);have j:t.name.data.toList.length<=24:=by simp only[jt,aq,decide_eq_true_eq]at e;have:=e.1.1.2;rw[dF];exact this
 have b:∀l:Lq,(∀k∈l,(jL k).length<=40*k.size)->(dM l).length<=40*sizes l+l.length:=by
  intro l;induction l with
  |nil=>intro _;simp[dM]
  |cons a l c=>
   intro h;have m:=h a s_;have n:=c λk f=>h k (by simp[f])
   rw[dM,aK,aF,sizes,aF];omega
 have:=b t.kids λk g=>i k g (kE t d k (uR g))
 rw[sq,size_kids];simp only[aK,aF,aP];omega
def P0(t:T) (m:Nat) (st:PT) (h:H):Prop:=∃k:Nat,m=t.kids.length-k/\k<=t.kids.length/\h=[.cells (enc t).cells .live]/\st.get 1=.ptr 0 0/\st.get 4=.int .i64 k/\st.get 3=.str (bs (jM t++dM (t.kids.take k)))
theorem U5(n:ByteArray):n=bs n.data.toList:=by cases n;simp[bs]
theorem Kb(t:T) (hs:t.size<4000000) (hv:dG t=0) (hc:∀k∈t.kids,ay C 170 [enc k]=some (.str (prt k))):ay C 170 [enc t]=some (.str (prt t)):=by
 refine bD func170 rfl λR J=>?_
 have F:=IF t hv;have i:jL t=jM t++dM t.kids++[41]:=by rw[sq];rfl
 have⟨K,L,M,_,N⟩:=qD (ee hv);obtain⟨c,d⟩:∃n:Nat,t.kind=n:=⟨t.kind.toNat,o_⟩
 obtain⟨e,f⟩:∃n:Nat,t.sort=n:=⟨t.sort.toNat,o_⟩
 have O:=cvb c o_;have Q:=cvb e o_;have b3:=cvb t.kids.length o_;have hl:(jM t).length+(dM t.kids).length+1<1000000000:=by have:=congrArg List.length i;simp only[aK,aF,aP]at this;omega
 have j:jM t=[UInt8.ofNat c,UInt8.ofNat e,UInt8.ofNat t.kids.length]++t.name.data.toList++[40]:=by rw[jM,d,f];rfl
 have S:t.name.data.toList.length<=(jM t).length:=by rw[j];simp;omega
 have v:=λx y=>xK x y [UInt8.ofNat c,UInt8.ofNat e,UInt8.ofNat t.kids.length] t.name.data.toList (by simp only[aF,aP];omega)
 have w:=λx y=>xK x y ([UInt8.ofNat c,UInt8.ofNat e,UInt8.ofNat t.kids.length]++t.name.data.toList) [40] (by simp only[aK,aF,aP];omega)
 rw[<-j]at w;rw[<-U5]at v;obtain⟨q,U⟩:∃q,q=[UInt8.ofNat c,UInt8.ofNat e,UInt8.ofNat t.kids.length]++t.name.data.toList:=⟨_,rfl⟩
 rw[<-U]at v w;have z:(⟨#[40]⟩:ByteArray)=bs [40]:=rfl;have a:(enc t).cells=[.int .i64 (c:Int),.str t.name,.int .i64 (e:Int),.isl (t.kids.map enc) .unk]:=by rw[bB,d,f];rfl
 have V:=SL c e t.kids.length;simp[go_sem,aQ,d,f,O,Q,b3,Ja,V,v,z,w];have A:(⟨#[44]⟩:ByteArray)=bs [44]:=rfl;have B:(⟨#[41]⟩:ByteArray)=bs [41]:=rfl;refine bR (P0 t) t.kids.length ⟨0,rfl,aO _,by rw[a],g_,g_,by simp[go_sem,dM]⟩ ?_;have X:=size_kids t;have Y:=len_sizes t.kids;rintro m st h ⟨k,rfl,hk,rfl,G,I,l⟩;by_cases b:k<t.kids.length
 ·have o:(k:Int)<t.kids.length:=o_;have D:=hG t.kids k b;have Z:=wS k o_;have ck:∀h,az C h (.func 170 []) (some [enc t.kids[k]])=some (.str (bs (jL t.kids[k])),h):=λh=>ah (dC _) (by simp[aw]) s_ (hc _ (aG b))
  have p:dM (t.kids.take (k+1))=dM (t.kids.take k)++jL t.kids[k]++[44]:=by rw[aI b,wd];simp[dM]
  have r:dM t.kids=dM (t.kids.take (k+1))++dM (t.kids.drop (k+1)):=by rw[<-wd,mH]
  have s:=congrArg List.length r;rw[p]at s;simp only[aK,aF,aP]at s;have g:=λx y=>xK x y (jM t++dM (t.kids.take k)) (jL t.kids[k]) (by rw[aK];omega)
  have u:=λx y=>xK x y (jM t++dM (t.kids.take k)++jL t.kids[k]) [44] (by simp only[aK,aF,aP];omega)
  have e2:jM t++dM (t.kids.take k)++jL t.kids[k]++[44]=jM t++dM (t.kids.take (k+1)):=by rw[p];simp only[dD]
  rw[e2]at u;generalize jM t++dM (t.kids.take k)++jL t.kids[k]=z1 at g u;generalize jM t++dM (t.kids.take k)=z0 at g l;generalize E:jM t++dM (t.kids.take (k+1))=z2 at u;simp[go_sem,G,l,I,o,D,ck,g,A,u,-Int.natCast_add,Z];exact⟨t.kids.length-(k+1),o_,k+1,rfl,b,rfl,g_,g_,by simp[go_sem,E]⟩
 have:k=t.kids.length:=o_;subst this;rw[ao]at l;have g:=λx y=>xK x y (jM t++dM t.kids) [41] (by simp only[aK,aF,aP];omega)
 rw[<-i]at g;generalize jM t++dM t.kids=z0 at g l;simp[go_sem,G,l,I,B,g];exact J ⟨.str (prt t),by simp[ag,cG,f170,go_sem,prt],aL rfl rfl⟩
theorem BZ:∀t:T,t.size<4000000->dG t=0->ay C 170 [enc t]=some (.str (prt t)):=by refine T.ind λt c d b=>Kb t d b λk a=>c k a (by have:=kid_size a;omega) (kE t b k (uR a))
theorem tH(t:T) (hs:t.size<4000000) (hv:dG t=0) (h:H):az C h (.func 170 []) (some [enc t])=some (.str (prt t),h):=ah (dC _) (by simp[aw]) s_ (BZ t hs hv)
theorem XH(n:ByteArray) (h:jt n=true):(40:UInt8)∉n.data.toList:=by
 simp only[jt,aq]at h;have a:∀(m k:Nat),ox n k m=true->∀i,k<=i->i<k+m->tZ (dI n i)=true:=by
  intro m;induction m with
  |zero=>intro k _ i f g;omega
  |succ m j=>
   intro k b i f g;rw[ox,aq]at b;by_cases e:i=k
   ·subst e;exact b.1
   exact j (k+1) b.2 i o_ o_
 intro l;have⟨i,d,e⟩:=nG.1 l;have c:i<n.size:=by rw[dF]at d;exact d
 have:=a n.size 0 h.2 i o_ o_;have o:dI n i=40:=by
  unfold dI;rw[dif_pos c];have:n[i]=(40:UInt8):=by rw[<-e,nJ];rfl
  rw[this];rfl
 rw[o]at this;exact absurd this d_
theorem NZ{t u:T}(ht:dG t=0) (hu:dG u=0) (h:prt t=prt u):t=u:=by
 have e:jL t=jL u:=by have:=congrArg (λb:ByteArray=>b.data.toList) h;simpa[prt,bs]using this
 exact(IG XH t ht u [] [] hu (by simpa using e)).1
def nr(ps:List (ByteArray × Nat)):List (AV × AV):=ps.map λp=>(.str p.1,.int .i64 p.2)
def Lk(ns:List ByteArray) (i:Nat):List MapEntry:=ns.zipIdx i |>.map λp=>{key:=.string p.1,val:=.int .i64 p.2,born:=0}
theorem QK:∀(ps:List (ByteArray × Nat)) (i:Nat),kh (nr ps) i=some (Lk (ps.map (·.1)) i)
 |[],i=>rfl
 |n::ns,i=>by have ih:=QK ns (i+1);simp only[nr,Lk,aS]at ih ⊢;simp only[kh,ih,fE,ce,mZ,aS]
theorem Lf(s:ByteArray):∀(ns:List ByteArray) (i j:Nat),∃r,Instr.findNow .string (.string s) (Lk ns i) j=some r/\(∀k,ns.idxOf? s=some k->∃v,r=some (j+k,v))/\(ns.idxOf? s=none->r=none)
 |[],i,j=>⟨none,rfl,s_,λ_=>rfl⟩
 |n::ns,i,j=>by
  have⟨r,h1,h2,h3⟩:=Lf s ns (i+1) (j+1);have e:Instr.sameNow .string (.string s) (.string n)=some (decide (s=n)):=by rw[<-Pc];rfl
  have u:Instr.findNow .string (.string s) (Lk (n::ns) i) j=(match Instr.sameNow .string (.string s) (.string n)with
   |some true=>some (some (j,.int .i64 (i:Nat)))
   |some false=>Instr.findNow .string (.string s) (Lk ns (i+1)) (j+1)
   |none=>none):=rfl
  rw[u,e,List.idxOf?_cons];by_cases q:s=n
  ·subst q;have:(s==s)=true:=by rw[Pc];simp
   rw[decide_eq_true rfl,this];exact⟨_,rfl,λk a=>⟨_,by simp at a;subst a;rfl⟩,λh=>by simp at h⟩
  have:(n==s)=false:=by rw[Pc];simpa using λh=>q h.symm
  rw[decide_eq_false q,this];refine⟨r,h1,λk a=>?_,λh=>h3 (by simpa using h)⟩;simp only[am,if_false,cF]at a;obtain⟨c,b,rfl⟩:=a;have⟨v,d⟩:=h2 c b;exact⟨v,by rw[d];congr 2;omega⟩
theorem Xt(b:Bool) (a:ByteArray):dA prog (Instr.checkKey b 10000 9 (.string a))=some ():=by cases b<;>kernel_rfl
theorem QL(b:Bool) (s:ByteArray) (ps:List (ByteArray × Nat)):vE prog b 9 (.str s) (nr ps)=some ((ps.map (·.1)).idxOf? s):=by
 have⟨r,a,c,d⟩:=Lf s (ps.map (·.1)) 0 0;have f:fE (.str s)=some (.string s):=rfl;have:vE prog b 9 (.str s) (nr ps)=some (r.map (·.1)):=by unfold vE;rw[f,QK];dsimp only;unfold MV;rw[iC,Xt];simp only[cN];unfold Instr.findKey;rw[iC,KT underlying9];simp only[cN,a];rfl
 rw[this];cases e:(ps.map (·.1)).idxOf? s with
 |none=>rw[d e];rfl
 |some k=>have⟨v,g⟩:=c k e;rw[g];simp
theorem Tp:C.P.underlying 183=some (.map 9 3):=underlying183
def ixM(u:Lq) (k:Nat):List (ByteArray × Nat):=(u.take k).zipIdx.map λp=>(prt p.1,p.2)
def RB(u:Lq):Prop:=u.Nodup/\∀t∈u,dG t=0/\t.size<4000000
theorem DL(u:Lq) (k:Nat):(ixM u k).map (·.1)=(u.take k).map prt:=by
 unfold ixM;rw[iK];have:∀(l:Lq) (i:Nat),(l.zipIdx i).map ((λx=>x.fst)∘λp=>(prt p.1,p.2))=l.map prt:=by
  intro l;induction l with
  |nil=>intro i;rfl
  |cons a l b=>intro i;rw[mZ,aS,b];rfl
 exact this _ 0
theorem Gy{l:Lq}(hl:∀t∈l,dG t=0) (hn:l.Nodup){t:T}(ht:dG t=0):(t∈l->(l.map prt).idxOf? (prt t)=some (ixU l t))/\(t∉l->(l.map prt).idxOf? (prt t)=none):=by
 induction l with
 |nil=>exact⟨λh=>by simp at h,λ_=>rfl⟩
 |cons a l b=>
  have b:=b (λx d=>hl x (by simp[d])) (ke.1 hn).2;have f:(prt a==prt t)=decide (a.cmp t=0):=by rw[Pc,eZ];simp only[decide_eq_true_eq];exact⟨λe=>by rw[NZ (hl a s_) ht e,cmp_refl],λe=>by rw[cmp_zero.1 e]⟩
  rw[aS,List.idxOf?_cons,f];by_cases q:a.cmp t=0
  ·have:=cmp_zero.1 q;subst this;refine⟨λ_=>?_,λh=>by simp at h⟩;simp[ixU,List.findIdx_cons,q]
  have c:t≠a:=λe=>q (by rw[e,cmp_refl])
  simp only[q,decide_false,am,if_false,ak];refine⟨λh=>?_,λh=>?_⟩
  ·rw[b.1 (h.resolve_left c)];simp[ixU,List.findIdx_cons,q]
  rw[b.2 λg=>h (.inr g)];rfl
theorem K8{u:Lq}{k:Nat}(hk:k<u.length):ixM u (k+1)=ixM u k++[(prt u[k],k)]:=by unfold ixM;rw[aI hk,List.zipIdx_append,bY];simp[nO (kI hk)]
theorem N2{u:Lq}{i:Nat}(hi:i<u.length):(ixM u u.length)[i]?=some (prt u[i],i):=by unfold ixM;rw[ao,bW,List.getElem?_zipIdx,aC hi];simp
theorem lkI{h:H}{q:Nat}{u:Lq}(ho:RB u) (hq:h[q]?=some (.map (nr (ixM u u.length)))){t:T}(ht:t∈u):mf C.P h 183 (.mp q) (.str (prt t)) false=some (.int .i64 (ixU u t)):=by
 have a:=QL (nr (ixM u u.length)).isEmpty (prt t) (ixM u u.length);rw[DL,ao,(Gy (λx b=>(ho.2 x b).1) ho.1 (ho.2 t ht).1).1 ht]at a;unfold mf;rw[Tp];dsimp only;rw[hq];dsimp only;rw[show vE C.P (nr (ixM u u.length)).isEmpty 9 (.str (prt t)) (nr (ixM u u.length))=_ from a];dsimp only;have:(nr (ixM u u.length))[ixU u t]?=some (.str (prt (u[ixU u t]'(sF ht))),.int .i64 (ixU u t:Nat)):=by rw[nr,bW,N2 (sF ht)];rfl
 rw[this];rfl
theorem upI{h:H}{q k:Nat}{u:Lq}(ho:RB u) (hk:k<u.length) (hq:h[q]?=some (.map (nr (ixM u k)))):ed C.P h 183 (.mp q) (.str (prt u[k])) (.int .i64 k)=some (h.set q (.map (nr (ixM u (k+1))))):=by
 have b:=QL false (prt u[k]) (ixM u k);have a:u[k]∉u.take k:=λc=>by
  have⟨j,d,e⟩:=nG.1 c;rw[List.getElem_take]at e;have f:j<k:=by rw[ac]at d;omega
  exact absurd ((List.getElem_inj ho.1).1 e) o_
 rw[DL,(Gy (λx g=>(ho.2 x (bX g)).1) (ho.1.sublist (List.take_sublist _ _)) (ho.2 _ (aG hk)).1).2 a]at b;unfold ed;rw[Tp];dsimp only;rw[hq];dsimp only;rw[show vE C.P false 9 (.str (prt u[k])) (nr (ixM u k))=_ from b];dsimp only;rw[if_neg (by simp[bV]),if_pos (by rfl),K8 hk];simp[nr]
theorem u53:C.P.underlying 53=some (.slice 3):=underlying53
theorem s53:cS C.P 53=some 1:=k_
theorem a53:eW C.P 53=some false:=k_
theorem Xf:iG C.P 53=some 3:=k_
theorem Qa:C.P.underlying 185=some (.slice 189):=underlying185
theorem Eo:cS C.P 189=some 2:=k_
theorem VM:eW C.P 189=some true:=k_
theorem Xy:gl C.P 189=some 32:=k_
theorem Tm:fe C.P 189=true:=k_
theorem Th:gy C.P 189=some (.agg [.isl [] .full,.int .i64 0]):=k_
theorem Uc:iG C.P 185=some 189:=k_
attribute [go_sem] Xf Uc Th
theorem SY:fZ C.P 189 [(1,.int .i64 (-1))]=some (.agg [.isl [] .full,.int .i64 (-1)]):=k_
theorem OO(i:Nat):bH C.P 189 (.ptr i 0) 0=some (.ptr i 0):=k_
theorem ON(i:Nat):bH C.P 189 (.ptr i 0) 1=some (.ptr i 1):=k_
attribute [go_sem] OO ON
theorem Rc(a b:AV):ldM C.P 53 0 (some (.cells [a,b] .live))=some a:=by simp[ldM,ae,a53,s53]
theorem Rb(a b:AV):ldM C.P 3 1 (some (.cells [a,b] .live))=some b:=by simp[ldM,ae,a3,s3]
theorem Ra(a b:AV):ldM C.P 189 0 (some (.cells [a,b] .live))=some (.agg [a,b]):=by simp[ldM,ae,VM,Eo]
theorem Tr(h:H) (i:Nat) (a b a' b':AV):stM C.P 189 (.agg [a',b']) 0 h i (some (.cells [a,b] .live))=some (pt h i (.cells [a',b'] .live)):=rh Eo h i _ _ rfl rfl
theorem Ql(h:H) (i:Nat) (a b:AV) (es:LA) (x:Ext):stM C.P 53 (.isl es x) 0 h i (some (.cells [a,b] .live))=some (pt h i (.cells [.isl es x,b] .live)):=uZ s53 h i 0 _ _ rfl s_
theorem Qk(h:H) (i:Nat) (a b:AV) (n:Int):stM C.P 3 (.int .i64 n) 1 h i (some (.cells [a,b] .live))=some (pt h i (.cells [a,.int .i64 n] .live)):=uZ s3 h i 1 _ _ rfl s_
attribute [go_sem] Rc Rb Ra Tr Ql Qk
def bU(l:List Int):LA:=l.map (AV.int .i64)
theorem oE(l:List Int):iN 1 (bU l)=true:=by cases l<;>rfl
theorem zi{h:H}{v:AV}{xs ys:List Int}{x:Ext}(o:OwnR 3 h v (bU xs)) (hl:xs.length+ys.length<=100000000000) :
  ∃v' h',cL C.P false h 53 v (.isl (bU ys) x)=some (v',h')/\OwnR 3 h' v' (bU (xs++ys))/\Keep h h' (bj v)/\(bj v'=bj v\/bj v=none/\bj v'=some h.length):=by
 have:=jS (x:=x) u53 s3 b3 z3 rfl o (oE xs) (oE ys) (by simp only[bU,aU];omega);rwa[show bU xs++bU ys=bU (xs++ys) by simp[bU]]at this
theorem tI(h:H) (n:Int):cQ C.P h 53 1 [(0,.int .i64 n)]=some (.isl [.int .i64 n] .full,h):=cW u53 s3 z3 rfl o_ rfl rfl rfl s_ rfl
theorem BF(h:H):cQ C.P h 53 0 []=some (.isl [] .full,h):=cW u53 s3 z3 rfl o_ rfl rfl rfl s_ rfl
theorem wt(u:Lq) (t:T):(jZ u t).cells=[.isl (t.kids.map λk=>.int .i64 (ixU u k)) .unk,.int .i64 (sE u t)]:=rfl
theorem zW(h:H) (es:LA) (x:Ext) (n:Int):cQ C.P h 185 1 [(0,.agg [.isl es x,.int .i64 n])]=some (.isl [.agg [.isl es .unk,.int .i64 n]] .full,h):=cW Qa Eo Tm rfl o_ rfl rfl rfl s_ rfl
theorem GQ(u:Lq) (l:Lq):iN 2 (l.map (jZ u))=true:=by cases l<;>rfl
theorem Jf{h:H}{v:AV}{u xs ys:Lq}{x:Ext}(o:OwnR 189 h v (xs.map (jZ u))) (hl:xs.length+ys.length<=100000000000) :
  ∃v' h',cL C.P false h 185 v (.isl (ys.map (jZ u)) x)=some (v',h')/\OwnR 189 h' v' ((xs++ys).map (jZ u))/\Keep h h' (bj v)/\(bj v'=bj v\/bj v=none/\bj v'=some h.length):=by
 have:=jS (x:=x) Qa Eo Xy Tm rfl o (GQ u xs) (GQ u ys) (by simp only[aU];omega);rwa[<-bY]at this
def da(u:Lq) (l:Lq):List Int:=l.map λk=>(ixU u k:Int)
theorem wo(u l:Lq):bU (da u l)=l.map λk=>AV.int .i64 (ixU u k):=by simp[bU,da]
def X8(u:Lq) (q:Nat) (h0:H) (m:Nat) (st:PT) (h:H):Prop:=∃k:Nat,m=u.length-k/\k<=u.length/\Pre h0 h/\st.get 0=aQ u/\st.get 1=.mp q/\st.get 6=.int .i64 k/\OwnR 189 h (st.get 5) ((u.take k).map (jZ u))/\(∀i,bj (st.get 5)=some i->h0.length<=i)
def YD(u:Lq) (q k:Nat) (t:T) (p:Nat) (v5:AV) (h0:H) (m:Nat) (st:PT) (h:H):Prop:=∃(j:Nat) (v:AV),m=t.kids.length-j/\j<=t.kids.length/\Pre h0 h/\h0.length<=p/\st.get 0=aQ u/\st.get 1=.mp q/\st.get 5=v5/\st.get 6=.int .i64 k/\st.get 7=.ptr p 0/\st.get 8=.int .i64 j /\
 h[p]?=some (.cells [v,.int .i64 (-1)] .live)/\OwnR 3 h v (bU (da u (t.kids.take j)))/\OwnR 189 h v5 ((u.take k).map (jZ u))/\∀i,bj v=some i->h0.length<=i
theorem Pre.keep{h0 h h':H}{v:AV}(p:Pre h0 h) (k:Keep h h' (bj v)) (hv:∀i,bj v=some i->h0.length<=i):Pre h0 h':=by
 refine⟨h'.drop h0.length,?_⟩;apply cV;intro j;have b:=k.1;have c:=p.len;by_cases a:j<h0.length
 ·rw[aM a];have e:h[j]?=h0[j]?:=by obtain⟨g,rfl⟩:=p;rw[aM a]
  rw[<-e];exact k.2 j o_ (λe=>by have:=hv j e;omega)
 rw[aY o_,bk];congr 1;omega
def IN(u:Lq):Prop:=RB u/\u.length<4000000/\(∀t∈u,∀k∈t.kids,k∈u)/\∀t∈u,dW t=0
theorem K6{u:Lq}(ho:IN u){t k:T}(ht:t∈u) (hk:qp t=some k):k∈u:=by
 rcases DK hk with h|⟨p,a,h⟩
 ·exact ho.2.2.1 t ht k h
 exact ho.2.2.1 p (ho.2.2.1 t ht p a) k h
theorem IE(u:Lq) (ho:IN u) (h0:H) (q:Nat) (hq:h0[q]?=some (.map (nr (ixM u u.length)))):∃g,az C h0 (.func 171 []) (some [aQ u,.mp q])=some (ID u,h0++g):=by
 suffices hh:∃r s,Go.V.Call C 171 [aQ u,.mp q] h0=some (r,s)/\∃g,s=h0++g/\gE (h0++bi g) dH r=some (ID u) by
  obtain⟨r,s,a,g,rfl,b⟩:=hh;exact⟨bi g,Oq k_ rfl a b⟩
 have⟨f,z9,q',z1⟩:=id ho;refine oC rfl func171 rfl k_ (by simp[f171]) λR hR=>?_
 simp[go_sem];refine bR (X8 u q h0) u.length ⟨0,rfl,aO _,((Pre.refl h0).app _).app _,g_,g_,g_,.inr ⟨h0.length+1,g_,s_⟩,by simp[go_sem,bj]⟩ ?_;rintro m st h ⟨k,rfl,hk,t,g0,g1,g6,B,N⟩;obtain⟨Y,e5⟩:∃v,v=st.get 5:=⟨_,rfl⟩
 rw[<-e5]at B N;by_cases w:k<u.length
 ·have q0:(k:Int)<u.length:=o_;have D:=hG u k w;have d:=aG w;have E:=t.get hq;have w2:=wS k o_;simp[go_sem,g0,g6,q0,SY,aa];refine bR (YD u q k u[k] h.length Y h0) u[k].kids.length ⟨0,.isl [] .full,rfl,aO _,t.app _,t.len,g_,g_,by simp[go_sem,<-e5],g_,g_,g_,s_,.inl (by simp[da,bU]),OwnR.app B _,by simp[bj]⟩ ?_;generalize ep:h.length=p at *;clear t E;rintro m2 y' h2 ⟨j,v,rfl,hj,t,O,F,I,r5,Q,S,Z,mp,U,B,q1⟩;have E:=t.get hq;have y0:=If u[k].kids;by_cases J:j<u[k].kids.length
  ·have q2:(j:Int)<u[k].kids.length:=o_;have q3:=hG u[k].kids j J;have l:u[k].kids[j]∈u:=q' _ d _ (aG J);have cp:=tH u[k].kids[j] (f.2 _ l).2 (f.2 _ l).1;have lk:=lkI f E l;have w3:IntKind.i64.wrap ((j:Int)+1)=((j+1:Nat):Int):=by rw[av (by have:=size_kids u[k];have:=len_sizes u[k].kids;have:=(f.2 _ d).2;omega)];omega
   have⟨y,s,K,c,z,n⟩:=zi (ys:=[(ixU u u[k].kids[j]:Int)]) (x:=.full) U (by have:=size_kids u[k];have:=len_sizes u[k].kids;have:=(f.2 _ d).2;simp only[da,aU,ac,aF,aP];omega);have z2:da u (u[k].kids.take j)++[(ixU u u[k].kids[j]:Int)]=da u (u[k].kids.take (j+1)):=by rw[aI J];simp only[da,bY,aS,au]
   rw[z2]at c;change cL C.P false h2 53 v (.isl [.int .i64 (ixU u u[k].kids[j])] .full)=some (y,s)at K;have z3:bj v≠some p:=cK U mp;have L:=z.get mp z3;have y1:∀i,bj v=some i->i<h2.length:=λi o=>U.lt o
   have q4:∀i,bj Y=some i->bj v≠some i:=ug d_ B U;have q5:=B.keep z q4;have y2:=(aB.1 hq).1;have q6:p<s.length:=(aB.1 L).1;have q7:∀i,bj y=some i->h0.length<=i:=λi o=>by
    rcases n with e|⟨_,e⟩
    ·exact q1 i (e▸o)
    rw[e]at o;simp only[aA]at o;have:=t.len;omega
   have q8:bj y≠some p:=cK c L;have z4:=t.keep z q1;have q9:∀i,bj Y=some i->some p≠some i:=λi o e=>by simp only[aA]at e;subst e;exact cK q5 L o
   obtain⟨x',rfl⟩:=c.isl;have⟨xv,z5⟩:=U.isl;simp[go_sem,F,Q,Z,D,q2];refine gJ 9 _ (by simp[fu]) rfl ?_;simp[go_sem,F,I,Q,S,Z,D,q3,G mp,cp,lk,tI,K,G L,-Int.natCast_add,w3];refine⟨?_,u[k].kids.length-(j+1),o_,j+1,_,rfl,J,z4.set O _,O,by simp[go_sem,F],by simp[go_sem,I],by simp[go_sem,r5],by simp[go_sem,Q],by simp[go_sem,S],g_,by rw[pt];exact aJ q6,c.keep (Keep.set _ _ _) (λi o e=>q8 (by rw[o,<-e])),q5.keep (Keep.set _ _ _) q9,q7⟩;simp[go_sem,ip,iF,iI,kK,er,dB,z5]
  have:j=u[k].kids.length:=o_;subst this;rw[ao]at U;obtain⟨xv,rfl⟩:=U.isl;have ck:=Ow u[k] (f.2 _ d).2;have z6:=(aB.1 mp).1;have z':=z1 _ d;simp[go_sem,F,Q,Z,D];simp[go_sem,ck,gX,lw,aa];have z7:∀i,bj Y=some i->some p≠some i:=λi o e=>by simp only[aA]at e;subst e;exact cK B mp o
  have z0:(u.take k).length+1<=100000000000:=by rw[ac];omega
  have M:∀(h3:H) (kx:Int),OwnR 189 h3 Y ((u.take k).map (jZ u))->Pre h0 h3->kx=sE u u[k]->∃y s,cL C.P false h3 185 Y (.isl [.agg [.isl (bU (da u u[k].kids)) .unk,.int .i64 kx]] .full)=some (y,s)/\OwnR 189 s y ((u.take (k+1)).map (jZ u))/\Pre h0 s/\∀i,bj y=some i->h0.length<=i:=λh3 kx o3 p3 z8=>by
   have⟨y,s,K,c,z,n⟩:=Jf (ys:=[u[k]]) (x:=.full) o3 (by simpa using z0);rw[<-aI w]at c;have e:jZ u u[k]=.agg [.isl (bU (da u u[k].kids)) .unk,.int .i64 kx]:=by rw[jZ,wo,z8]
   rw[aS,au,e]at K;exact⟨y,s,K,c,p3.keep z N,λi o=>by
    rcases n with e|⟨_,e⟩
    ·exact N i (e▸o)
    rw[e]at o;simp only[aA]at o;have:=p3.len;omega⟩
  generalize y3:bU (da u u[k].kids)=ki at *;cases A:qp u[k]with
  |some kk=>
   have e:qr u[k]=(kk,0):=by unfold qr;rw[if_neg (by simp[z']),A]
   have l:=K6 ho d A;have cp:=tH kk (f.2 _ l).2 (f.2 _ l).1;have lk:=lkI (h:=h2++[.cells (enc kk).cells .live]) f (ga E) l;have⟨y,s,K,c,X,n⟩:=M (pt h2 p (.cells [.isl ki xv,.int .i64 (ixU u kk)] .live)++[.cells (enc kk).cells .live]) (ixU u kk) (OwnR.app (B.keep (Keep.set _ _ _) z7) _) ((t.set O _).app _) (by rw[sE,A]);simp[go_sem,I,r5,Q,S,e,cp,lk,G (ga mp),z6,xe,zW,K,-Int.natCast_add,w2];exact⟨u.length-(k+1),o_,k+1,rfl,w,X,by simp[go_sem,F],by simp[go_sem,I],g_,by simpa[go_sem]using c,by simpa[go_sem]using n⟩
  |none=>
   have e:(qr u[k]).2≠0:=by unfold qr;rw[if_neg (by simp[z']),A];dsimp only;split<;>decide
   have⟨y,s,K,c,X,n⟩:=M (h2++[.cells (enc (qr u[k]).1).cells .live]) (-1) (OwnR.app B _) (t.app _) (by rw[sE,A]);simp[go_sem,r5,Q,S,e,G (ga mp),zW,K,-Int.natCast_add,w2];exact⟨u.length-(k+1),o_,k+1,rfl,w,X,by simp[go_sem,F],by simp[go_sem,I],g_,by simpa[go_sem]using c,by simpa[go_sem]using n⟩
 have:k=u.length:=o_;subst this;rw[ao]at B;have⟨x,hx⟩:=B.isl;simp[go_sem,g0,g6,<-e5,hx];obtain⟨g,rfl⟩:=t;exact hR _ _ _ (.inr rfl) ⟨.isl (u.map (jZ u)) x,by simp[ag,cG,f171,go_sem],g,rfl,aL rfl rfl⟩
end Go.VZ
namespace Go.V
open Go
theorem xC{C:Cfg}{f:FuncId}{h:H}{args args':LA}{v:AV}{R:List Nat}(hb:fA C.P f=true) (hm:C.mode f=.strip) (e2:cZ h dH args=R) (e1:gW (Go.V.freeze h R) dH args=some args') (hc:ay C f args'=some v) (hs:Hx v=true):az C h (.func f []) (some args)=some (v,h):=by
 simp only[az,hb,if_true,cC];unfold dJ;rw[hm];dsimp only;rw[e2,e1];unfold ay at hc;dsimp only;split at hc<;>try(cases hc;done)
 rename_i r b a;rw[a];dsimp only;unfold ld lQ;dsimp only;rw[hc];dsimp only;rw[if_pos hs]
theorem Eg{h:H}{id len:Nat}{cap:Option Nat}{cs:LA}(hid:h[id]?=some (.cells cs .live)) (hl:len<=cs.length) (hsc:pP cs=some cs) (hc:cs.length<900000)
  {a b a' b':AV}(hd:mz [a,b]=some [a',b']) (hs:[a,b].all short=true) :
  cZ h dH [a,b,.msl id 0 1 len cap]=[id]/\gW (freeze h [id]) dH [a,b,.msl id 0 1 len cap]=some [a',b',.isl (ja 1 len cs) .unk]:=by
 obtain⟨m,f⟩:∃m,dH=m+5:=⟨999995,rfl⟩
 have i:m=999995:=by unfold dH at f;omega
 have j:(freeze h [id])[id]?=some (.cells cs .frozen):=by rw[mw,hid];simp
 have⟨n,k⟩:=jQ (h:=h) hsc m o_;have⟨l,o⟩:=jQ (h:=freeze h [id]) hsc m o_;have⟨p,d⟩:=iu (h:=h) hd hs (m+5) (by simp;omega);have⟨c,q⟩:=iu (h:=freeze h [id]) hd hs (m+5) (by simp;omega);rw[f];constructor
 ·simp only[cZ,List.append_eq_nil_iff]at d;simp only[cZ];rw[d.1,d.2.1];simp only[ij,hid,k];rfl
 simp only[gW]at c ⊢;cases e:gE (freeze h [id]) (m+4) a with
 |none=>rw[e]at c;cases c
 |some x=>
  cases g:gE (freeze h [id]) (m+3) b with
  |none=>rw[e,g]at c;cases c
  |some y=>rw[e,g]at c;simp only[aA,cH,and_true]at c;obtain⟨rfl,rfl⟩:=c;simp only[gE,j,l,eX];rw[if_pos o_]
end Go.V
namespace Go.VZ
open Go Go.V Go.Proofs Tryz TL
def dE(kn:List Bool):LA:=kn.map AV.bool
theorem sN:∀kn:List Bool,ja 1 kn.length (dE kn)=dE kn
 |[]=>rfl
 |b::kn=>by have:=sN kn;simp only[dE]at this;simp only[dE,aS,aF,ja,gQ,eX,this]
theorem pO:∀kn:List Bool,pP (dE kn)=some (dE kn)
 |[]=>rfl
 |b::kn=>by have:=pO kn;simp only[dE]at this;simp only[dE,aS,pP,Fg,this]
theorem Hg:C.P.underlying 115=some (.slice 4):=underlying115
theorem LN(kn:List Bool) (x:Ext) (k:Nat) (hk:k<kn.length):bP C.P 115 (.isl (dE kn) x) (.int .i64 k)=some (.iptr (.bool kn[k]) 0):=by have:(AV.bool kn[k]).cells.length=1:=rfl;simp[bP,Hg,s4,dE,hk,this]
@[go_sem] theorem Yy (b:Bool) (h:H):aX C.P h 4 (.iptr (.bool b) 0)=some (.bool b):=by have:(AV.bool b).cells=[.bool b]:=rfl;simp[aX,ae,a4,s4,this]
theorem MQ(u:Lq) (t:T) (h:H):mX C.P h 189 (jZ u t)=some (.ptr h.length 0,h++[.cells [.isl (bU (da u t.kids)) .unk,.int .i64 (sE u t)] .live]):=by rw[wo];simp only[mX,Eo,wt];exact if_pos ⟨rfl,rfl⟩
theorem DG(l:List Int) (x:Ext):fW C.P 53 (.isl (bU l) x)=some (.int .i64 l.length):=by simp[fW,u53,bU]
theorem DQ(l:List Int) (x:Ext) (k:Nat) (hk:k<l.length):bP C.P 53 (.isl (bU l) x) (.int .i64 k)=some (.iptr (.int .i64 l[k]) 0):=by have:(AV.int .i64 l[k]).cells.length=1:=rfl;simp[bP,u53,s3,bU,hk,this]
@[go_sem] theorem Nu (n:Int) (h:H):aX C.P h 3 (.iptr (.int .i64 n) 0)=some (.int .i64 n):=by have:(AV.int .i64 n).cells=[.int .i64 n]:=rfl;simp[aX,ae,a3,s3,this]
def P2(u:Lq) (kn:List Bool) (t:T) (m:Nat) (st:PT) (h:H):Prop:=∃k:Nat,m=t.kids.length-k/\k<=t.kids.length/\h=[.cells (enc t).cells .live,.cells [.isl (bU (da u t.kids)) .unk,.int .i64 (sE u t)] .live]/\st.get 2=.isl (dE kn) .unk/\st.get 3=.ptr 0 0/\st.get 4=.ptr 1 0/\st.get 7=.int .i64 k/\(t.kids.drop k).all (knT u kn)=t.kids.all (knT u kn)
theorem MN(u:Lq) (kn:List Bool) (t:T) (hl:kn.length=u.length) (hk:∀k∈t.kids,k∈u) (hs:t.size<4000000):ay C 173 [enc t,jZ u t,.isl (dE kn) .unk]=some (.bool (oZ u kn t)):=by
 refine bD func173 rfl λR O=>?_
 have fin:∀(l:PT) (h:H) (b:Bool),l.get 6=.bool b->oZ u kn t=b->R .ret l h:=λl h b Q S=>O ⟨.bool b,by simp[ag,cG,f173,Q],by rw[S];exact aL rfl rfl⟩
 have z:=MQ u t;have U:=size_kids t;have V:=len_sizes t.kids;by_cases o:t.name=⟨#[112,97,105,114]⟩\/t.name=⟨#[101,110,99]⟩\/t.name=⟨#[97,101,110,99]⟩\/t.name=⟨#[112,107]⟩\/t.name=⟨#[115,105,103,110]⟩\/t.name=⟨#[104,97,115,104]⟩
 ·have X:bld t=decide (t.kind=3):=by
   unfold TL.bld;have:(decide (t.name=qF)||decide (t.name=uA)||decide (t.name=oS)||decide (t.name=nPk)||decide (t.name=oR)||decide (t.name=C9))=true:=by
    simp only[bZ,decide_eq_true_eq];rcases o with h|h|h|h|h|h
    ·exact .inl (.inl (.inl (.inl (.inl h))))
    ·exact .inl (.inl (.inl (.inl (.inr h))))
    ·exact .inl (.inl (.inl (.inr h)))
    ·exact .inl (.inl (.inr h))
    ·exact .inl (.inr h)
    exact .inr h
   rw[this];simp
  have i:oZ u kn t=(decide (t.kind=3)&&t.kids.all (knT u kn)):=by rw[oZ,X]
  rcases o with h|h|h|h|h|h;all_goals
   have A:=congrArg (λn:ByteArray=>decide (n=⟨#[112,97,105,114]⟩)) h;have B:=congrArg (λn:ByteArray=>decide (n=⟨#[101,110,99]⟩)) h;have D:=congrArg (λn:ByteArray=>decide (n=⟨#[97,101,110,99]⟩)) h;have E:=congrArg (λn:ByteArray=>decide (n=⟨#[112,107]⟩)) h;have F:=congrArg (λn:ByteArray=>decide (n=⟨#[115,105,103,110]⟩)) h;have G:=congrArg (λn:ByteArray=>decide (n=⟨#[104,97,115,104]⟩)) h;clear h;simp[go_sem,z,fM,A,B,D,E,F,G];clear A B D E F G;refine bR (P2 u kn t) t.kids.length ⟨0,rfl,aO _,by rw[bB],g_,g_,g_,g_,rfl⟩ ?_;rintro m l h ⟨k,rfl,Y,rfl,q,r,s,v,e⟩;have c:=DG (da u t.kids) .unk;have w:(da u t.kids).length=t.kids.length:=by simp[da]
   rw[w]at c;by_cases f:k<t.kids.length
   ·have d:(k:Int)<t.kids.length:=o_;have g:=DQ (da u t.kids) .unk k o_;have j:=hk _ (aG f);have x:(da u t.kids)[k]' o_=(ixU u t.kids[k]:Int):=by simp[da]
    rw[x]at g;have Z:=sF j;have a:=LN kn .unk (ixU u t.kids[k]) o_;have y:kn[ixU u t.kids[k]]' o_=knT u kn t.kids[k]:=by have:=Bq hl j;rw[aC o_]at this;exact Option.some.inj this
    rw[y]at a;have w2:=wS k o_;rw[aH f,dp]at e;cases p:knT u kn t.kids[k]with
    |true=>rw[p,jc]at e;simp[go_sem,q,s,v,c,d,g,a,p,-Int.natCast_add,w2];exact⟨t.kids.length-(k+1),o_,k+1,rfl,f,rfl,g_,g_,g_,g_,e⟩
    |false=>rw[p,gm]at e;simp[go_sem,q,s,v,c,d,g,a,p];exact fin _ _ false g_ (by rw[i,<-e];simp)
   have:k=t.kids.length:=o_;subst this;rw[aj]at e;simp[go_sem,r,s,v,c];exact fin _ _ (decide (t.kind=3)) g_ (by rw[i,<-e];simp)
 simp only[not_or]at o;have⟨I,J,K,L,M,N⟩:=o;simp[go_sem,z,fM,I,J,K,L,M,N];refine fin _ _ false g_ ?_;rw[oZ,TL.bld];have:(decide (t.name=qF)||decide (t.name=uA)||decide (t.name=oS)||decide (t.name=nPk)||decide (t.name=oR)||decide (t.name=C9))=false:=by simp only[iL,decide_eq_false_iff_not];exact⟨⟨⟨⟨⟨I,J⟩,K⟩,L⟩,M⟩,N⟩
 rw[this];simp
theorem JW{h:H}{kid:Nat}{cap:Option Nat}(u:Lq) (kn:List Bool) (t:T) (hid:h[kid]?=some (.cells (dE kn) .live)) (hl:kn.length=u.length) (hu:u.length<900000) (hk:∀k∈t.kids,k∈u) (hs:t.size<4000000) :
  az C h (.func 173 []) (some [enc t,jZ u t,.msl kid 0 1 u.length cap])=some (.bool (oZ u kn t),h):=by
 have d:(dE kn).length=u.length:=by rw[dE,aU,hl]
 have⟨e,c⟩:=Eg (h:=h) (len:=u.length) (cap:=cap) hid o_ (pO kn) o_ (a:=enc t) (b:=jZ u t) (a':=enc t) (b':=jZ u t) (by rw[bJ];rfl) (by rw[bJ];rfl);have f:ja 1 u.length (dE kn)=dE kn:=by rw[<-hl];exact sN kn
 rw[f]at c;exact xC k_ rfl e c (MN u kn t hl hk hs) rfl
end Go.VZ
