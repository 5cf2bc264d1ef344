/- A part of the proof. -/
import Derived.Test.YtclakfnjdnibeaaGreatDoorSf
set_option maxHeartbeats 8000000
set_option maxRecDepth 16000
namespace Go.VZ
open Go Go.V Go.Proofs Tryz TL
def lV(t:T):Int:=if dy t≠0 then dy t else if ez t≠[]then 13 else 0
def fh:Lq->Int
 |[]=>0
 |t::l=>if lV t≠0 then lV t else fh l
def gX(l:Lq):Lq:=mo (l.flatMap (cZ bY))
def yw(k:Lq) (t:T):Int:=if 60<k.length then 3 else if fh (k++[t])≠0 then fh (k++[t])else if 200<(gX (k++[t])).length then 3 else 0
open Classical in
noncomputable def yx(k:Lq) (t:T):Bool × Int:=if yw k t≠0 then(false,yw k t)else(decide (DrS k t),0)
theorem uo:∀ {l:Lq},fh l=0->∀t∈l,dy t=0/\ez t=[]
 |[],_,t,ht=>by simp at ht
 |a::l,h,t,ht=>by
  rw[fh]at h;split at h
  ·rename_i e;exact absurd h e
  rename_i e;rcases ao.1 ht with rfl|ht
  ·have e:lV t=0:=by simpa using e
   unfold lV at e;split at e
   ·rename_i q;exact absurd e q
   split at e
   ·cases e
   rename_i b c;exact⟨by simpa using b,by simpa using c⟩
  exact uo h t ht
def BW(s:Lb) (t:T):Int:=(fZ s t).2
def mZ(s:Lb):Lq->Int
 |[]=>0
 |t::l=>if BW s t≠0 then BW s t else mZ s l
def yv(s:Lb) (d:Dm):Int:=if mZ s d.knows≠0 then mZ s d.knows else BW s d.term
def Af(s:Lb):List Dm->Int
 |[]=>0
 |d::l=>if yv s d≠0 then yv s d else Af s l
end Go.VZ
namespace Go.VZ
open Go Go.V Go.Proofs Tryz TL
def yp(b:ByteArray):Bool:=decide (3<b.size)&&decide (b.data.toList.take 3=[118,35,35])
def gR(t:T):Lq:=mo ((cZ bY t).filter (isK 2))
def kK(ts:Lq):List ByteArray:=ts.flatMap λt=>((gR t).filter λa=>yp a.name).map T.name
def inN(b:ByteArray) (l:List ByteArray):Bool:=l.any λx=>decide (x=b)
theorem inN_iff{b:ByteArray}{l:List ByteArray}:inN b l=true↔b∈l:=by simp[inN]
def gL(used:List ByteArray):Nat->Nat->Nat->List Nat
 |0,_,_=>[]
 |_+1,_,0=>[]
 |f+1,n,c+1=>if inN (iU n).name used=true then gL used f (n+1) (c+1)else n::gL used f (n+1) c
theorem N0{n m:Nat}(h:(iU n).name=(iU m).name):n=m:=by
 refine I5 ?_;have:∀k,iU k=.mk 2 (iU k).name 0 []:=λ_=>rfl
 rw[this n,this m,h]
theorem qJ{u v:List ByteArray}:∀ {f n c:Nat},(∀m,n<=m->((iU m).name∈u↔(iU m).name∈v))->gL u f n c=gL v f n c
 |0,_,_,_=>rfl
 |_+1,_,0,_=>rfl
 |f+1,n,c+1,h=>by
  rw[gL,gL];have h':∀m,n+1<=m->((iU m).name∈u↔(iU m).name∈v):=λm a=>h m o_
  by_cases e:(iU n).name∈u
  ·rw[if_pos (inN_iff.2 e),if_pos (inN_iff.2 ((h n (aR _)).1 e))];exact qJ h'
  rw[if_neg λk=>e (inN_iff.1 k),if_neg λk=>e ((h n (aR _)).2 (inN_iff.1 k)),qJ h']
theorem pg:∀(f:Nat) (used:List ByteArray) (n c:Nat),c+used.length<f->(gL used f n c).length=c
 |0,_,_,_,h=>o_
 |_+1,_,_,0,_=>rfl
 |f+1,used,n,c+1,h=>by
  rw[gL];by_cases e:(iU n).name∈used
  ·rw[if_pos (inN_iff.2 e)];have e2:gL used f (n+1) (c+1)=gL (used.filter λb=>decide (b≠(iU n).name)) f (n+1) (c+1):=qJ λm a=>by
    have:(iU m).name≠(iU n).name:=λq=>by have:=N0 q;omega
    simp[this]
   rw[e2];refine pg f _ (n+1) (c+1) ?_;have:(used.filter λb=>decide (b≠(iU n).name)).length<used.length:=by refine List.length_filter_lt_length_iff_exists.2 ⟨_,e,s_⟩
   omega
  rw[if_neg λk=>e (inN_iff.1 k),aG,pg f used (n+1) c o_]
theorem rC{used:List ByteArray}:∀ {f n c:Nat},(∀m∈gL used f n c,n<=m/\(iU m).name∉used)/\(gL used f n c).Nodup
 |0,_,_=>by simp[gL]
 |_+1,_,0=>by simp[gL]
 |f+1,n,c+1=>by
  rw[gL];by_cases e:(iU n).name∈used
  ·rw[if_pos (inN_iff.2 e)];have:=rC (used:=used) (f:=f) (n:=n+1) (c:=c+1);exact⟨λm a=>⟨by have:=(this.1 m a).1;omega,(this.1 m a).2⟩,this.2⟩
  rw[if_neg λk=>e (inN_iff.1 k)];have:=rC (used:=used) (f:=f) (n:=n+1) (c:=c);refine⟨λm a=>?_,oL.2 ⟨λa=>?_,this.2⟩⟩
  ·rcases ao.1 a with rfl|a
   ·exact⟨aR _,e⟩
   exact⟨by have:=(this.1 m a).1;omega,(this.1 m a).2⟩
  have:=(this.1 n a).1;omega
def mP(ts:Lq) (c:Nat):List Nat:=gL (kK ts) (c+(kK ts).length+1) 0 c
theorem N1(n:Nat):yp (iU n).name=true:=by
 have h:(iU n).name=⟨(118::35::35::pO n).toArray⟩:=rfl;have a:0<(pO n).length:=oQ.2 (FE n).1;rw[h];simp only[yp,ByteArray.size,am,decide_eq_true_eq];refine⟨?_,?_⟩
 ·simp;omega
 simp
theorem Bc(ts:Lq) (c:Nat):zY ts (mP ts c)/\(mP ts c).length=c:=by
 have h:=rC (used:=kK ts) (f:=c+(kK ts).length+1) (n:=0) (c:=c);refine⟨⟨h.2,λn a t b y d k e=>(h.1 n a).2 ?_⟩,pg _ _ _ _ o_⟩;rw[<-e];refine bR.2 ⟨t,b,bV.2 ⟨y,cO.2 ⟨?_,?_⟩,rfl⟩⟩
 ·exact mem_setS.2 (cO.2 ⟨d,by simp[isK,k]⟩)
 rw[e];exact N1 n
def ph(l:List Dm):Lb:=jT (dv (bp l)) (mP (bp l) (dv (bp l)).length)
def MQ(l:List Dm) (i:Nat) (d:Dm):Lq:=d.knows.map (dK (ph l))++((l.take i).filter λe=>decide (e.term.kind=1)).map λe=>dK (ph l) e.term
noncomputable def qe(l:List Dm) (i:Nat) (d:Dm):Bool × Int:=yx (MQ l i d) (dK (ph l) d.term)
theorem LG{k:Lq}{t:T}(h1:(yx k t).1=true):DrS k t:=by
 unfold yx at h1;split at h1
 ·cases h1
 simpa using h1
theorem Jo{l pre post:List Dm}{d:Dm}(hv:cD l=0) (e:l=pre++d::post) (h:(qe l pre.length d).1=true) (θ:T->T) (hs:Sol vL θ (pre++post)):Sol vL θ l:=by
 have⟨c,g⟩:=Bc (bp l) (dv (bp l)).length;refine Rk hv e o_ c (vY (λt a=>.ax ?_) (LG h)) θ hs;rcases ac.1 a with a|a
 ·obtain⟨k,f,rfl⟩:=bV.1 a;exact⟨k,.inl f,rfl⟩
 obtain⟨x,b,rfl⟩:=bV.1 a;have b:=(cO.1 b).1;rw[e,List.take_left' rfl]at b;exact⟨x.term,.inr ⟨x,b,rfl⟩,rfl⟩
def mY(l:List Dm) (s:Lb):List Dm × Int:=if cD l≠0 then([],cD l)else if mR s≠0 then([],mR s)else if Af s l≠0 then([],Af s l)else if cD (l.map (pe s))≠0 then([],cD (l.map (pe s)))else(l.map (pe s),0)
theorem Ko{l:List Dm}{s:Lb}(h:(mY l s).2=0):(mY l s).1=l.map (pe s)/\cD (l.map (pe s))=0/\mR s=0:=by
 unfold mY at h ⊢;split at h
 ·rename_i q;exact absurd h q
 rename_i q;rw[if_neg q];split at h
 ·rename_i q;exact absurd h q
 rename_i q;rw[if_neg q];split at h
 ·rename_i q;exact absurd h q
 rename_i b;rw[if_neg b];split at h
 ·rename_i q;exact absurd h q
 rename_i a;rw[if_neg a];exact⟨rfl,by simpa using a,by simpa using q⟩
def DM(out:List Al) (rule:Int) (s:Lb):Bool:=out.any λa=>decide (a.rule=rule)&&decide (a.bind=s)
noncomputable def mn(l:List Dm) (rule:Int) (out:List Al) (p:T × T):List Al × Int:=
 if(fv p.1 p.2).2≠0\/DM out rule (fv p.1 p.2).1=true then(out,0)
 else if(mY l (fv p.1 p.2).1).2≠0 then([],(mY l (fv p.1 p.2).1).2)
 else(out++[⟨rule,(fv p.1 p.2).1,(mY l (fv p.1 p.2).1).1⟩],0)
noncomputable def ed(l:List Dm) (rule:Int):List Al->Lb->List Al × Int
 |out,[]=>(out,0)
 |out,p::ps=>if(mn l rule out p).2≠0 then([],(mn l rule out p).2)else ed l rule (mn l rule out p).1 ps
def eQ(l:Lq):Lq:=(gX l).filter λt=>decide (t.kind≠1)
def jn(p:Lq) (t:T):Lb:=(p.filter λx=>decide (x.cmp t≠0)).map λx=>(x,t)
def jP:Lq->Lb
 |[]=>[]
 |a::p=>p.map (λb=>(a,b))++jP p
def sR(d:Dm):List Dm:=d.term.kids.map (Dm.mk d.knows)
def fU(l:List Dm) (i:Nat) (o:List Dm):List Dm:=l.take i++o++l.drop (i+1)
noncomputable def vl(l:List Dm) (i:Nat) (d:Dm) (out:List Al):List Al × Int:=
 if bld d.term=true then(if cD (fU l i (sR d))≠0 then([],cD (fU l i (sR d)))else(out++[⟨4,[],fU l i (sR d)⟩],0))else(out,0)
noncomputable def oY(l:List Dm) (i:Nat) (d:Dm):List Al × Int:=
 if 80<(eQ d.knows).length then([],3)
 else if(ed l 2 [] (jn (eQ d.knows) d.term)).2≠0 then([],(ed l 2 [] (jn (eQ d.knows) d.term)).2)
 else if(ed l 3 (ed l 2 [] (jn (eQ d.knows) d.term)).1 (jP (eQ d.knows))).2≠0 then([],(ed l 3 (ed l 2 [] (jn (eQ d.knows) d.term)).1 (jP (eQ d.knows))).2)
 else vl l i d (ed l 3 (ed l 2 [] (jn (eQ d.knows) d.term)).1 (jP (eQ d.knows))).1
noncomputable def vH(l:List Dm) (i:Nat) (d:Dm):List Al × Int:=
 if(qe l i d).2≠0 then([],(qe l i d).2)
 else if(qe l i d).1=true then(if cD (fU l i [])≠0 then([],cD (fU l i []))else([⟨1,[],fU l i []⟩],0))
 else oY l i d
noncomputable def cX(l:List Dm):List Al × Int:=
 if cD l≠0 then([],cD l)else if gz l<0 then([],9)else match l[(gz l).toNat]? with
  |none=>([],0)
  |some d=>vH l (gz l).toNat d
theorem Gw{bad:ByteArray->Bool}{y:T}:∀t:T,nf bad t->y∈cZ bY t->nf bad y:=by
 refine T.ind λt c h a=>?_
 rcases mem_walk.1 a with rfl|⟨k,b,a⟩
 ·exact h
 exact c k b (xQ h b) a
theorem Bb{y:T}:∀t:T,bh t=0->y∈cZ bY t->bh y=0:=by
 refine T.ind λt c h a=>?_
 rcases mem_walk.1 a with rfl|⟨k,b,a⟩
 ·exact h
 exact c k b (uA h b) a
theorem mem_subsT{l:Lq}{y:T}:y∈gX l↔∃t∈l,y∈cZ bY t:=by rw[gX,mem_setS,bR]
def okT(t:T):Prop:=bh t=0/\nf gZ t
theorem uF{t:T}(h:eS t=0):okT t:=⟨(je (iI h).1).1,(iI h).2.2.1⟩
theorem AG{l:Lq}(h:∀t∈l,okT t):∀t∈eQ l,okT t:=λt c=>by have⟨x,a,b⟩:=mem_subsT.1 (cO.1 c).1;exact⟨Bb x (h x a).1 b,Gw x (h x a).2 b⟩
theorem PS{l:List Dm}{rule:Int}{t u:T}(ht:okT t) (hu:okT u) (h1:(fv t u).2=0) (h2:(mY l (fv t u).1).2=0):AltOk l ⟨rule,(fv t u).1,(mY l (fv t u).1).1⟩:=by
 have⟨b,c,f⟩:=Ko h2;have⟨_,d,e,_⟩:=zp ht.1 hu.1;refine⟨λθ a=>?_,e gZ ht.2 hu.2 h1,(d h1).dup,?_⟩
 ·dsimp only at a ⊢;rw[b]at a;exact QI a
 dsimp only;rw[b];exact c
theorem P2{l:List Dm}{rule:Int}{out:List Al}{p:T × T}(hp:okT p.1/\okT p.2) (ho:∀a∈out,AltOk l a) (h:(mn l rule out p).2=0):∀a∈(mn l rule out p).1,AltOk l a:=by
 unfold mn at h ⊢;split
 ·exact ho
 rename_i q;rw[if_neg q]at h;split at h
 ·rename_i c;exact absurd h c
 rename_i c;rw[if_neg c];intro a b;rcases ac.1 b with b|b
 ·exact ho a b
 simp only[bJ]at b;subst b;exact PS hp.1 hp.2 (by simp only[not_or,ne_eq,Decidable.not_not]at q;exact q.1) (by simpa using c)
theorem wz{l:List Dm}{rule:Int}:∀ {ps:Lb}{out:List Al},(∀p∈ps,okT p.1/\okT p.2)->(∀a∈out,AltOk l a)->(ed l rule out ps).2=0->∀a∈(ed l rule out ps).1,AltOk l a
 |[],out,_,ho,_=>ho
 |p::ps,out,hp,ho,h=>by
  rw[ed]at h ⊢;split at h
  ·rename_i q;exact absurd h q
  rename_i q;rw[if_neg q];exact wz (λx hx=>hp x (by simp[hx])) (P2 (hp p s_) ho (by simpa using q)) h
theorem pB:∀ {p:Lq}{x:T × T},x∈jP p->x.1∈p/\x.2∈p
 |[],_,h=>by simp[jP]at h
 |a::p,x,h=>by
  rw[jP]at h;rcases ac.1 h with h|h
  ·obtain⟨b,hb,rfl⟩:=bV.1 h;exact⟨s_,by simp[hb]⟩
  have:=pB h;exact⟨by simp[this.1],by simp[this.2]⟩
theorem ut{pre post o:List Dm}{d:Dm}:fU (pre++d::post) pre.length o=pre++o++post:=by
 rw[fU,List.take_left' rfl];congr 1
 rw[List.drop_append];simp
theorem PU{l dem:List Dm}{rule:Int}(h:∀θ,Sol vL θ dem->Sol vL θ l) (hv:cD dem=0):AltOk l ⟨rule,[],dem⟩:=
 ⟨λθ a=>Bm (λt=>(Cd θ t).symm) (h θ a),s_,s_,hv⟩
theorem PR{pre post:List Dm}{d:Dm}{out:List Al}(ho:∀a∈out,AltOk (pre++d::post) a) (h:(vl (pre++d::post) pre.length d out).2=0):∀a∈(vl (pre++d::post) pre.length d out).1,AltOk (pre++d::post) a:=by
 unfold vl at h ⊢;split
 ·rename_i c;rw[if_pos c]at h;split at h
  ·rename_i q;exact absurd h q
  rename_i q;rw[if_neg q];intro a b;rcases ac.1 b with b|b
  ·exact ho a b
  simp only[bJ]at b;subst b;refine PU (λθ e=>Jz c ?_) (by simpa using q);rw[ut,List.append_assoc]at e;exact e
 exact ho
theorem Js{pre post:List Dm}{d:Dm}(hv:cD (pre++d::post)=0) (h:(vH (pre++d::post) pre.length d).2=0):∀a∈(vH (pre++d::post) pre.length d).1,AltOk (pre++d::post) a:=by
 have k:mF d=0:=se hv s_;have i:∀t∈eQ d.knows,okT t:=AG λt j=>uF ((pD k).2.1 t j)
 have j:okT d.term:=uF (pD k).2.2;unfold vH at h ⊢;split at h
 ·rename_i q;exact absurd h q
 rename_i q;rw[if_neg q];split at h
 ·rename_i c;rw[if_pos c];split at h
  ·rename_i b;exact absurd h b
  rename_i b;rw[if_neg b];intro a l;simp only[bJ]at l;subst l;refine PU (λθ m=>Jo hv rfl c θ ?_) (by simpa using b);rw[ut]at m;simpa using m
 rename_i c;rw[if_neg c];unfold oY at h ⊢;split at h
 ·cases h
 rename_i b;rw[if_neg b];split at h
 ·rename_i e;exact absurd h e
 rename_i e;rw[if_neg e];split at h
 ·rename_i f;exact absurd h f
 rename_i f;rw[if_neg f];refine PR (wz (λp g=>?_) (wz (λp g=>?_) s_ (by simpa using e)) (by simpa using f)) h
 ·exact⟨i _ (pB g).1,i _ (pB g).2⟩
 obtain⟨x,n,rfl⟩:=bV.1 g;exact⟨i _ (cO.1 n).1,j⟩
theorem vv{l:List Dm}(h:(cX l).2=0):∀a∈(cX l).1,AltOk l a:=by
 unfold cX at h ⊢;split at h
 ·rename_i q;exact absurd h q
 rename_i q;rw[if_neg q];split at h
 ·cases h
 rename_i c;rw[if_neg c];have⟨b,d,f,e,g,m,_⟩:=vW (l:=l) (k:=0) (by unfold gz at c;omega);have g:gz l=(b.length:Int):=by rw[gz,g];simp
 have i:(gz l).toNat=b.length:=o_;have j:l[(gz l).toNat]?=some d:=by rw[i,e];simp
 rw[j]at h ⊢;dsimp only at h ⊢;rw[i]at h ⊢;subst e;exact Js (by simpa using q) h
def eI(s u:Lb):Lb × Int:=
 if mR s≠0 then([],mR s)else if mR u≠0 then([],mR u)else if mZ u (s.map (·.2))≠0 then([],mZ u (s.map (·.2)))
 else if 200<(lO s u).length then([],3)else(lO s u,0)
theorem oi{s u:Lb}(h:(eI s u).2=0):(eI s u).1=lO s u/\(lO s u).length<=200/\mR s=0/\mR u=0/\mZ u (s.map (·.2))=0:=by
 unfold eI at h ⊢;split at h
 ·rename_i q;exact absurd h q
 rename_i q;rw[if_neg q];split at h
 ·rename_i q;exact absurd h q
 rename_i a;rw[if_neg a];split at h
 ·rename_i q;exact absurd h q
 rename_i b;rw[if_neg b];split at h
 ·cases h
 rename_i c;rw[if_neg c];exact⟨rfl,o_,by simpa using q,by simpa using a,by simpa using b⟩
structure Nd where
 dem:List Dm
 bind:Lb
 kids:List Nat
structure NdOk (l0:List Dm) (n:Nd):Prop where
 good:GoodN l0 n.dem n.bind
 len:n.bind.length<=200
 val:∀b∈n.bind,b.1.size<=400/\b.2.size<=400
theorem vX{s:Lb}:∀ {l:Lq},mZ s l=0->∀t∈l,BW s t=0
 |[],_,_,h=>by simp at h
 |a::l,e,t,h=>by
  rw[mZ]at e;split at e
  ·rename_i q;exact absurd e q
  rename_i q;rcases ao.1 h with rfl|h
  ·simpa using q
  exact vX e t h
theorem ub{s:Lb}{t:T}(h:BW s t=0):bh (dK s t)=0/\bh t=0/\mR s=0:=by
 unfold BW fZ at h;split at h
 ·rename_i q;exact absurd h q
 rename_i a;split at h
 ·rename_i q;exact absurd h q
 rename_i b;split at h
 ·rename_i q;exact absurd h q
 rename_i c;exact⟨by simpa using c,by simpa using b,by simpa using a⟩
theorem LP{s u:Lb}(h:(eI s u).2=0):∀b∈wb s u,b.1.size<=400/\b.2.size<=400:=λb a=>by
 have⟨_,_,e,f,g⟩:=oi h;rcases ac.1 a with a|a
 ·obtain⟨c,d,rfl⟩:=bV.1 a;exact⟨((sk e).2.2 c d).1,(cz (ub (vX g c.2 (bV.2 ⟨c,d,rfl⟩))).1).2.1⟩
 exact(sk f).2.2 b (cO.1 a).1
theorem Aj{s u:Lb}(h:(eI s u).2=0):∀b∈lO s u,b.1.size<=400/\b.2.size<=400:=λb a=>by have p:=nK (wb s u) [];rw[bk]at p;exact LP h b (cO.1 (p.mem_iff.1 a)).1
theorem B3{l:List Dm}(h:cD l=0):NdOk l ⟨l,[],[]⟩:=⟨Kt h,s_,s_⟩
theorem B2{l0:List Dm}{n:Nd}{a:Al}{k:List Nat}(h:NdOk l0 n) (ha:AltOk n.dem a) (e:(eI n.bind a.bind).2=0):NdOk l0 ⟨a.dem,lO n.bind a.bind,k⟩:=
 ⟨Ks h.good ha,(oi e).2.1,Aj e⟩
theorem C6(x y:Operand) (a b:ByteArray):iN C.P .neq 9 x y (.str a) (.str b)=some (.bool !(decide (a=b))):=by
 have e:dI C.P (do eqGuard BinOp.neq 9 x y (.string a) (.string b);binOp .neq 9 (.string a) (.string b))=some (.bool (a.toList != b.toList)):=by simp[eqGuard,binOp,Op.stringOp];try rfl
 simp only[iN,fH,cw,e,eC,db];congr 2
 have:a.toList=b.toList↔a=b:=by have c:a.toList=a.data.toList:=ByteArray.toList_eq a;have d:b.toList=b.data.toList:=ByteArray.toList_eq b;rw[c,d];exact name_inj
 by_cases h:a=b
 ·subst h;simp
 have f:¬a.toList=b.toList:=λe=>h (this.1 e)
 simp[h,f,bne]
def DX(s:ByteArray) (k:Nat):Bool:=(s.data.toList.drop k).all λc=>decide (48<=c)&&decide (c<=57)
theorem LC{s:ByteArray}{k:Nat}(hk:k<s.size):DX s k=(decide (48<=dT s k)&&decide (dT s k<=57)&&DX s (k+1)):=by
 have a:k<s.data.toList.length:=by rw[dR];exact hk
 have e:s.data.toList[k]=s[k]:=by rw[oE];rfl
 have b:dT s k=s[k].toNat:=by unfold dT;rw[dif_pos hk]
 unfold DX;rw[aI a,dt,e,b];rfl
theorem aBF{s:ByteArray}(_h:3<=s.size):decide (s.extract 0 2=⟨#[101,35]⟩)=decide (s.data.toList.take 2=[101,35]):=by
 have:s.extract 0 2=⟨(s.data.toList.take 2).toArray⟩:=by apply ByteArray.ext;simp only[mg];apply Array.toList_inj.1;simp
 rw[this,fO];simp
def Y6(s:ByteArray) (m:Nat) (st:PT) (h:H):Prop:=∃k:Nat,m=s.size-k/\k<=s.size/\h=[]/\st.get 0=.str s/\st.get 3=.int .i64 k/\DX s k=DX s 2
theorem UN(s:ByteArray) (hsz:s.size<4000000):az C 233 [.str s]=some (.bool (EU s)):=by
 refine ay func233 rfl λR hR=>?_
 have fin:∀(st:PT) (b:Bool),st.get 2=.bool b->EU s=b->R .ret st []:=λst b h2 he=>hR ⟨.bool b,by simp[aY,cC,f233,h2],by rw[he];exact aK rfl rfl⟩
 have nu:=nu s;have ho:EU s=(decide (3<=s.size)&&decide (s.data.toList.take 2=[101,35])&&DX s 2):=rfl;by_cases h3:s.size<3
 ·have h3':(s.size:Int)<3:=o_;simp +contextual [go_sem,nu,h3'];exact fin _ false g_ (by rw[ho,decide_eq_false (show ¬3<=s.size by omega)];rfl)
 have h3':¬(s.size:Int)<3:=o_;have hsl:fP C.P 9 (.str s) none (some (.int .i64 2)) none=some (.str (s.extract 0 2)):=by have:(2:Int)<=s.size:=o_;simp[fP,show C.P.underlying 9=some .string from underlying9,mb,qy,this]
 have hx:=aBF (s:=s) o_;cases hb:decide (s.extract 0 2=⟨#[101,35]⟩)with
 |false=>simp +contextual [go_sem,nu,h3',hsl,C6,hb];exact fin _ false g_ (by rw[ho,<-hx,hb];simp)
 |true=>
  have ho':EU s=DX s 2:=by rw[ho,<-hx,hb,decide_eq_true (show 3<=s.size by omega)];simp
  simp +contextual [go_sem,nu,h3',hsl,C6,hb];refine bL (Y6 s) (s.size-2) ⟨2,rfl,o_,rfl,g_,g_,rfl⟩ ?_;rintro m st h ⟨k,rfl,hk,rfl,g0,g3,hd⟩;by_cases hlt:k<s.size
  ·have hlt':(k:Int)<s.size:=o_;have hi:=DJ s k hlt;have w2:IntKind.i64.wrap ((k:Int)+1)=((k+1:Nat):Int):=by rw[av o_];omega
   rw[LC hlt]at hd;by_cases q:48<=dT s k/\dT s k<=57
   ·simp +contextual [go_sem,g0,g3,nu,hlt',hi,show ¬((dT s k:Nat):Int)<48 by omega,show ¬(57:Int)<(dT s k:Nat) by omega,-Int.natCast_add,w2]
    exact⟨s.size-(k+1),by omega,k+1,rfl,hlt,rfl,by simp[go_sem,g0],by simp[go_sem],by rw[<-hd,decide_eq_true q.1,decide_eq_true q.2];simp⟩
   have e:DX s 2=false:=by
    rw[<-hd];by_cases q1:48<=dT s k
    ·rw[decide_eq_false (show ¬dT s k<=57 from λx=>q ⟨q1,x⟩)];simp
    rw[decide_eq_false q1];simp
   by_cases q1:(dT s k:Int)<48
   ·simp +contextual [go_sem,g0,g3,nu,hlt',hi,q1];exact fin _ false g_ (by rw[ho',e])
   have q2:(57:Int)<dT s k:=o_;simp +contextual [go_sem,g0,g3,nu,hlt',hi,q1,q2];exact fin _ false g_ (by rw[ho',e])
  have:k=s.size:=o_;subst this;simp[go_sem,g0,g3,nu];refine fin _ true g_ ?_;rw[ho',<-hd];unfold DX;rw[eH (by rw[dR];exact aR _)];rfl
theorem Rz(s:ByteArray) (hsz:s.size<4000000) (h:H):ak C h (.func 233 []) (some [.str s])=some (.bool (EU s),h):=aX rfl rfl s_ (UN s hsz)
theorem KE(t:T) (hsz:t.name.size<4000000):az C 172 [enc t]=some (.bool (sW t)):=by
 refine hJ rfl func172 rfl k_ (by simp[f172]) λR g=>?_
 have fin:∀(a:PT) (h:H) (b:Bool),a.get 2=.bool b->sW t=b->R .ret a h:=λa h b e f=>g _ _ _ (.inr rfl) ⟨.bool b,by simp[aY,cC,f172,e],by rw[f];exact aK rfl rfl⟩
 have i:∀(a:PT) (h:H) (b:Bool),a.get 2=.bool b->sW t=b->R .normal a h:=λa h b e f=>g _ _ _ (.inl rfl) ⟨.bool b,by simp[aY,cC,f172,e],by rw[f];exact aK rfl rfl⟩
 have j:=Rz t.name hsz;by_cases c:t.kind=3
 ·simp +contextual [go_sem,aM,yn,tO,jh,eM,dX,c];exact fin _ _ _ (by simp[go_sem];rfl) (by rw[sW,if_pos c,show decide (t.kids.length=0)=decide (t.kids=[]) by simp];rfl)
 by_cases d:t.kind=2
 ·simp +contextual [go_sem,aM,yn,tO,Xk,eM,d,j];exact fin _ _ _ (by simp[go_sem];rfl) (by rw[sW,if_neg c,if_pos d])
 simp +contextual [go_sem,aM,yn,c,d];exact fin _ _ false g_ (by rw[sW,if_neg c,if_neg d])
theorem Ry(t:T) (hsz:t.name.size<4000000) (h:H):ak C h (.func 172 []) (some [enc t])=some (.bool (sW t),h):=aX (cg _) (by simp[aq]) s_ (KE t hsz)
theorem Gx{t:T}(h:jQ t=0):t.name.size<4000000:=by have:=(ql h).2.2.2.1;simp only[kV,am,decide_eq_true_eq]at this;have:=this.1.1.2;omega
def gt(h:H) (i:Nat):Option VObj:=h[i]?
def pt(h:H) (i:Nat) (o:VObj):H:=h.set i o
@[congr] theorem Xz {h:H}{i:Nat}{tk:Nat}(_:nD=tk):gt h i=gt h i:=rfl
@[congr] theorem XK {h:H}{i:Nat}{o:VObj}{tk:Nat}(_:nD=tk):pt h i o=pt h i o:=rfl
theorem G{h:H}{i:Nat}{o:VObj}(e:h[i]?=some o):gt h i=some o:=e
@[go_sem] theorem aCS (x:VObj) (l:H):gt (x::l) 0=some x:=(rfl)
@[go_sem] theorem aCR (x:VObj) (l:H) (n:Nat):gt (x::l) (n+1)=gt l n:=(rfl)
@[go_sem] theorem aCC (h:H) (x:VObj) (l:H):gt (h++x::l) h.length=some x:=by simp[gt]
@[go_sem] theorem Xy (h:H) (x y:VObj) (l:H):gt (h++x::y::l) (h.length+1)=some y:=by simp[gt]
@[go_sem] theorem aCM (x y:VObj) (l:H):pt (x::l) 0 y=y::l:=(rfl)
@[go_sem] theorem aCL (x y:VObj) (l:H) (n:Nat):pt (x::l) (n+1) y=x::pt l n y:=(rfl)
@[go_sem] theorem aB6 (h:H) (x y:VObj) (l:H):pt (h++x::l) h.length y=h++y::l:=by simp[pt]
@[go_sem] theorem aB5 (h:H) (x x1 y:VObj) (l:H):pt (h++x::x1::l) (h.length+1) y=h++x::y::l:=by simp[pt]
@[go_sem] theorem aAW (h:H) (i:Nat) (y:VObj):(pt h i y).length=h.length:=by simp[pt]
@[go_sem] theorem aAX {h g:H}{i:Nat}{y:VObj}(hi:i<h.length):pt (h++g) i y=pt h i y++g:=by simp[pt,hi]
@[go_sem] theorem aCB {h:H}{i:Nat}{y:VObj}(hi:i<h.length):gt (pt h i y) i=some y:=by simp[pt,gt,hi]
@[go_sem] theorem aA8 {h:H}{i j:Nat}{y:VObj}(hi:i≠j):gt (pt h i y) j=gt h j:=by simp[pt,gt,hi]
theorem zK{h g:H}{i:Nat}(hi:i<h.length):gt (h++g) i=gt h i:=aP hi
def ldM(P:Program) (t:TypeId) (off:Nat):Option VObj->Option AV
 |some (.cells cs .live)|some (.cells cs .frozen)=>aZ P t cs off
 |_=>none
theorem Na{P:Program}{h:H}{t:TypeId}{i off:Nat}:aW P h t (.ptr i off)=ldM P t off (gt h i):=by
 unfold aW ldM gt;dsimp only;cases h[i]? with
 |none=>rfl
 |some x=>cases x with
  |cells b a=>cases a<;>rfl
  |_=>rfl
@[congr] theorem WH {P:Program}{t:TypeId}{off:Nat}{x y:Option VObj}{tk:Nat}(h:x=y) (_:nD=tk):ldM P t off x=ldM P t off y:=by rw[h]
theorem tN(t:T):ldM C.P 39 0 (some (.cells (enc t).cells .live))=some (enc t):=by simp[ldM,aZ,a25,s25,au];rw[bE]
theorem rZ(t:T):ldM C.P 3 0 (some (.cells (enc t).cells .live))=some (.int .i64 t.kind):=by simp[ldM,aZ,a3,s3,au]
theorem vT(t:T):ldM C.P 9 1 (some (.cells (enc t).cells .live))=some (.str t.name):=by simp[ldM,aZ,a9,s9,au]
theorem G5(t:T):ldM C.P 3 2 (some (.cells (enc t).cells .live))=some (.int .i64 t.sort):=by simp[ldM,aZ,a3,s3,au]
theorem tM(t:T):ldM C.P 37 3 (some (.cells (enc t).cells .live))=some (aM t.kids):=by simp[ldM,aZ,a23,s23,au]
theorem Xg(a b c d:AV):ldM C.P 39 0 (some (.cells [a,b,c,d] .live))=some (.agg [a,b,c,d]):=by simp[ldM,aZ,a25,s25]
theorem Uu(a:AV) (l:LA):ldM C.P 3 0 (some (.cells (a::l) .live))=some a:=by simp[ldM,aZ,a3,s3]
theorem Us(a b:AV) (l:LA):ldM C.P 9 1 (some (.cells (a::b::l) .live))=some b:=by simp[ldM,aZ,a9,s9]
theorem Ut(a b c d:AV) (l:LA):ldM C.P 37 3 (some (.cells (a::b::c::d::l) .live))=some d:=by simp[ldM,aZ,a23,s23]
theorem dm(t:T):AV.agg [.int .i64 t.kind,.str t.name,.int .i64 t.sort,.isl (t.kids.map enc) .unk]=enc t:=by rw[bE];rfl
theorem K2(t:T):AV.agg [.int .i64 t.kind,.str t.name,.int .i64 t.sort,aM t.kids]=enc t:=by rw[bE]
def stM(P:Program) (t:TypeId) (v:AV) (off:Nat) (h:H) (i:Nat) (o:Option VObj):Option H:=
 match o,cr P t with
  |some (.cells cs .live),some n=>match v with
   |.tuple _=>none
   |.agg vs=>if vs.length=n/\off+n<=cs.length then some (pt h i (.cells (cs.take off++vs++cs.drop (off+n)) .live))else none
   |v=>if n=1/\off<cs.length then some (pt h i (.cells (cs.set off v) .live))else none
  |_,_=>none
theorem GV{P:Program}{h:H}{t:TypeId}{i off:Nat}{v:AV}:cL P h t (.ptr i off) v=stM P t v off h i (gt h i):=(rfl)
@[congr] theorem WE {P:Program}{t:TypeId}{off:Nat}{v:AV}{h:H}{i:Nat}{x y:Option VObj}{tk:Nat}(e:x=y) (_:nD=tk):stM P t v off h i x=stM P t v off h i y:=by rw[e]
theorem sq{P:Program}{t:TypeId}{n:Nat}(hs:cr P t=some n) (h:H) (i:Nat) (cs l:LA) (hl:l.length=n) (hc:cs.length=n):stM P t (.agg l) 0 h i (some (.cells cs .live))=some (pt h i (.cells l .live)):=by unfold stM;rw[hs];dsimp only;rw[if_pos ⟨hl,o_⟩,eH o_];simp
theorem sr{P:Program}{t:TypeId}(hs:cr P t=some 1) (h:H) (i off:Nat) (cs:LA) (v:AV) (hv:v.one=true) (hc:off<cs.length):stM P t v off h i (some (.cells cs .live))=some (pt h i (.cells (cs.set off v) .live)):=by unfold stM;rw[hs];cases v<;>first|(cases hv;done)|(dsimp only;rw[if_pos ⟨rfl,hc⟩])
theorem TC(h:H) (i:Nat) (cs l:LA) (hl:l.length=4) (hc:cs.length=4):stM C.P 39 (.agg l) 0 h i (some (.cells cs .live))=some (pt h i (.cells l .live)):=sq s25 h i cs l hl hc
theorem xG(t:T) (h:H) (i:Nat):stM C.P 39 (enc t) 0 h i (some (.cells zc .live))=some (pt h i (.cells (enc t).cells .live)):=by rw[bE];exact TC h i _ _ rfl rfl
theorem T9(h:H) (i:Nat) (a' b' c' d':AV):stM C.P 39 (.agg [a',b',c',d']) 0 h i (some (.cells zc .live))=some (pt h i (.cells [a',b',c',d'] .live)):=TC h i _ _ rfl rfl
theorem OwnR.app{e:TypeId}{h:H}{v:AV}{xs:LA}(o:OwnR e h v xs) (g:H):OwnR e (h++g) v xs:=o.keep (Keep.append _ _ none) (λi _=>s_)
theorem vo{u t:T}(h:u∈t.kids):u∈cZ bY t:=mem_walk.2 (.inr ⟨u,h,fT u⟩)
theorem GJ{a b:T}:∀c:T,a∈cZ bY b->b∈cZ bY c->a∈cZ bY c:=by
 refine T.ind λc g e d=>?_
 rcases mem_walk.1 d with rfl|⟨k,f,d⟩
 ·exact e
 exact mem_walk.2 (.inr ⟨k,f,g k f e d⟩)
theorem HH(h:H) (i:Nat):gt h i=h[i]?:=rfl
theorem aBC(e:AV):bF C.P 39 (.iptr e 0) 0=some (.iptr e 0):=k_
theorem aBB(e:AV):bF C.P 39 (.iptr e 0) 1=some (.iptr e 1):=k_
theorem aBA(e:AV):bF C.P 39 (.iptr e 0) 2=some (.iptr e 2):=k_
theorem aA9(e:AV):bF C.P 39 (.iptr e 0) 3=some (.iptr e 3):=k_
theorem aAo(t:T) (h:H):aW C.P h 39 (.iptr (enc t) 0)=some (enc t):=gd t h
theorem aAr(t:T) (h:H):aW C.P h 3 (.iptr (enc t) 0)=some (.int .i64 t.kind):=by simp[aW,aZ,a3,s3,au]
theorem aAp(t:T) (h:H):aW C.P h 9 (.iptr (enc t) 1)=some (.str t.name):=by simp[aW,aZ,a9,s9,au]
theorem aAq(t:T) (h:H):aW C.P h 37 (.iptr (enc t) 3)=some (aM t.kids):=by simp[aW,aZ,a23,s23,au]
attribute [go_sem] aBC aBB aBA aA9 aAo aAr aAp aAq
@[go_sem] theorem Ki (l:Lq):fB C.P 37 (aM l)=some (.int .i64 l.length):=fI l
@[go_sem] theorem Zn (l:Lq) (x:Ext):fB C.P 37 (.isl (l.map enc) x)=some (.int .i64 l.length):=by rw[dX,aU]
theorem Wu:[AV.int .i64 0,.str ⟨#[]⟩,.int .i64 0,.isl [] .full]=zc:=rfl
@[go_sem] theorem aAc (es:LA) (x:Ext):bf (.isl es x)=true:=(rfl)
@[go_sem] theorem aAd (k:IntKind) (n:Int):bf (.int k n)=true:=(rfl)
@[go_sem] theorem aAb (n:ByteArray):bf (.str n)=true:=(rfl)
@[go_sem] theorem Zl (b:Bool):bf (.bool b)=true:=(rfl)
@[go_sem] theorem aAe (l:LA):bf (.agg l)=true:=(rfl)
attribute [go_sem low] Na GV
attribute [go_sem] dm K2
attribute [go_sem] tN rZ vT G5 tM Xg Uu Us Ut xG T9
theorem Fz{n:ByteArray}(h:gZ n=false):D4 n=false/\oT n≠3:=by simp only[gZ,gb,decide_eq_false_iff_not]at h;exact h
theorem lE:iH C.P 39=some (.agg zc):=k_
theorem ua(h:H):cI C.P h 37 0 []=some (.isl [] .full,h):=cG u23 s25 z25 rfl o_ rfl rfl rfl s_ rfl
theorem Vh(n:ByteArray) (l:Lq) (x:Ext):fK C.P 39 [(0,.int .i64 3),(1,.str n),(3,.isl (l.map enc) x)]=some (.agg [.int .i64 3,.str n,.int .i64 0,.isl (l.map enc) x]):=k_
theorem uD(h:H) (k s:Int) (n:ByteArray) (l:Lq) (x:Ext):fc h dD (.agg [.int .i64 k,.str n,.int .i64 s,.isl (l.map enc) x])=some (enc (.mk k n s l)):=aK (by rw[enc,lN];rfl) rfl
theorem Qi(n:ByteArray) (l:Lq) (hl:l.length<4000000):az C 75 [.str n,aM l]=some (enc (.mk 3 n 0 l)):=by
 refine ay func75 rfl λR d=>?_
 have⟨i,e,f,b,g,_⟩:=eW (xs:=[]) (ys:=l) (x:=.unk) (h:=[.cells zc .live]) (v:=.isl [] .full) (.inl rfl) (by simp;omega);simp only[bk]at b;obtain⟨x,rfl⟩:=b.isl;have c:e[0]?=some (.cells zc .live):=g.get rfl (by simp[bv]);have a:=(aB.1 c).1;simp[go_sem,lE,aV,ua,aM,f,Vh,G c];refine d ⟨.agg [.int .i64 3,.str n,.int .i64 0,.isl (l.map enc) x],?_,uD _ _ _ _ _ _⟩;simp[aY,cC,f75,go_sem,a]
theorem Lo(n:ByteArray) (l:Lq) (x:Ext) (hl:l.length<4000000) (h:H):ak C h (.func 75 []) (some [.str n,.isl (l.map enc) x])=some (enc (.mk 3 n 0 l),h):=
 aX (args':=[.str n,aM l]) rfl rfl s_ (Qi n l hl)
def V5(t:T) (m:Nat) (st:PT) (h:H):Prop:=∃k:Nat,m=t.kids.length-k/\k<=t.kids.length/\h[0]?=some (.cells (enc t).cells .live)/\h[1]?=some (.cells zc .live)/\st.get 1=.ptr 0 0/\st.get 2=.ptr 1 0/\st.get 5=.int .i64 k/\OwnR 39 h (st.get 4) ((t.kids.take k).map enc)
theorem KU(t:T) (hs:t.size<4000000) (hv:dS t=0) (hn:nf gZ t) (hc:∀k∈t.kids,az C 165 [enc k]=some (iC (k,0))):az C 165 [enc t]=some (iC (t,0)):=by
 refine ay func165 rfl λR I=>?_
 have fin:∀(e:PT) (h:H),e.get 2=.ptr 1 0->e.get 3=.int .i64 0->h[1]?=some (.cells (enc t).cells .live)->R .ret e h:=λe h J K L=>I ⟨iC (t,0),by
  have:=wM t L;simp[aY,dx,cC,f165,J,K,this,iC],rG _ _ _⟩
 have M:=size_kids t;have z:=len_sizes t.kids;have g:=fI t.kids;by_cases f:t.kind=3
 ·simp[go_sem,aM,lE,aV,f];have b:t.sort=0:=by
   have:=gF hv;simp only[jQ]at this;split at this
   ·cases this
   rename_i q;simp only[vg,bo,am,decide_eq_true_eq,not_or]at q;have:=q.1.2;rw[f]at this;simpa using this
  have p:T.mk 3 t.name 0 t.kids=t:=by have:=qQ t;rw[f,b]at this;exact this
  have⟨c,r⟩:=Fz (hn t (fT t) f);have N:=zV t.name;refine bL (V5 t) t.kids.length ⟨0,rfl,aN _,by simp[f,au,aM],by simp[aV],g_,g_,g_,.inr ⟨2,g_,s_⟩⟩ ?_;rintro m e h ⟨k,rfl,hk,i,j,A,B,D,o⟩;obtain⟨v4,s⟩:∃v,v=e.get 4:=⟨_,rfl⟩
  rw[<-s]at o;by_cases a:k<t.kids.length
  ·have l:(k:Int)<t.kids.length:=o_;have u:=eJ t.kids k a;have O:=wS k o_;have Q:∀h,ak C h (.func 165 []) (some [enc t.kids[k]])=some (iC (t.kids[k],0),h):=λh=>aX (cg _) (by simp[aq]) s_ (hc _ (aF a))
   have d:=OwnR.app o [.cells (enc t.kids[k]).cells .live];have⟨v',h',E,F,n,_⟩:=eW (ys:=[t.kids[k]]) (x:=.full) d (by simp;omega);rw[<-aJ a]at F;simp only[aS,bD]at E;have w:=n.get (ga i) (cM d (ga i));have y:=n.get (ga j) (cM d (ga j));simp[go_sem,A,D,<-s,G i,g,l,u,gd,Q,iC,lE,aV,dp,E,-Int.natCast_add,O];exact⟨t.kids.length-(k+1),o_,k+1,rfl,a,w,y,g_,g_,g_,by simpa[go_sem]using F⟩
  have:k=t.kids.length:=o_;subst this;rw[ah]at o;have⟨x,S⟩:=o.isl;have c3:=Lo t.name t.kids x o_;simp only[D4,gb,decide_eq_false_iff_not]at c;simp only[Qd,B4,Qg,Qe,Qf,KX]at c;have⟨⟨⟨⟨⟨U,n2⟩,V⟩,X⟩,Y⟩,Z⟩:=c;simp +contextual [go_sem,A,B,D,<-s,G i,g,S,c3,p,lE,aV,N,r,eM,U,V,X,Y,Z,G (ga i),G (ga j)];have q':=(aB.1 j).1;refine fin _ _ g_ g_ ?_;rw[pt,dq,if_pos rfl,if_pos (by simp;omega)]
 simp[go_sem,aM,lE,aV,f,dm];exact fin _ _ g_ g_ rfl
theorem BG:∀t:T,t.size<4000000->dS t=0->nf gZ t->az C 165 [enc t]=some (iC (t,0)):=by refine T.ind λt d e b c=>KU t e b c λk a=>d k a (by have:=kid_size a;omega) (kq t b k (vo a)) (xQ c a)
theorem SO(t:T) (hs:t.size<4000000) (hv:dS t=0) (hn:nf gZ t) (h:H):ak C h (.func 165 []) (some [enc t])=some (iC (t,0),h):=aX (cg _) (by simp[aq]) s_ (BG t hs hv hn)
def nrm(t:T):T × Int:=if dy t≠0 then(zT,dy t)else(t,0)
theorem KV(t:T) (hs:t.size<4000000) (hn:nf gZ t):az C 108 [enc t]=some (iC (nrm t)):=by
 refine ay func108 rfl λR b=>?_
 have fin:∀(a:PT) (h:H) (r:T × Int),a.get 2=.ptr 1 0->a.get 3=.int .i64 r.2->h[1]?=some (.cells (enc r.1).cells .live)->nrm t=r->R .ret a h:=λa h r f g i e=>b ⟨iC r,by
  have:=wM r.1 i;simp[aY,dx,cC,f108,f,g,this,iC],by rw[e];exact rG _ _ _⟩
 have c:=wn t hs;by_cases q:dy t=0
 ·have⟨d,_⟩:=je q;have j:=SO t hs (cz d).1 hn;have c3:=lq t hs;simp[go_sem,aM,lE,aV,dm,c,q,j,iC,c3,d];exact fin _ _ (t,0) g_ g_ rfl (by rw[nrm,if_neg (by simp[q])])
 simp[go_sem,aM,lE,aV,dm,c,q,A2];refine b ⟨.tuple [.agg [.int .i64 0,.str ⟨#[]⟩,.int .i64 0,.isl [] .full],.int .i64 (dy t)],by simp[aY,dx,cC,f108,go_sem],?_⟩;rw[nrm,if_pos q];exact xI _ _
theorem H3(t:T) (hs:t.size<4000000) (hn:nf gZ t) (h:H):ak C h (.func 108 []) (some [enc t])=some (iC (nrm t),h):=aX (cg _) (by simp[aq]) s_ (KV t hs hn)
theorem Nw(t:T) (hs:t.size<4000000):az C 69 [enc t]=some (.bool (decide (ez t=[]))):=by
 refine ay func69 rfl λR a=>?_
 have b:=zS t hs;have c:=fI (ez t);simp[go_sem,aM,dm,b];exact a ⟨.bool (decide (ez t=[])),by simp[aY,cC,f69,go_sem],aK rfl rfl⟩
theorem H5(t:T) (hs:t.size<4000000) (h:H):ak C h (.func 69 []) (some [enc t])=some (.bool (decide (ez t=[])),h):=aX (cg _) (by simp[aq]) s_ (Nw t hs)
def S3(w:Lq) (m:Nat) (st:PT) (_h:H):Prop:=∃k:Nat,m=w.length-k/\k<=w.length/\st.get 5=aM w/\st.get 6=.int .i64 k
theorem QY(t:T) (hs:t.size<4000000) (hn:nf gZ t):az C 70 [enc t]=some (.bool (decide (dy t=0))):=by
 refine ay func70 rfl λR r=>?_
 have fin:∀(f:PT) (h:H) (b:Bool),f.get 2=.bool b->decide (dy t=0)=b->R .ret f h:=λf h b s u=>r ⟨.bool b,by simp[aY,cC,f70,s],by rw[u];exact aK rfl rfl⟩
 have l:=H3 t hs hn;by_cases q:dy t=0
 ·have e:nrm t=(t,0):=by rw[nrm,if_neg (by simp[q])]
  have v:=lr t t hs hs;have c3:=wl t hs;have y:=kE bY jj t;have z:∀x∈cZ bY t,x.kind=3->oT x.name≠3:=λx A k=>(Fz (hn x A k)).2
  simp +contextual [go_sem,aM,dm,l,e,iC,lE,v,c3,cmp_refl];rw[show AV.isl ((cZ bY t).map enc) .unk=aM (cZ bY t)from rfl];generalize cZ bY t=w at *;have c:=fI w;refine bL (S3 w) w.length ⟨0,rfl,aN _,g_,g_⟩ ?_;rintro m f h ⟨k,rfl,D,n,g⟩;by_cases a:k<w.length
  ·have d:(k:Int)<w.length:=o_;have i:=eJ w k a;have o:=wS k o_;have E:=CF w[k];have B:=zV w[k].name;have j:=z w[k] (aF a);simp +contextual [go_sem,n,g,c,d,i,B,-Int.natCast_add];refine Ife_iff.2 ⟨λp=>absurd p.2 (j p.1),λ_=>?_⟩;simp[go_sem,g,-Int.natCast_add,o];exact⟨w.length-(k+1),o_,k+1,rfl,a,g_,g_⟩
  have:k=w.length:=o_;subst this;simp[go_sem,n,g,c];exact fin _ _ true g_ (by simp[q])
 have e:nrm t=(zT,dy t):=by rw[nrm,if_pos q]
 simp +contextual [go_sem,aM,dm,l,e,iC,lE,q];exact fin _ _ false g_ (by simp[q])
theorem Ld(t:T) (hs:t.size<4000000) (hn:nf gZ t) (h:H):ak C h (.func 70 []) (some [enc t])=some (.bool (decide (dy t=0)),h):=aX (cg _) (by simp[aq]) s_ (QY t hs hn)
theorem Mr(t:T) (hs:t.size<4000000) (hn:nf gZ t):az C 230 [enc t]=some (.int .i64 (lV t)):=by
 refine hJ rfl func230 rfl k_ (by simp[f230]) λR g=>?_
 have fin:∀(e:Ex) (c:PT) (h:H) (b:Int),e=.normal\/e=.ret->c.get 2=.int .i64 b->lV t=b->R e c h:=λe c h b i j k=>g _ _ _ i ⟨.int .i64 b,by simp[aY,cC,f230,j],by rw[k];exact aK rfl rfl⟩
 have d:=wn t hs;have f:=H5 t hs;have c3:=Ld t hs hn;by_cases q:dy t=0
 ·by_cases a:ez t=[]
  ·simp[go_sem,aM,dm,d,q,f,a,c3];exact fin _ _ _ 0 (.inr rfl) g_ (by rw[lV,if_neg (by simp[q]),if_neg (by simp[a])])
  simp[go_sem,aM,dm,d,q,f,a];exact fin _ _ _ 13 (.inr rfl) g_ (by rw[lV,if_neg (by simp[q]),if_pos a])
 simp[go_sem,aM,dm,d,q];exact fin _ _ _ (dy t) (.inr rfl) g_ (by rw[lV,if_pos q])
theorem Fe(t:T) (hs:t.size<4000000) (hn:nf gZ t) (h:H):ak C h (.func 230 []) (some [enc t])=some (.int .i64 (lV t),h):=aX (cg _) (by simp[aq]) s_ (Mr t hs hn)
def Pe(l:Lq) (m:Nat) (st:PT) (_h:H):Prop:=∃k:Nat,m=l.length-k/\k<=l.length/\st.get 0=aM l/\st.get 3=.int .i64 k/\fh (l.drop k)=fh l
theorem J7(l:Lq) (hs:∀t∈l,t.size<4000000) (hn:∀t∈l,nf gZ t) (hl:l.length<4000000):az C 167 [aM l]=some (.int .i64 (fh l)):=by
 refine hJ rfl func167 rfl k_ (by simp[f167]) λR hR=>?_
 have fin:∀(e:Ex) (st:PT) (h:H) (b:Int),e=.normal\/e=.ret->st.get 2=.int .i64 b->fh l=b->R e st h:=λe st h b hx h2 he=>hR _ _ _ hx ⟨.int .i64 b,by simp[aY,cC,f167,h2],by rw[he];exact aK rfl rfl⟩
 have hln:=fI l;simp[go_sem];refine bL (Pe l) l.length ⟨0,rfl,aN _,g_,g_,rfl⟩ ?_;rintro m st h ⟨k,rfl,hk,g0,g3,hd⟩;by_cases hlt:k<l.length
 ·have hlt':(k:Int)<l.length:=o_;have hix:=eJ l k hlt;have w2:=wS k o_;have c1:=Fe l[k] (hs _ (aF hlt)) (hn _ (aF hlt));rw[aI hlt,fh]at hd;by_cases q:lV l[k]=0
  ·rw[if_neg (by simp[q])]at hd
   simp[go_sem,g0,g3,hln,hlt',hix,c1,q,-Int.natCast_add,w2]
   exact⟨l.length-(k+1),by omega,k+1,rfl,hlt,by simp[go_sem,g0],by simp[go_sem],hd⟩
  rw[if_pos q]at hd;simp[go_sem,g0,g3,hln,hlt',hix,c1,q];exact fin _ _ _ (lV l[k]) (.inr rfl) g_ hd.symm
 have:k=l.length:=o_;subst this;rw[ae,fh]at hd;simp[go_sem,g0,g3,hln];exact fin _ _ _ 0 (.inr rfl) g_ hd.symm
theorem Hx(l:Lq) (x:Ext) (hs:∀t∈l,t.size<4000000) (hn:∀t∈l,nf gZ t) (hl:l.length<4000000) (h:H):ak C h (.func 167 []) (some [.isl (l.map enc) x])=some (.int .i64 (fh l),h):=aX (args':=[aM l]) rfl rfl s_ (J7 l hs hn hl)
theorem C5{t:T}(hn:nf gZ t){n:ByteArray}(hb:gZ n=true):iu t n=false:=by
 rw[iu,kJ];by_cases k:t.kind=3
 ·right;have:=hn t (fT t) k;simp only[decide_eq_false_iff_not];intro e;rw[e,hb]at this;cases this
 left;simp[k]
theorem zW{n:ByteArray}(h:D4 n=true):gZ n=true:=by simp[gZ,h]
theorem UW{t:T}(hn:nf gZ t):iu t ⟨#[109,117,108]⟩=false:=C5 hn (zW k_)
theorem UX{t:T}(hn:nf gZ t):iu t ⟨#[105,110,118]⟩=false:=C5 hn (zW k_)
theorem UV{t:T}(hn:nf gZ t):iu t ⟨#[120,111,114]⟩=false:=C5 hn (zW k_)
theorem NH{t:T}(hn:nf gZ t):iu t ⟨#[101,120,112]⟩=false:=C5 hn (zW k_)
theorem E6(t:T) (hn:nf gZ t):az C 169 [enc t]=some (.bool false):=by
 refine ay func169 rfl λR a=>?_
 have b:=xo t;simp +contextual [go_sem,aM,dm,b,UW hn,UX hn];exact a ⟨.bool false,by simp[aY,cC,f169,go_sem],aK rfl rfl⟩
theorem sI(t:T) (hn:nf gZ t) (h:H):ak C h (.func 169 []) (some [enc t])=some (.bool false,h):=aX (cg _) (by simp[aq]) s_ (E6 t hn)
theorem D3(t:T) (hn:nf gZ t):az C 111 [enc t]=some (.bool false):=by
 refine ay func111 rfl λR a=>?_
 have b:=xo t;have c:=sI t hn;simp +contextual [go_sem,aM,dm,b,c,UV hn,NH hn];exact a ⟨.bool false,by simp[aY,cC,f111,go_sem],aK rfl rfl⟩
theorem BS(t:T) (hn:nf gZ t) (h:H):ak C h (.func 111 []) (some [enc t])=some (.bool false,h):=aX (cg _) (by simp[aq]) s_ (D3 t hn)
def MB(l:Lq) (m:Nat) (st:PT) (_h:H):Prop:=∃k:Nat,m=l.length-k/\k<=l.length/\st.get 0=aM l/\st.get 4=.int .i64 k/\∃x,st.get 3=.isl [] x
theorem HQ(l:Lq) (hn:∀t∈l,nf gZ t) (hl:l.length<4000000):az C 231 [aM l]=some (aM []):=by
 refine ay func231 rfl λR hR=>?_
 have hln:=fI l;simp[go_sem];refine bL (MB l) l.length ⟨0,rfl,aN _,g_,g_,_,by simp[go_sem];rfl⟩ ?_;rintro m st h ⟨k,rfl,hk,g0,g4,x,g3⟩;by_cases hlt:k<l.length
 ·have hlt':(k:Int)<l.length:=by omega
  have hix:=eJ l k hlt
  have w2:IntKind.i64.wrap ((k:Int)+1)=((k+1:Nat):Int):=by rw[av (by omega)];omega
  have hk:=hn _ (aF hlt)
  have c1:=xo l[k]
  have c2:=sI l[k] hk
  simp[go_sem,g0,g4,hln,hlt',hix,lE,aV,c1,NH hk,c2,-Int.natCast_add,w2]
  exact⟨l.length-(k+1),by omega,k+1,rfl,hlt,by simp[go_sem,g0],by simp[go_sem],x,by simp[go_sem,g3]⟩
 have:k=l.length:=o_;subst this;simp[go_sem,g0,g3,g4,hln];exact hR ⟨.isl [] x,by simp[aY,cC,f231,go_sem],aK rfl rfl⟩
theorem Fh(l:Lq) (x:Ext) (hn:∀t∈l,nf gZ t) (hl:l.length<4000000) (h:H):ak C h (.func 231 []) (some [.isl (l.map enc) x])=some (aM [],h):=aX (args':=[aM l]) rfl rfl s_ (HQ l hn hl)
def Pd(l:Lq) (m:Nat) (st:PT) (_h:H):Prop:=∃k:Nat,m=l.length-k/\k<=l.length/\st.get 0=aM l/\st.get 4=.int .i64 k/\st.get 3=.int .i64 0
theorem QL(l:Lq) (hn:∀t∈l,nf gZ t) (hl:l.length<4000000):az C 168 [aM l]=some (.int .i64 (if 200<l.length then 3 else 0)):=by
 refine ay func168 rfl λR hR=>?_
 have hln:=fI l;simp[go_sem];refine bL (Pd l) l.length ⟨0,rfl,aN _,g_,g_,g_⟩ ?_;rintro m st h ⟨k,rfl,hk,g0,g4,g3⟩;by_cases hlt:k<l.length
 ·have hlt':(k:Int)<l.length:=by omega
  have hix:=eJ l k hlt
  have w2:IntKind.i64.wrap ((k:Int)+1)=((k+1:Nat):Int):=by rw[av (by omega)];omega
  have c2:=sI l[k] (hn _ (aF hlt))
  simp[go_sem,g0,g4,hln,hlt',hix,c2,-Int.natCast_add,w2]
  exact⟨l.length-(k+1),by omega,k+1,rfl,hlt,by simp[go_sem,g0],by simp[go_sem],by simp[go_sem,g3]⟩
 have:k=l.length:=o_;subst this;have c3:∀h,ak C h (.func 231 []) (some [aM l])=some (aM [],h):=Fh l .unk hn hl;have hl0:=fI [];by_cases q:200<l.length
 ·have q':(200:Int)<l.length:=o_;simp +contextual [go_sem,g0,g3,g4,hln,q',c3,hl0];refine hR ⟨.int .i64 3,by simp[aY,cC,f168,go_sem],?_⟩;rw[if_pos q];exact aK rfl rfl
 have q':¬(200:Int)<l.length:=o_;simp +contextual [go_sem,g0,g3,g4,hln,q',c3,hl0];refine hR ⟨.int .i64 0,by simp[aY,cC,f168,go_sem],?_⟩;rw[if_neg q];exact aK rfl rfl
theorem Hu(l:Lq) (x:Ext) (hn:∀t∈l,nf gZ t) (hl:l.length<4000000) (h:H):ak C h (.func 168 []) (some [.isl (l.map enc) x])=some (.int .i64 (if 200<l.length then 3 else 0),h):=aX (args':=[aM l]) rfl rfl s_ (QL l hn hl)
theorem vE(l:Lq):(l.flatMap (cZ bY)).length<=sizes l:=by
 induction l with
 |nil=>simp[sizes]
 |cons a l b=>have:=kE bY jj a;rw[cF,aL,sizes];omega
theorem mG:∀ {l:Lq}{t:T},t∈l->t.size<=sizes l
 |[],_,h=>by simp at h
 |a::l,t,h=>by
  rw[sizes];rcases ao.1 h with rfl|h
  ·omega
  have:=mG h;omega
def V3(l:Lq) (m:Nat) (st:PT) (h:H):Prop:=∃k:Nat,m=l.length-k/\k<=l.length/\st.get 0=aM l/\st.get 4=.int .i64 k/\OwnR 39 h (st.get 3) (((l.take k).flatMap (cZ bY)).map enc)
theorem GU(l:Lq) (hs:sizes l<4000000):az C 28 [aM l]=some (aM (gX l)):=by
 refine ay func28 rfl λR w=>?_
 have c:=fI l;have q:=len_sizes l;have d:∀t∈l,t.size<4000000:=λt z=>by have:=mG z;omega
 simp[go_sem];refine bL (V3 l) l.length ⟨0,rfl,aN _,g_,g_,.inr ⟨1,g_⟩⟩ ?_;rintro m A h ⟨k,rfl,L,r,s,i⟩;obtain⟨B,n⟩:∃v,v=A.get 3:=⟨_,rfl⟩
 rw[<-n]at i;by_cases b:k<l.length
 ·have e:(k:Int)<l.length:=o_;have o:=eJ l k b;have D:=wS k o_;have E:=wl l[k] (d _ (aF b));have f:(l.take (k+1)).flatMap (cZ bY)=(l.take k).flatMap (cZ bY)++cZ bY l[k]:=by rw[aJ b,eP];simp
  have g:=vE (l.take (k+1));have F:=take_sizes_le l (k+1);rw[f,aL]at g;have⟨G,I,j,u,_,_⟩:=eW (ys:=cZ bY l[k]) (x:=.unk) i o_;rw[<-f]at u;change bu C.P false h 37 B (aM (cZ bY l[k]))=some (G,I)at j;simp[go_sem,r,s,<-n,c,e,o,E,j,-Int.natCast_add,D];exact⟨l.length-(k+1),o_,k+1,rfl,b,g_,g_,by simpa[go_sem]using u⟩
 have:k=l.length:=o_;subst this;rw[ah]at i;have⟨x,J⟩:=i.isl;have g:=vE l;have K:=zR (l.flatMap (cZ bY)) x (λy p=>by have⟨a,j,p⟩:=bR.1 p;exact ot rH a (d a j) y p) o_
 simp[go_sem,r,s,<-n,c,J,K];exact w ⟨aM (gX l),by simp[aY,cC,f28,go_sem,gX],aK rfl rfl⟩
theorem As(l:Lq) (x:Ext) (hs:sizes l<4000000) (h:H):ak C h (.func 28 []) (some [.isl (l.map enc) x])=some (aM (gX l),h):=aX (args':=[aM l]) rfl rfl s_ (GU l hs)
def za(a:Lq):Int:=if fh a≠0 then fh a else if 200<(gX a).length then 3 else 0
theorem D9(k t:Lq) (_ht:t.length<=1) (hs:sizes (k++t)<4000000) (hn:∀x∈k++t,nf gZ x):az C 110 [aM k,aM t]=some (if 60<k.length then .tuple [aM [],.int .i64 3]else .tuple [if za (k++t)=0 then aM (gX (k++t))else aM [],.int .i64 (za (k++t))]):=by
 refine hJ rfl func110 rfl k_ (by simp[f110]) λR a=>?_
 have b:=fI k;by_cases q:60<k.length
 ·have d:(60:Int)<k.length:=o_;rw[if_pos q]at a;simp[go_sem,b,d];refine a _ _ _ (.inr rfl) ⟨.tuple [.isl [] (.tok _),.int .i64 3],by simp[aY,dx,cC,f110,go_sem];rfl,dF rfl rfl s_⟩
 have d:¬(60:Int)<k.length:=o_;rw[if_neg q]at a;have f:=len_sizes (k++t);rw[aL]at f;have⟨B,s,i,u,_,_⟩:=eW (xs:=[]) (ys:=k) (x:=.unk) (h:=[.tok 0 39]) (v:=.isl [] .full) (.inl rfl) (by simp;omega);have⟨D,w,l,p,_,_⟩:=eW (ys:=t) (x:=.unk) u (by simp;omega);simp only[bk]at i p;obtain⟨x,rfl⟩:=p.isl;have m:∀y∈k++t,y.size<4000000:=λy g=>by have:=mG g;omega
 have n:=Hx (k++t) x m hn (by rw[aL];omega);have r:=As (k++t) x hs;have o:(gX (k++t)).length<4000000:=by have s:=nq ((k++t).flatMap (cZ bY));have w:=vE (k++t);unfold gX;omega
 have c3:=Hu (gX (k++t)) .unk (λy g=>by have⟨z,A,g⟩:=mem_subsT.1 g;exact Gw z (hn z A) g) o
 generalize k++t=kt at *;by_cases c:fh (kt)=0
 ·by_cases j:200<(gX (kt)).length
  ·have e:za (kt)=3:=by rw[za,if_neg (by simp[c]),if_pos j]
   rw[e]at a;simp[go_sem,d,ua,aM,i,l,n,c,r,c3,j];refine a _ _ _ (.inr rfl) ⟨.tuple [.isl [] (.tok _),.int .i64 3],by simp[aY,dx,cC,f110,go_sem];rfl,dF rfl rfl s_⟩
  have e:za (kt)=0:=by rw[za,if_neg (by simp[c]),if_neg j]
  rw[e]at a;simp[go_sem,d,ua,aM,i,l,n,c,r,c3,j];refine a _ _ _ (.inr rfl) ⟨.tuple [aM (gX (kt)),.int .i64 0],by simp[aY,dx,cC,f110,go_sem,aM],dF rfl rfl s_⟩
 have e:za (kt)=fh (kt):=by rw[za,if_pos c]
 rw[e,if_neg c]at a;simp[go_sem,d,ua,aM,i,l,n,c];refine a _ _ _ (.inr rfl) ⟨.tuple [.isl [] (.tok _),.int .i64 (fh (kt))],by simp[aY,dx,cC,f110,go_sem];rfl,dF rfl rfl s_⟩
theorem JC(k:Lq) (t:T):yw k t=if 60<k.length then 3 else za (k++[t]):=rfl
theorem GO(k:Lq) (t:T) (hs:sizes (k++[t])<4000000) (hn:∀x∈k++[t],nf gZ x):az C 72 [aM k,enc t]=some (.tuple [if yw k t=0 then aM (gX (k++[t]))else aM [],.int .i64 (yw k t)]):=by
 refine ay func72 rfl λR a=>?_
 have b:∀h,ak C h (.func 110 []) (some [aM k,.isl [enc t] .full])=some (.tuple [if yw k t=0 then aM (gX (k++[t]))else aM [],.int .i64 (yw k t)],h):=λh=>by refine aX (args':=[aM k,aM [t]]) rfl rfl s_ ?_;rw[D9 k [t] s_ hs hn,JC];split<;>rfl
 simp[go_sem,aM,dm,dp];rw[show AV.isl (k.map enc) .unk=aM k from rfl];simp[go_sem,b];refine a ⟨_,by simp[aY,dx,cC,f72,go_sem];rfl,dF ?_ ?_ s_⟩<;>(split<;>rfl)
theorem Df(k:Lq) (x:Ext) (t:T) (hs:sizes (k++[t])<4000000) (hn:∀y∈k++[t],nf gZ y) (h:H):ak C h (.func 72 []) (some [.isl (k.map enc) x,enc t])=some (.tuple [if yw k t=0 then aM (gX (k++[t]))else aM [],.int .i64 (yw k t)],h):=
 aX (args':=[aM k,enc t]) (by rw[bE];rfl) (by rw[bE];rfl) s_ (GO k t hs hn)
theorem Xv(l:Lq) (t:T) (hl:∀y∈l,y.size<4000000) (hn:l.length<4000000) (ht:t.size<4000000):az C 73 [aM l,enc t]=some (.bool (kr l t)):=by
 refine ay func73 rfl λR a=>?_
 have b:=Dl l .unk t hl hn ht;simp[go_sem,aM,dm,b];exact a ⟨.bool (kr l t),by simp[aY,cC,f73,go_sem],aK rfl rfl⟩
theorem Lg(l:Lq) (x:Ext) (t:T) (hl:∀y∈l,y.size<4000000) (hn:l.length<4000000) (ht:t.size<4000000) (h:H):ak C h (.func 73 []) (some [.isl (l.map enc) x,enc t])=some (.bool (kr l t),h):=
 aX (args':=[aM l,enc t]) (by rw[bE];rfl) (by rw[bE];rfl) s_ (Xv l t hl hn ht)
def rg(t:T):T × Int:=if dy t≠0 then(zT,dy t)else match rf t with
 |some k=>(k,0)
 |none=>(zT,if iu t pH=true then 4 else 10)
theorem kU{t:T}(h:gK t=0) (k:t.kind=3):mJ t=true/\oT t.name≠0/\jN t.kids=0:=by
 rw[uK,if_neg (by simp[k])]at h;split at h
 ·cases h
 rename_i q;split at h
 ·cases h
 rename_i a;split at h
 ·cases h
 exact⟨by simpa using a,q,h⟩
theorem tD:∀ {l:Lq},jN l=0->∀t∈l,gK t=0
 |[],_,t,h=>by simp at h
 |a::l,e,t,h=>by
  rw[jN]at e;have e:=thn_zero.1 e;rcases ao.1 h with rfl|h
  ·exact e.1
  exact tD e.2 t h
theorem AZ{t:T}(h:mJ t=true) (hn:t.name=vQ\/t.name=pH):t.kids.length=2:=by
 have e:∀n,n=vQ\/n=pH->sP n=some ⟨n,2,2,1⟩:=λn hn=>by
  rcases hn with rfl|rfl
  ·kernel_rfl
  kernel_rfl
 unfold mJ at h;rw[e _ hn]at h;simp only[am,decide_eq_true_eq]at h;omega
theorem N6{t:T}(h:mJ t=true) (hn:t.name=nPk):t.kids.length=1:=by have e:sP nPk=some ⟨nPk,1,1,1⟩:=k_;unfold mJ at h;rw[hn,e]at h;simp only[am,decide_eq_true_eq]at h;omega
theorem kX(l:Lq) (k:Nat) (hk:k<l.length):bH C.P 37 (aM l) (.int .i64 (k:Nat))=some (.iptr (enc l[k]) 0):=eJ l k hk
theorem Uz(t:T) (hs:t.size<4000000):az C 232 [enc t]=some (iC (rg t)):=by
 refine ay func232 rfl λR y=>?_
 have fin:∀(d:PT) (r:T) (x:VObj) (l:H),d.get 2=.ptr 1 0->d.get 3=.int .i64 0->rg t=(r,0)->R .ret d (x::.cells (enc r).cells .live::l):=λd r x l s u e=>y ⟨iC (r,0),by
  have:aW C.P (x::.cells (enc r).cells .live::l) 39 (.ptr 1 0)=some (enc r):=wM r rfl;simp[aY,dx,cC,f232,s,u,this,iC],by rw[e];exact rG _ _ _⟩
 have b:∀(d:PT) (x:VObj) (l:H) (e:Int),d.get 2=.ptr 1 0->d.get 3=.int .i64 e->rg t=(zT,e)->R .ret d (x::.cells [.int .i64 0,.str ⟨#[]⟩,.int .i64 0,.isl [] .full] .live::l):=λd x l e s u h=>y ⟨.tuple [.agg [.int .i64 0,.str ⟨#[]⟩,.int .i64 0,.isl [] .full],.int .i64 e],by
  simp[aY,dx,cC,f232,s,u,go_sem],by rw[h];exact xI _ _⟩
 have m:=wn t hs;have o:=xo t;by_cases q:dy t=0
 ·have v:=(je q).2;by_cases j:iu t vQ=true
  ·have⟨p,w⟩:=ea j;have A:=AZ (kU v p).1 (.inl w);have a:bH C.P 37 (aM t.kids) (.int .i64 1)=some (.iptr (enc t.kids[1]) 0):=kX t.kids 1 o_;have e:rg t=(t.kids[1],0):=by unfold rg rf;rw[if_neg (by simp[q]),if_pos j,aC o_]
   have c:iu t ⟨#[101,110,99]⟩=true:=j;simp only[aM]at a;simp[go_sem,aM,lE,aV,dm,m,q,o,c,a];exact fin _ _ _ _ g_ g_ e
  have c:iu t ⟨#[101,110,99]⟩=false:=iz.2 j;by_cases g:iu t pH=true
  ·have⟨p,w⟩:=ea g;have A:=AZ (kU v p).1 (.inr w);have a:bH C.P 37 (aM t.kids) (.int .i64 1)=some (.iptr (enc t.kids[1]) 0):=kX t.kids 1 o_;have f:iu t ⟨#[97,101,110,99]⟩=true:=g;have c3:=xo t.kids[1];have z:t.kids[1]?=some t.kids[1]:=aC o_;by_cases n:iu t.kids[1] nPk=true
   ·have⟨B,D⟩:=ea n;have E:=tD (kU v p).2.2 t.kids[1] (aF _);have F:=N6 (kU E B).1 D;have i:bH C.P 37 (aM t.kids[1].kids) (.int .i64 0)=some (.iptr (enc t.kids[1].kids[0]) 0):=kX t.kids[1].kids 0 o_;have k:iu t.kids[1] ⟨#[112,107]⟩=true:=n;have e:rg t=(t.kids[1].kids[0],0):=by unfold rg rf;rw[if_neg (by simp[q]),if_neg j,if_pos g,z,cn,if_pos n,aC o_]
    simp only[aM]at a i;simp[go_sem,aM,lE,aV,dm,m,q,o,c,f,a,c3,k,i];exact fin _ _ _ _ g_ g_ e
   have k:iu t.kids[1] ⟨#[112,107]⟩=false:=iz.2 n;have e:rg t=(zT,4):=by unfold rg rf;rw[if_neg (by simp[q]),if_neg j,if_pos g,z,cn,if_neg n];dsimp only;rw[if_pos g]
   simp only[aM]at a;simp[go_sem,aM,lE,aV,dm,m,q,o,c,f,a,c3,k,A2];exact b _ _ _ _ g_ g_ e
  have f:iu t ⟨#[97,101,110,99]⟩=false:=iz.2 g;have e:rg t=(zT,10):=by unfold rg rf;rw[if_neg (by simp[q]),if_neg j,if_neg g];dsimp only;rw[if_neg g]
  simp[go_sem,aM,lE,aV,dm,m,q,o,c,f,A2];exact b _ _ _ _ g_ g_ e
 have e:rg t=(zT,dy t):=by unfold rg;rw[if_pos q]
 simp[go_sem,aM,lE,aV,dm,m,q,A2];exact b _ _ _ _ g_ g_ e
theorem R0(t:T) (hs:t.size<4000000) (h:H):ak C h (.func 232 []) (some [enc t])=some (iC (rg t),h):=aX (cg _) (by simp[aq]) s_ (Uz t hs)
theorem oB(x y:Operand) (a b:ByteArray) (hs:a.size+b.size<9223372036854775807):iN C.P .add 9 x y (.str a) (.str b)=some (.str (a++b)):=by
 have e:dI C.P (do eqGuard BinOp.add 9 x y (.string a) (.string b);binOp .add 9 (.string a) (.string b))=some (.string (a++b)):=by have c:¬(9223372036854775807:Int)<(a.size:Int)+b.size:=o_;simp[eqGuard,binOp,Op.stringOp,c];try rfl
 simp only[iN,fH,cw,e,eC,db]
@[go_sem] theorem Wd (P:Program) (a b:TypeId) (es:LA) (x:Ext):JG P a b (.isl es x)=wa P a b es:=(rfl)
def bs(l:List UInt8):ByteArray:=⟨l.toArray⟩
theorem Vf(a b:List UInt8):bs a++bs b=bs (a++b):=by apply ByteArray.ext;simp[bs]
theorem JQ(a:List UInt8):(bs a).size=a.length:=by simp[bs,ByteArray.size]
theorem A9(x y:Operand) (a b:List UInt8) (hs:a.length+b.length<9223372036854775807):iN C.P .add 9 x y (.str (bs a)) (.str (bs b))=some (.str (bs (a++b))):=by rw[oB _ _ _ _ (by rw[JQ,JQ];exact hs),Vf]
theorem Rp:(List.range 256).all (λn=>match Ai C.P 3 5 (.int .i64 n)with|some (.int .u8 m)=>decide (m=n)|_=>false)=true:=k_
theorem cvb(n:Nat) (h:n<256):Ai C.P 3 5 (.int .i64 n)=some (.int .u8 n):=by
 have:=bI.mp Rp n (eL.mpr h);split at this
 ·rename_i m e;simp only[decide_eq_true_eq]at this;rw[e,this]
 cases this
theorem P3:C.P.underlying 25=some (.slice 5):=underlying25
theorem s5:cr C.P 5=some 1:=k_
theorem z5:gH C.P 5=true:=k_
theorem Lt(h:H) (a b c:Int):cI C.P h 25 3 [(0,.int .u8 a),(1,.int .u8 b),(2,.int .u8 c)]=some (.isl [.int .u8 a,.int .u8 b,.int .u8 c] .full,h):=cG P3 s5 z5 rfl o_ rfl rfl rfl s_ rfl
theorem CW(h:H) (a:Int):cI C.P h 25 1 [(0,.int .u8 a)]=some (.isl [.int .u8 a] .full,h):=cG P3 s5 z5 rfl o_ rfl rfl rfl s_ rfl
theorem VT(a b c:Nat):wa C.P 25 9 ([.int .u8 a,.int .u8 b,.int .u8 c])=some (.str (bs [UInt8.ofNat a,UInt8.ofNat b,UInt8.ofNat c])):=by unfold wa;rw[P3,show C.P.underlying 9=some .string from underlying9];dsimp only;rw[show C.P.underlying 5=some (.int .u8)from underlying5];rfl
theorem OV(a:Nat):wa C.P 25 9 ([.int .u8 a])=some (.str (bs [UInt8.ofNat a])):=by unfold wa;rw[P3,show C.P.underlying 9=some .string from underlying9];dsimp only;rw[show C.P.underlying 5=some (.int .u8)from underlying5];rfl
def prt(t:T):ByteArray:=bs (jl t)
def jm(t:T):List UInt8:=[UInt8.ofNat t.kind.toNat,UInt8.ofNat t.sort.toNat,UInt8.ofNat t.kids.length]++t.name.data.toList++[40]
theorem yH(a b:Lq):dY (a++b)=dY a++dY b:=by
 induction a with
 |nil=>rfl
 |cons x a c=>rw[cP,dY,dY,c];simp
theorem KI:∀t:T,dS t=0->(jl t).length<=40*t.size:=by
 refine T.ind λt i d=>?_
 have⟨_,_,_,e,f⟩:=ql (gF d);have j:t.name.data.toList.length<=24:=by simp only[kV,am,decide_eq_true_eq]at e;have:=e.1.1.2;rw[dR];exact this
 have b:∀l:Lq,(∀k∈l,(jl k).length<=40*k.size)->(dY l).length<=40*sizes l+l.length:=by
  intro l;induction l with
  |nil=>intro _;simp[dY]
  |cons a l c=>
   intro h;have m:=h a s_;have n:=c λk f=>h k (by simp[f])
   rw[dY,aL,aG,sizes,aG];omega
 have:=b t.kids λk g=>i k g (kq t d k (vo g))
 rw[uJ,size_kids];simp only[aL,aG,aQ];omega
def S4(t:T) (m:Nat) (st:PT) (h:H):Prop:=∃k:Nat,m=t.kids.length-k/\k<=t.kids.length/\h=[.cells (enc t).cells .live]/\st.get 1=.ptr 0 0/\st.get 4=.int .i64 k/\st.get 3=.str (bs (jm t++dY (t.kids.take k)))
theorem YN(n:ByteArray):n=bs n.data.toList:=by cases n;simp[bs]
theorem M4(t:T) (hs:t.size<4000000) (hv:dS t=0) (hc:∀k∈t.kids,az C 170 [enc k]=some (.str (prt k))):az C 170 [enc t]=some (.str (prt t)):=by
 refine ay func170 rfl λR J=>?_
 have F:=KI t hv;have i:jl t=jm t++dY t.kids++[41]:=by rw[uJ];rfl
 have⟨K,L,M,_,N⟩:=ql (gF hv);obtain⟨c,d⟩:∃n:Nat,t.kind=n:=⟨t.kind.toNat,o_⟩
 obtain⟨e,f⟩:∃n:Nat,t.sort=n:=⟨t.sort.toNat,o_⟩
 have O:=cvb c o_;have Q:=cvb e o_;have b3:=cvb t.kids.length o_;have hl:(jm t).length+(dY t.kids).length+1<1000000000:=by have:=congrArg List.length i;simp only[aL,aG,aQ]at this;omega
 have j:jm t=[UInt8.ofNat c,UInt8.ofNat e,UInt8.ofNat t.kids.length]++t.name.data.toList++[40]:=by rw[jm,d,f];rfl
 have S:t.name.data.toList.length<=(jm t).length:=by rw[j];simp;omega
 have v:=λx y=>A9 x y [UInt8.ofNat c,UInt8.ofNat e,UInt8.ofNat t.kids.length] t.name.data.toList (by simp only[aG,aQ];omega)
 have w:=λx y=>A9 x y ([UInt8.ofNat c,UInt8.ofNat e,UInt8.ofNat t.kids.length]++t.name.data.toList) [40] (by simp only[aL,aG,aQ];omega)
 rw[<-j]at w;rw[<-YN]at v;obtain⟨q,U⟩:∃q,q=[UInt8.ofNat c,UInt8.ofNat e,UInt8.ofNat t.kids.length]++t.name.data.toList:=⟨_,rfl⟩
 rw[<-U]at v w;have z:(⟨#[40]⟩:ByteArray)=bs [40]:=rfl;have a:(enc t).cells=[.int .i64 (c:Int),.str t.name,.int .i64 (e:Int),.isl (t.kids.map enc) .unk]:=by rw[au,d,f];rfl
 have V:=VT c e t.kids.length;simp[go_sem,aM,d,f,O,Q,b3,Lt,V,v,z,w];have A:(⟨#[44]⟩:ByteArray)=bs [44]:=rfl;have B:(⟨#[41]⟩:ByteArray)=bs [41]:=rfl;refine bL (S4 t) t.kids.length ⟨0,rfl,aN _,by rw[a],g_,g_,by simp[go_sem,dY]⟩ ?_;have X:=size_kids t;have Y:=len_sizes t.kids;rintro m st h ⟨k,rfl,hk,rfl,G,I,l⟩;by_cases b:k<t.kids.length
 ·have o:(k:Int)<t.kids.length:=o_;have D:=kX t.kids k b;have Z:=wS k o_;have ck:∀h,ak C h (.func 170 []) (some [enc t.kids[k]])=some (.str (bs (jl t.kids[k])),h):=λh=>aX (cg _) (by simp[aq]) s_ (hc _ (aF b))
  have p:dY (t.kids.take (k+1))=dY (t.kids.take k)++jl t.kids[k]++[44]:=by rw[aJ b,yH];simp[dY]
  have r:dY t.kids=dY (t.kids.take (k+1))++dY (t.kids.drop (k+1)):=by rw[<-yH,fF]
  have s:=congrArg List.length r;rw[p]at s;simp only[aL,aG,aQ]at s;have g:=λx y=>A9 x y (jm t++dY (t.kids.take k)) (jl t.kids[k]) (by rw[aL];omega)
  have u:=λx y=>A9 x y (jm t++dY (t.kids.take k)++jl t.kids[k]) [44] (by simp only[aL,aG,aQ];omega)
  have e2:jm t++dY (t.kids.take k)++jl t.kids[k]++[44]=jm t++dY (t.kids.take (k+1)):=by rw[p];simp only[List.append_assoc]
  rw[e2]at u;generalize jm t++dY (t.kids.take k)++jl t.kids[k]=z1 at g u;generalize jm t++dY (t.kids.take k)=z0 at g l;generalize E:jm t++dY (t.kids.take (k+1))=z2 at u;simp[go_sem,G,l,I,o,D,ck,g,A,u,-Int.natCast_add,Z];exact⟨t.kids.length-(k+1),o_,k+1,rfl,b,rfl,g_,g_,by simp[go_sem,E]⟩
 have:k=t.kids.length:=o_;subst this;rw[ah]at l;have g:=λx y=>A9 x y (jm t++dY t.kids) [41] (by simp only[aL,aG,aQ];omega)
 rw[<-i]at g;generalize jm t++dY t.kids=z0 at g l;simp[go_sem,G,l,I,B,g];exact J ⟨.str (prt t),by simp[aY,cC,f170,go_sem,prt],aK rfl rfl⟩
theorem Cu:∀t:T,t.size<4000000->dS t=0->az C 170 [enc t]=some (.str (prt t)):=by refine T.ind λt c d b=>M4 t d b λk a=>c k a (by have:=kid_size a;omega) (kq t b k (vo a))
theorem uZ(t:T) (hs:t.size<4000000) (hv:dS t=0) (h:H):ak C h (.func 170 []) (some [enc t])=some (.str (prt t),h):=aX (cg _) (by simp[aq]) s_ (Cu t hs hv)
theorem aAf(n:ByteArray) (h:kV n=true):(40:UInt8)∉n.data.toList:=by
 simp only[kV,am]at h;have a:∀(m k:Nat),pj n k m=true->∀i,k<=i->i<k+m->uq (dT n i)=true:=by
  intro m;induction m with
  |zero=>intro k _ i f g;omega
  |succ m j=>
   intro k b i f g;rw[pj,am]at b;by_cases e:i=k
   ·subst e;exact b.1
   exact j (k+1) b.2 i o_ o_
 intro l;have⟨i,d,e⟩:=kh.1 l;have c:i<n.size:=by rw[dR]at d;exact d
 have:=a n.size 0 h.2 i o_ o_;have o:dT n i=40:=by
  unfold dT;rw[dif_pos c];have:n[i]=(40:UInt8):=by rw[<-e,oE];rfl
  rw[this];rfl
 rw[o]at this;exact absurd this d_
theorem QV{t u:T}(ht:dS t=0) (hu:dS u=0) (h:prt t=prt u):t=u:=by
 have e:jl t=jl u:=by have:=congrArg (λb:ByteArray=>b.data.toList) h;simpa[prt,bs]using this
 exact(KJ aAf t ht u [] [] hu (by simpa using e)).1
def oZ(ps:List (ByteArray × Nat)):List (AV × AV):=ps.map λp=>(.str p.1,.int .i64 p.2)
def OJ(ns:List ByteArray) (i:Nat):List MapEntry:=ns.zipIdx i |>.map λp=>{key:=.string p.1,val:=.int .i64 p.2,born:=0}
theorem TU:∀(ps:List (ByteArray × Nat)) (i:Nat),li (oZ ps) i=some (OJ (ps.map (·.1)) i)
 |[],i=>rfl
 |n::ns,i=>by have ih:=TU ns (i+1);simp only[oZ,OJ,aS]at ih ⊢;simp only[li,ih,fH,cw,nU,aS]
theorem N8(s:ByteArray):∀(ns:List ByteArray) (i j:Nat),∃r,Instr.findNow .string (.string s) (OJ ns i) j=some r/\(∀k,ns.idxOf? s=some k->∃v,r=some (j+k,v))/\(ns.idxOf? s=none->r=none)
 |[],i,j=>⟨none,rfl,s_,λ_=>rfl⟩
 |n::ns,i,j=>by
  have⟨r,h1,h2,h3⟩:=N8 s ns (i+1) (j+1);have e:Instr.sameNow .string (.string s) (.string n)=some (decide (s=n)):=by rw[<-Si];rfl
  have u:Instr.findNow .string (.string s) (OJ (n::ns) i) j=(match Instr.sameNow .string (.string s) (.string n)with
   |some true=>some (some (j,.int .i64 (i:Nat)))
   |some false=>Instr.findNow .string (.string s) (OJ ns (i+1)) (j+1)
   |none=>none):=rfl
  rw[u,e,List.idxOf?_cons];by_cases q:s=n
  ·subst q;have:(s==s)=true:=by rw[Si];simp
   rw[decide_eq_true rfl,this];exact⟨_,rfl,λk a=>⟨_,by simp at a;subst a;rfl⟩,λh=>by simp at h⟩
  have:(n==s)=false:=by rw[Si];simpa using λh=>q h.symm
  rw[decide_eq_false q,this];refine⟨r,h1,λk a=>?_,λh=>h3 (by simpa using h)⟩;simp only[aw,if_false,cV]at a;obtain⟨c,b,rfl⟩:=a;have⟨v,d⟩:=h2 c b;exact⟨v,by rw[d];congr 2;omega⟩
theorem aBH(b:Bool) (a:ByteArray):dI prog (Instr.checkKey b 10000 9 (.string a))=some ():=by cases b<;>kernel_rfl
theorem TV(b:Bool) (s:ByteArray) (ps:List (ByteArray × Nat)):wR prog b 9 (.str s) (oZ ps)=some ((ps.map (·.1)).idxOf? s):=by
 have⟨r,a,c,d⟩:=N8 s (ps.map (·.1)) 0 0;have f:fH (.str s)=some (.string s):=rfl;have:wR prog b 9 (.str s) (oZ ps)=some (r.map (·.1)):=by unfold wR;rw[f,TU];dsimp only;unfold PK;rw[ie,aBH];simp only[cn];unfold Instr.findKey;rw[ie,My underlying9];simp only[cn,a];rfl
 rw[this];cases e:(ps.map (·.1)).idxOf? s with
 |none=>rw[d e];rfl
 |some k=>have⟨v,g⟩:=c k e;rw[g];simp
theorem W2:C.P.underlying 183=some (.map 9 3):=underlying183
def ixM(u:Lq) (k:Nat):List (ByteArray × Nat):=(u.take k).zipIdx.map λp=>(prt p.1,p.2)
def UR(u:Lq):Prop:=u.Nodup/\∀t∈u,dS t=0/\t.size<4000000
theorem Er(u:Lq) (k:Nat):(ixM u k).map (·.1)=(u.take k).map prt:=by
 unfold ixM;rw[jx];have:∀(l:Lq) (i:Nat),(l.zipIdx i).map ((λx=>x.fst)∘λp=>(prt p.1,p.2))=l.map prt:=by
  intro l;induction l with
  |nil=>intro i;rfl
  |cons a l b=>intro i;rw[nU,aS,b];rfl
 exact this _ 0
theorem I3{l:Lq}(hl:∀t∈l,dS t=0) (hn:l.Nodup){t:T}(ht:dS t=0):(t∈l->(l.map prt).idxOf? (prt t)=some (ixU l t))/\(t∉l->(l.map prt).idxOf? (prt t)=none):=by
 induction l with
 |nil=>exact⟨λh=>by simp at h,λ_=>rfl⟩
 |cons a l b=>
  have b:=b (λx d=>hl x (by simp[d])) (oL.1 hn).2;have f:(prt a==prt t)=decide (a.cmp t=0):=by rw[Si,fO];simp only[decide_eq_true_eq];exact⟨λe=>by rw[QV (hl a s_) ht e,cmp_refl],λe=>by rw[cmp_zero.1 e]⟩
  rw[aS,List.idxOf?_cons,f];by_cases q:a.cmp t=0
  ·have:=cmp_zero.1 q;subst this;refine⟨λ_=>?_,λh=>by simp at h⟩;simp[ixU,List.findIdx_cons,q]
  have c:t≠a:=λe=>q (by rw[e,cmp_refl])
  simp only[q,decide_false,aw,if_false,ao];refine⟨λh=>?_,λh=>?_⟩
  ·rw[b.1 (h.resolve_left c)];simp[ixU,List.findIdx_cons,q]
  rw[b.2 λg=>h (.inr g)];rfl
theorem Nk{u:Lq}{k:Nat}(hk:k<u.length):ixM u (k+1)=ixM u k++[(prt u[k],k)]:=by unfold ixM;rw[aJ hk,List.zipIdx_append,br];simp[oJ (jw hk)]
theorem Q3{u:Lq}{i:Nat}(hi:i<u.length):(ixM u u.length)[i]?=some (prt u[i],i):=by unfold ixM;rw[ah,ba,List.getElem?_zipIdx,aC hi];simp
theorem lkI{h:H}{q:Nat}{u:Lq}(ho:UR u) (hq:h[q]?=some (.map (oZ (ixM u u.length)))){t:T}(ht:t∈u):nX C.P h 183 (.mp q) (.str (prt t)) false=some (.int .i64 (ixU u t)):=by
 have a:=TV (oZ (ixM u u.length)).isEmpty (prt t) (ixM u u.length);rw[Er,ah,(I3 (λx b=>(ho.2 x b).1) ho.1 (ho.2 t ht).1).1 ht]at a;unfold nX;rw[W2];dsimp only;rw[hq];dsimp only;rw[show wR C.P (oZ (ixM u u.length)).isEmpty 9 (.str (prt t)) (oZ (ixM u u.length))=_ from a];dsimp only;have:(oZ (ixM u u.length))[ixU u t]?=some (.str (prt (u[ixU u t]'(tQ ht))),.int .i64 (ixU u t:Nat)):=by rw[oZ,ba,Q3 (tQ ht)];rfl
 rw[this];rfl
theorem upI{h:H}{q k:Nat}{u:Lq}(ho:UR u) (hk:k<u.length) (hq:h[q]?=some (.map (oZ (ixM u k)))):fS C.P h 183 (.mp q) (.str (prt u[k])) (.int .i64 k)=some (h.set q (.map (oZ (ixM u (k+1))))):=by
 have b:=TV false (prt u[k]) (ixM u k);have a:u[k]∉u.take k:=λc=>by
  have⟨j,d,e⟩:=kh.1 c;rw[List.getElem_take]at e;have f:j<k:=by rw[ag]at d;omega
  exact absurd ((List.getElem_inj ho.1).1 e) o_
 rw[Er,(I3 (λx g=>(ho.2 x (bW g)).1) (ho.1.sublist (List.take_sublist _ _)) (ho.2 _ (aF hk)).1).2 a]at b;unfold fS;rw[W2];dsimp only;rw[hq];dsimp only;rw[show wR C.P false 9 (.str (prt u[k])) (oZ (ixM u k))=_ from b];dsimp only;rw[if_neg (by simp[bf]),if_pos (by rfl),Nk hk];simp[oZ]
theorem u53:C.P.underlying 53=some (.slice 3):=underlying53
theorem s53:cr C.P 53=some 1:=k_
theorem a53:fJ C.P 53=some false:=k_
theorem aA1:ii C.P 53=some 3:=k_
theorem To:C.P.underlying 185=some (.slice 189):=underlying185
theorem Gi:cr C.P 189=some 2:=k_
theorem Yi:fJ C.P 189=some true:=k_
theorem aBO:hG C.P 189=some 32:=k_
theorem Wy:gH C.P 189=true:=k_
theorem Ws:iH C.P 189=some (.agg [.isl [] .full,.int .i64 0]):=k_
theorem Xq:ii C.P 185=some 189:=k_
attribute [go_sem] aA1 Xq Ws
theorem Vj:fK C.P 189 [(1,.int .i64 (-1))]=some (.agg [.isl [] .full,.int .i64 (-1)]):=k_
theorem RT(i:Nat):bF C.P 189 (.ptr i 0) 0=some (.ptr i 0):=k_
theorem RS(i:Nat):bF C.P 189 (.ptr i 0) 1=some (.ptr i 1):=k_
attribute [go_sem] RT RS
theorem Un(a b:AV):ldM C.P 53 0 (some (.cells [a,b] .live))=some a:=by simp[ldM,aZ,a53,s53]
theorem Um(a b:AV):ldM C.P 3 1 (some (.cells [a,b] .live))=some b:=by simp[ldM,aZ,a3,s3]
theorem Ul(a b:AV):ldM C.P 189 0 (some (.cells [a,b] .live))=some (.agg [a,b]):=by simp[ldM,aZ,Yi,Gi]
theorem W5(h:H) (i:Nat) (a b a' b':AV):stM C.P 189 (.agg [a',b']) 0 h i (some (.cells [a,b] .live))=some (pt h i (.cells [a',b'] .live)):=sq Gi h i _ _ rfl rfl
theorem Ty(h:H) (i:Nat) (a b:AV) (es:LA) (x:Ext):stM C.P 53 (.isl es x) 0 h i (some (.cells [a,b] .live))=some (pt h i (.cells [.isl es x,b] .live)):=sr s53 h i 0 _ _ rfl s_
theorem Tx(h:H) (i:Nat) (a b:AV) (n:Int):stM C.P 3 (.int .i64 n) 1 h i (some (.cells [a,b] .live))=some (pt h i (.cells [a,.int .i64 n] .live)):=sr s3 h i 1 _ _ rfl s_
attribute [go_sem] Un Um Ul W5 Ty Tx
def bP(l:List Int):LA:=l.map (AV.int .i64)
theorem nE(l:List Int):gn 1 (bP l)=true:=by cases l<;>rfl
theorem A6{h:H}{v:AV}{xs ys:List Int}{x:Ext}(o:OwnR 3 h v (bP xs)) (hl:xs.length+ys.length<=100000000000) :
  ∃v' h',bu C.P false h 53 v (.isl (bP ys) x)=some (v',h')/\OwnR 3 h' v' (bP (xs++ys))/\Keep h h' (bv v)/\(bv v'=bv v\/bv v=none/\bv v'=some h.length):=by
 have:=jG (x:=x) u53 s3 b3 z3 rfl o (nE xs) (nE ys) (by simp only[bP,aU];omega);rwa[show bP xs++bP ys=bP (xs++ys) by simp[bP]]at this
theorem xq(h:H) (n:Int):cI C.P h 53 1 [(0,.int .i64 n)]=some (.isl [.int .i64 n] .full,h):=cG u53 s3 z3 rfl o_ rfl rfl rfl s_ rfl
theorem xr(h:H):cI C.P h 53 0 []=some (.isl [] .full,h):=cG u53 s3 z3 rfl o_ rfl rfl rfl s_ rfl
theorem yU(u:Lq) (t:T):(kD u t).cells=[.isl (t.kids.map λk=>.int .i64 (ixU u k)) .unk,.int .i64 (tP u t)]:=rfl
theorem Aw(h:H) (es:LA) (x:Ext) (n:Int):cI C.P h 185 1 [(0,.agg [.isl es x,.int .i64 n])]=some (.isl [.agg [.isl es .unk,.int .i64 n]] .full,h):=cG To Gi Wy rfl o_ rfl rfl rfl s_ rfl
theorem IT(u:Lq) (l:Lq):gn 2 (l.map (kD u))=true:=by cases l<;>rfl
theorem L3{h:H}{v:AV}{u xs ys:Lq}{x:Ext}(o:OwnR 189 h v (xs.map (kD u))) (hl:xs.length+ys.length<=100000000000) :
  ∃v' h',bu C.P false h 185 v (.isl (ys.map (kD u)) x)=some (v',h')/\OwnR 189 h' v' ((xs++ys).map (kD u))/\Keep h h' (bv v)/\(bv v'=bv v\/bv v=none/\bv v'=some h.length):=by
 have:=jG (x:=x) To Gi aBO Wy rfl o (IT u xs) (IT u ys) (by simp only[aU];omega);rwa[<-br]at this
def eD(u:Lq) (l:Lq):List Int:=l.map λk=>(ixU u k:Int)
theorem yS(u l:Lq):bP (eD u l)=l.map λk=>AV.int .i64 (ixU u k):=by simp[bP,eD]
def aBX(u:Lq) (q:Nat) (h0:H) (m:Nat) (st:PT) (h:H):Prop:=∃k:Nat,m=u.length-k/\k<=u.length/\Pre h0 h/\st.get 0=aM u/\st.get 1=.mp q/\st.get 6=.int .i64 k/\OwnR 189 h (st.get 5) ((u.take k).map (kD u))/\(∀i,bv (st.get 5)=some i->h0.length<=i)
def aBd(u:Lq) (q k:Nat) (t:T) (p:Nat) (v5:AV) (h0:H) (m:Nat) (st:PT) (h:H):Prop:=∃(j:Nat) (v:AV),m=t.kids.length-j/\j<=t.kids.length/\Pre h0 h/\h0.length<=p/\st.get 0=aM u/\st.get 1=.mp q/\st.get 5=v5/\st.get 6=.int .i64 k/\st.get 7=.ptr p 0/\st.get 8=.int .i64 j /\
 h[p]?=some (.cells [v,.int .i64 (-1)] .live)/\OwnR 3 h v (bP (eD u (t.kids.take j)))/\OwnR 189 h v5 ((u.take k).map (kD u))/\∀i,bv v=some i->h0.length<=i
theorem Pre.keep{h0 h h':H}{v:AV}(p:Pre h0 h) (k:Keep h h' (bv v)) (hv:∀i,bv v=some i->h0.length<=i):Pre h0 h':=by
 refine⟨h'.drop h0.length,?_⟩;apply cU;intro j;have b:=k.1;have c:=p.len;by_cases a:j<h0.length
 ·rw[aP a];have e:h[j]?=h0[j]?:=by obtain⟨g,rfl⟩:=p;rw[aP a]
  rw[<-e];exact k.2 j o_ (λe=>by have:=hv j e;omega)
 rw[aj o_,cE];congr 1;omega
def KS(u:Lq):Prop:=UR u/\u.length<4000000/\(∀t∈u,∀k∈t.kids,k∈u)/\∀t∈u,dy t=0
theorem Ni{u:Lq}(ho:KS u){t k:T}(ht:t∈u) (hk:rf t=some k):k∈u:=by
 rcases Ep hk with h|⟨p,a,h⟩
 ·exact ho.2.2.1 t ht k h
 exact ho.2.2.1 p (ho.2.2.1 t ht p a) k h
theorem KH(u:Lq) (ho:KS u) (h0:H) (q:Nat) (hq:h0[q]?=some (.map (oZ (ixM u u.length)))):∃g,ak C h0 (.func 171 []) (some [aM u,.mp q])=some (KG u,h0++g):=by
 suffices hh:∃r s,Go.V.Call C 171 [aM u,.mp q] h0=some (r,s)/\∃g,s=h0++g/\fc (h0++bj g) dD r=some (KG u) by
  obtain⟨r,s,a,g,rfl,b⟩:=hh;exact⟨bj g,Rx k_ rfl a b⟩
 have⟨f,z9,q',z1⟩:=id ho;refine lC rfl func171 rfl k_ (by simp[f171]) λR hR=>?_
 simp[go_sem];refine bL (aBX u q h0) u.length ⟨0,rfl,aN _,((Pre.refl h0).app _).app _,g_,g_,g_,.inr ⟨h0.length+1,g_,s_⟩,by simp[go_sem,bv]⟩ ?_;rintro m st h ⟨k,rfl,hk,t,g0,g1,g6,B,N⟩;obtain⟨Y,e5⟩:∃v,v=st.get 5:=⟨_,rfl⟩
 rw[<-e5]at B N;by_cases w:k<u.length
 ·have q0:(k:Int)<u.length:=o_;have D:=kX u k w;have d:=aF w;have E:=t.get hq;have w2:=wS k o_;simp[go_sem,g0,g6,q0,Vj,aV];refine bL (aBd u q k u[k] h.length Y h0) u[k].kids.length ⟨0,.isl [] .full,rfl,aN _,t.app _,t.len,g_,g_,by simp[go_sem,<-e5],g_,g_,g_,s_,.inl (by simp[eD,bP]),OwnR.app B _,by simp[bv]⟩ ?_;generalize ep:h.length=p at *;clear t E;rintro m2 y' h2 ⟨j,v,rfl,hj,t,O,F,I,r5,Q,S,Z,mp,U,B,q1⟩;have E:=t.get hq;have y0:=Ki u[k].kids;by_cases J:j<u[k].kids.length
  ·have q2:(j:Int)<u[k].kids.length:=o_;have q3:=kX u[k].kids j J;have l:u[k].kids[j]∈u:=q' _ d _ (aF J);have cp:=uZ u[k].kids[j] (f.2 _ l).2 (f.2 _ l).1;have lk:=lkI f E l;have w3:IntKind.i64.wrap ((j:Int)+1)=((j+1:Nat):Int):=by rw[av (by have:=size_kids u[k];have:=len_sizes u[k].kids;have:=(f.2 _ d).2;omega)];omega
   have⟨y,s,K,c,z,n⟩:=A6 (ys:=[(ixU u u[k].kids[j]:Int)]) (x:=.full) U (by have:=size_kids u[k];have:=len_sizes u[k].kids;have:=(f.2 _ d).2;simp only[eD,aU,ag,aG,aQ];omega);have z2:eD u (u[k].kids.take j)++[(ixU u u[k].kids[j]:Int)]=eD u (u[k].kids.take (j+1)):=by rw[aJ J];simp only[eD,br,aS,bD]
   rw[z2]at c;change bu C.P false h2 53 v (.isl [.int .i64 (ixU u u[k].kids[j])] .full)=some (y,s)at K;have z3:bv v≠some p:=cM U mp;have L:=z.get mp z3;have y1:∀i,bv v=some i->i<h2.length:=λi o=>U.lt o
   have q4:∀i,bv Y=some i->bv v≠some i:=wD d_ B U;have q5:=B.keep z q4;have y2:=(aB.1 hq).1;have q6:p<s.length:=(aB.1 L).1;have q7:∀i,bv y=some i->h0.length<=i:=λi o=>by
    rcases n with e|⟨_,e⟩
    ·exact q1 i (e▸o)
    rw[e]at o;simp only[aA]at o;have:=t.len;omega
   have q8:bv y≠some p:=cM c L;have z4:=t.keep z q1;have q9:∀i,bv Y=some i->some p≠some i:=λi o e=>by simp only[aA]at e;subst e;exact cM q5 L o
   obtain⟨x',rfl⟩:=c.isl;have⟨xv,z5⟩:=U.isl;simp[go_sem,F,Q,Z,D,q2];refine gS 9 _ (by simp[gM]) rfl ?_;simp[go_sem,F,I,Q,S,Z,D,q3,G mp,cp,lk,xq,K,G L,-Int.natCast_add,w3];refine⟨?_,u[k].kids.length-(j+1),o_,j+1,_,rfl,J,z4.set O _,O,by simp[go_sem,F],by simp[go_sem,I],by simp[go_sem,r5],by simp[go_sem,Q],by simp[go_sem,S],g_,by rw[pt];exact aH q6,c.keep (Keep.set _ _ _) (λi o e=>q8 (by rw[o,<-e])),q5.keep (Keep.set _ _ _) q9,q7⟩;simp[go_sem,ij,iK,iO,kW,fL,ce,z5]
  have:j=u[k].kids.length:=o_;subst this;rw[ah]at U;obtain⟨xv,rfl⟩:=U.isl;have ck:=R0 u[k] (f.2 _ d).2;have z6:=(aB.1 mp).1;have z':=z1 _ d;simp[go_sem,F,Q,Z,D];simp[go_sem,ck,iC,lE,aV];have z7:∀i,bv Y=some i->some p≠some i:=λi o e=>by simp only[aA]at e;subst e;exact cM B mp o
  have z0:(u.take k).length+1<=100000000000:=by rw[ag];omega
  have M:∀(h3:H) (kx:Int),OwnR 189 h3 Y ((u.take k).map (kD u))->Pre h0 h3->kx=tP u u[k]->∃y s,bu C.P false h3 185 Y (.isl [.agg [.isl (bP (eD u u[k].kids)) .unk,.int .i64 kx]] .full)=some (y,s)/\OwnR 189 s y ((u.take (k+1)).map (kD u))/\Pre h0 s/\∀i,bv y=some i->h0.length<=i:=λh3 kx o3 p3 z8=>by
   have⟨y,s,K,c,z,n⟩:=L3 (ys:=[u[k]]) (x:=.full) o3 (by simpa using z0);rw[<-aJ w]at c;have e:kD u u[k]=.agg [.isl (bP (eD u u[k].kids)) .unk,.int .i64 kx]:=by rw[kD,yS,z8]
   rw[aS,bD,e]at K;exact⟨y,s,K,c,p3.keep z N,λi o=>by
    rcases n with e|⟨_,e⟩
    ·exact N i (e▸o)
    rw[e]at o;simp only[aA]at o;have:=p3.len;omega⟩
  generalize y3:bP (eD u u[k].kids)=ki at *;cases A:rf u[k]with
  |some kk=>
   have e:rg u[k]=(kk,0):=by unfold rg;rw[if_neg (by simp[z']),A]
   have l:=Ni ho d A;have cp:=uZ kk (f.2 _ l).2 (f.2 _ l).1;have lk:=lkI (h:=h2++[.cells (enc kk).cells .live]) f (ga E) l;have⟨y,s,K,c,X,n⟩:=M (pt h2 p (.cells [.isl ki xv,.int .i64 (ixU u kk)] .live)++[.cells (enc kk).cells .live]) (ixU u kk) (OwnR.app (B.keep (Keep.set _ _ _) z7) _) ((t.set O _).app _) (by rw[tP,A]);simp[go_sem,I,r5,Q,S,e,cp,lk,G (ga mp),z6,zK,Aw,K,-Int.natCast_add,w2];exact⟨u.length-(k+1),o_,k+1,rfl,w,X,by simp[go_sem,F],by simp[go_sem,I],g_,by simpa[go_sem]using c,by simpa[go_sem]using n⟩
  |none=>
   have e:(rg u[k]).2≠0:=by unfold rg;rw[if_neg (by simp[z']),A];dsimp only;split<;>decide
   have⟨y,s,K,c,X,n⟩:=M (h2++[.cells (enc (rg u[k]).1).cells .live]) (-1) (OwnR.app B _) (t.app _) (by rw[tP,A]);simp[go_sem,r5,Q,S,e,G (ga mp),Aw,K,-Int.natCast_add,w2];exact⟨u.length-(k+1),o_,k+1,rfl,w,X,by simp[go_sem,F],by simp[go_sem,I],g_,by simpa[go_sem]using c,by simpa[go_sem]using n⟩
 have:k=u.length:=o_;subst this;rw[ah]at B;have⟨x,hx⟩:=B.isl;simp[go_sem,g0,g6,<-e5,hx];obtain⟨g,rfl⟩:=t;exact hR _ _ _ (.inr rfl) ⟨.isl (u.map (kD u)) x,by simp[aY,cC,f171,go_sem],g,rfl,aK rfl rfl⟩
end Go.VZ
namespace Go.V
open Go
theorem tn{C:Cfg}{f:FuncId}{h:H}{args args':LA}{v:AV}{R:List Nat}(hb:eE C.P f=true) (hm:C.mode f=.strip) (e2:cY h dD args=R) (e1:gE (Go.V.freeze h R) dD args=some args') (hc:az C f args'=some v) (hs:Gg v=true):ak C h (.func f []) (some args)=some (v,h):=by
 simp only[ak,hb,if_true,bm];unfold dM;rw[hm];dsimp only;rw[e2,e1];unfold az at hc;dsimp only;split at hc<;>try(cases hc;done)
 rename_i r b a;rw[a];dsimp only;unfold ky lg;dsimp only;rw[hc];dsimp only;rw[if_pos hs]
theorem Ga{h:H}{id len:Nat}{cap:Option Nat}{cs:LA}(hid:h[id]?=some (.cells cs .live)) (hl:len<=cs.length) (hsc:qD cs=some cs) (hc:cs.length<900000)
  {a b a' b':AV}(hd:jd [a,b]=some [a',b']) (hs:[a,b].all short=true) :
  cY h dD [a,b,.msl id 0 1 len cap]=[id]/\gE (freeze h [id]) dD [a,b,.msl id 0 1 len cap]=some [a',b',.isl (io 1 len cs) .unk]:=by
 obtain⟨m,f⟩:∃m,dD=m+5:=⟨999995,rfl⟩
 have i:m=999995:=by unfold dD at f;omega
 have j:(freeze h [id])[id]?=some (.cells cs .frozen):=by rw[mI,hid];simp
 have⟨n,k⟩:=jq (h:=h) hsc m o_;have⟨l,o⟩:=jq (h:=freeze h [id]) hsc m o_;have⟨p,d⟩:=eo (h:=h) hd hs (m+5) (by simp;omega);have⟨c,q⟩:=eo (h:=freeze h [id]) hd hs (m+5) (by simp;omega);rw[f];constructor
 ·simp only[cY,List.append_eq_nil_iff]at d;simp only[cY];rw[d.1,d.2.1];simp only[iW,hid,k];rfl
 simp only[gE]at c ⊢;cases e:fc (freeze h [id]) (m+4) a with
 |none=>rw[e]at c;cases c
 |some x=>
  cases g:fc (freeze h [id]) (m+3) b with
  |none=>rw[e,g]at c;cases c
  |some y=>rw[e,g]at c;simp only[aA,bw,and_true]at c;obtain⟨rfl,rfl⟩:=c;simp only[fc,j,l,dO];rw[if_pos o_]
end Go.V
namespace Go.VZ
open Go Go.V Go.Proofs Tryz TL
def dP(kn:List Bool):LA:=kn.map AV.bool
theorem th:∀kn:List Bool,io 1 kn.length (dP kn)=dP kn
 |[]=>rfl
 |b::kn=>by have:=th kn;simp only[dP]at this;simp only[dP,aS,aG,io,dl,dO,this]
theorem qC:∀kn:List Bool,qD (dP kn)=some (dP kn)
 |[]=>rfl
 |b::kn=>by have:=qC kn;simp only[dP]at this;simp only[dP,aS,qD,Hd,this]
theorem Jn:C.P.underlying 115=some (.slice 4):=underlying115
theorem Nu(kn:List Bool) (x:Ext) (k:Nat) (hk:k<kn.length):bH C.P 115 (.isl (dP kn) x) (.int .i64 k)=some (.iptr (.bool kn[k]) 0):=by have:(AV.bool kn[k]).cells.length=1:=rfl;simp[bH,Jn,s4,dP,hk,this]
@[go_sem] theorem aCP (b:Bool) (h:H):aW C.P h 4 (.iptr (.bool b) 0)=some (.bool b):=by have:(AV.bool b).cells=[.bool b]:=rfl;simp[aW,aZ,a4,s4,this]
theorem PD(u:Lq) (t:T) (h:H):nR C.P h 189 (kD u t)=some (.ptr h.length 0,h++[.cells [.isl (bP (eD u t.kids)) .unk,.int .i64 (tP u t)] .live]):=by rw[yS];simp only[nR,Gi,yU];exact if_pos ⟨rfl,rfl⟩
theorem Ek(l:List Int) (x:Ext):fB C.P 53 (.isl (bP l) x)=some (.int .i64 l.length):=by simp[fB,u53,bP]
theorem Ey(l:List Int) (x:Ext) (k:Nat) (hk:k<l.length):bH C.P 53 (.isl (bP l) x) (.int .i64 k)=some (.iptr (.int .i64 l[k]) 0):=by have:(AV.int .i64 l[k]).cells.length=1:=rfl;simp[bH,u53,s3,bP,hk,this]
@[go_sem] theorem Qq (n:Int) (h:H):aW C.P h 3 (.iptr (.int .i64 n) 0)=some (.int .i64 n):=by have:(AV.int .i64 n).cells=[.int .i64 n]:=rfl;simp[aW,aZ,a3,s3,this]
def S6(u:Lq) (kn:List Bool) (t:T) (m:Nat) (st:PT) (h:H):Prop:=∃k:Nat,m=t.kids.length-k/\k<=t.kids.length/\h=[.cells (enc t).cells .live,.cells [.isl (bP (eD u t.kids)) .unk,.int .i64 (tP u t)] .live]/\st.get 2=.isl (dP kn) .unk/\st.get 3=.ptr 0 0/\st.get 4=.ptr 1 0/\st.get 7=.int .i64 k/\(t.kids.drop k).all (knT u kn)=t.kids.all (knT u kn)
theorem PA(u:Lq) (kn:List Bool) (t:T) (hl:kn.length=u.length) (hk:∀k∈t.kids,k∈u) (hs:t.size<4000000):az C 173 [enc t,kD u t,.isl (dP kn) .unk]=some (.bool (pR u kn t)):=by
 refine ay func173 rfl λR O=>?_
 have fin:∀(l:PT) (h:H) (b:Bool),l.get 6=.bool b->pR u kn t=b->R .ret l h:=λl h b Q S=>O ⟨.bool b,by simp[aY,cC,f173,Q],by rw[S];exact aK rfl rfl⟩
 have z:=PD u t;have U:=size_kids t;have V:=len_sizes t.kids;by_cases o:t.name=⟨#[112,97,105,114]⟩\/t.name=⟨#[101,110,99]⟩\/t.name=⟨#[97,101,110,99]⟩\/t.name=⟨#[112,107]⟩\/t.name=⟨#[115,105,103,110]⟩\/t.name=⟨#[104,97,115,104]⟩
 ·have X:bld t=decide (t.kind=3):=by
   unfold TL.bld;have:(decide (t.name=qo)||decide (t.name=vQ)||decide (t.name=pH)||decide (t.name=nPk)||decide (t.name=pG)||decide (t.name=Ec))=true:=by
    simp only[bo,decide_eq_true_eq];rcases o with h|h|h|h|h|h
    ·exact .inl (.inl (.inl (.inl (.inl h))))
    ·exact .inl (.inl (.inl (.inl (.inr h))))
    ·exact .inl (.inl (.inl (.inr h)))
    ·exact .inl (.inl (.inr h))
    ·exact .inl (.inr h)
    exact .inr h
   rw[this];simp
  have i:pR u kn t=(decide (t.kind=3)&&t.kids.all (knT u kn)):=by rw[pR,X]
  rcases o with h|h|h|h|h|h;all_goals
   have A:=congrArg (λn:ByteArray=>decide (n=⟨#[112,97,105,114]⟩)) h;have B:=congrArg (λn:ByteArray=>decide (n=⟨#[101,110,99]⟩)) h;have D:=congrArg (λn:ByteArray=>decide (n=⟨#[97,101,110,99]⟩)) h;have E:=congrArg (λn:ByteArray=>decide (n=⟨#[112,107]⟩)) h;have F:=congrArg (λn:ByteArray=>decide (n=⟨#[115,105,103,110]⟩)) h;have G:=congrArg (λn:ByteArray=>decide (n=⟨#[104,97,115,104]⟩)) h;clear h;simp[go_sem,z,eM,A,B,D,E,F,G];clear A B D E F G;refine bL (S6 u kn t) t.kids.length ⟨0,rfl,aN _,by rw[au],g_,g_,g_,g_,rfl⟩ ?_;rintro m l h ⟨k,rfl,Y,rfl,q,r,s,v,e⟩;have c:=Ek (eD u t.kids) .unk;have w:(eD u t.kids).length=t.kids.length:=by simp[eD]
   rw[w]at c;by_cases f:k<t.kids.length
   ·have d:(k:Int)<t.kids.length:=o_;have g:=Ey (eD u t.kids) .unk k o_;have j:=hk _ (aF f);have x:(eD u t.kids)[k]' o_=(ixU u t.kids[k]:Int):=by simp[eD]
    rw[x]at g;have Z:=tQ j;have a:=Nu kn .unk (ixU u t.kids[k]) o_;have y:kn[ixU u t.kids[k]]' o_=knT u kn t.kids[k]:=by have:=DF hl j;rw[aC o_]at this;exact Option.some.inj this
    rw[y]at a;have w2:=wS k o_;rw[aI f,dt]at e;cases p:knT u kn t.kids[k]with
    |true=>rw[p,ee]at e;simp[go_sem,q,s,v,c,d,g,a,p,-Int.natCast_add,w2];exact⟨t.kids.length-(k+1),o_,k+1,rfl,f,rfl,g_,g_,g_,g_,e⟩
    |false=>rw[p,iQ]at e;simp[go_sem,q,s,v,c,d,g,a,p];exact fin _ _ false g_ (by rw[i,<-e];simp)
   have:k=t.kids.length:=o_;subst this;rw[ae]at e;simp[go_sem,r,s,v,c];exact fin _ _ (decide (t.kind=3)) g_ (by rw[i,<-e];simp)
 simp only[not_or]at o;have⟨I,J,K,L,M,N⟩:=o;simp[go_sem,z,eM,I,J,K,L,M,N];refine fin _ _ false g_ ?_;rw[pR,TL.bld];have:(decide (t.name=qo)||decide (t.name=vQ)||decide (t.name=pH)||decide (t.name=nPk)||decide (t.name=pG)||decide (t.name=Ec))=false:=by simp only[gb,decide_eq_false_iff_not];exact⟨⟨⟨⟨⟨I,J⟩,K⟩,L⟩,M⟩,N⟩
 rw[this];simp
theorem Lm{h:H}{kid:Nat}{cap:Option Nat}(u:Lq) (kn:List Bool) (t:T) (hid:h[kid]?=some (.cells (dP kn) .live)) (hl:kn.length=u.length) (hu:u.length<900000) (hk:∀k∈t.kids,k∈u) (hs:t.size<4000000) :
  ak C h (.func 173 []) (some [enc t,kD u t,.msl kid 0 1 u.length cap])=some (.bool (pR u kn t),h):=by
 have d:(dP kn).length=u.length:=by rw[dP,aU,hl]
 have⟨e,c⟩:=Ga (h:=h) (len:=u.length) (cap:=cap) hid o_ (qC kn) o_ (a:=enc t) (b:=kD u t) (a':=enc t) (b':=kD u t) (by rw[bE];rfl) (by rw[bE];rfl);have f:io 1 u.length (dP kn)=dP kn:=by rw[<-hl];exact th kn
 rw[f]at c;exact tn k_ rfl e c (PA u kn t hl hk hs) rfl
end Go.VZ
