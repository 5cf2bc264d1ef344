/- A part of the proof. -/
import Derived.Test.YtbcnnpkfkopoeaaGreatDoorSf
set_option maxHeartbeats 16000000
set_option maxRecDepth 8000
namespace Go.VZ
open Go Go.V Go.Proofs Tryz TL
def LX(a b:T):Ch:=if(a.sort=b.sort/\a.cmp b<0)\/(a.sort≠b.sort/\b.sort=0)then .ok b a else if a.sort≠b.sort/\a.sort≠0 then .bad 11 else .ok a b
theorem G3{h:H}{i:Nat}{t:T}(hi:h[i]?=some (.cells (enc t).cells .live)):aJ C.P h 3 (.ptr i 2)=some (.int .i64 t.sort):=by rw[aq]at hi;simp[aJ,hi,aY,a3,s3]
theorem CU{h:H}{i:Nat}{t:T}(u:T) (hi:h[i]?=some (.cells (enc t).cells .live)):ah C.P h 41 (.ptr i 0) (enc u)=some (h.set i (.cells (enc u).cells .live)):=by have:=VB (A:=[]) (B:=[]) u (show h[i]?=some (.cells ([]++(enc t).cells++[]) .live) by simpa using hi);simpa using this
theorem SF(a b:T) (h0:H) (s:Nat) (ha:a.size<4000000) (hb:b.size<4000000) (Q:AV->H->Prop)
  (hq:∀x y:T,LX a b=.ok x y->∀g,∃e h',Go.V.Call C 211 [.ptr s 0,enc x,enc y] (h0++g)=some (.int .i64 e,h')/\Q (.int .i64 e) h') (hc:LX a b=.bad 11->∀g,Q (.int .i64 11) (h0++g)):∃r h',Go.V.Call C 209 [.ptr s 0,enc a,enc b] h0=some (r,h')/\Q r h':=by
 refine kA rfl func209 rfl k_ (by simp[f209]) λR m=>?_
 have d:∀p q:T,aJ C.P (h0++[.cells (enc p).cells .live,.cells (enc q).cells .live]) 3 (.ptr h0.length 2)=some (.int .i64 p.sort):=λp q=>G3 s_
 have f:∀p q:T,aJ C.P (h0++[.cells (enc p).cells .live,.cells (enc q).cells .live]) 3 (.ptr (h0.length+1) 2)=some (.int .i64 q.sort):=λp q=>G3 s_
 have n:∀p q:T,aJ C.P (h0++[.cells (enc p).cells .live,.cells (enc q).cells .live]) 41 (.ptr h0.length 0)=some (enc p):=λp q=>eY s_
 have o:∀p q:T,aJ C.P (h0++[.cells (enc p).cells .live,.cells (enc q).cells .live]) 41 (.ptr (h0.length+1) 0)=some (enc q):=λp q=>eY s_
 have z:∀p q u:T,ah C.P (h0++[.cells (enc p).cells .live,.cells (enc q).cells .live]) 41 (.ptr h0.length 0) (enc u)=some (h0++[.cells (enc u).cells .live,.cells (enc q).cells .live]):=λp q u=>by rw[CU u (t:=p) s_];simp
 have A:∀p q u:T,ah C.P (h0++[.cells (enc p).cells .live,.cells (enc q).cells .live]) 41 (.ptr (h0.length+1) 0) (enc u)=some (h0++[.cells (enc p).cells .live,.cells (enc u).cells .live]):=λp q u=>by rw[CU u (t:=q) s_];simp
 have B:=uj a b ha hb;have v:∀(x y:T) (h:H),aj C h (.func 211 []) (some [.ptr s 0,enc x,enc y])=Go.V.Call C 211 [.ptr s 0,enc x,enc y] h:=λx y h=>eT k_ rfl
 unfold LX at hq hc;by_cases i:a.sort=b.sort
 ·by_cases c:a.cmp b<0
  ·have⟨e,h',k,j⟩:=hq b a (by rw[if_pos (.inl ⟨i,c⟩)]) [.cells (enc b).cells .live,.cells (enc a).cells .live];simp[go_sem,dP,nJ,d,f,n,o,z,A,B,v,i,c,k];exact m _ _ _ (.inr rfl) ⟨.int .i64 e,by simp[ag,cO,f209,go_sem],j⟩
  have⟨e,h',k,j⟩:=hq a b (by rw[if_neg (by simp[i,c]),if_neg (by simp[i])]) [.cells (enc a).cells .live,.cells (enc b).cells .live];simp[go_sem,dP,nJ,d,f,n,o,B,v,i,c,k];exact m _ _ _ (.inr rfl) ⟨.int .i64 e,by simp[ag,cO,f209,go_sem],j⟩
 by_cases c:b.sort=0
 ·have⟨e,h',k,j⟩:=hq b a (by rw[if_pos (.inr ⟨i,c⟩)]) [.cells (enc b).cells .live,.cells (enc a).cells .live];have l:¬a.sort=0:=λe=>i (by rw[e,c])
  simp[go_sem,dP,nJ,d,f,n,o,z,A,v,l,c,k];exact m _ _ _ (.inr rfl) ⟨.int .i64 e,by simp[ag,cO,f209,go_sem],j⟩
 by_cases w:a.sort=0
 ·have⟨e,h',k,j⟩:=hq a b (by rw[if_neg (by simp[i,c]),if_neg (by simp[w])]) [.cells (enc a).cells .live,.cells (enc b).cells .live];have l:¬(0:Int)=b.sort:=λe=>c e.symm
  simp[go_sem,dP,nJ,d,f,n,o,v,l,c,w,k];exact m _ _ _ (.inr rfl) ⟨.int .i64 e,by simp[ag,cO,f209,go_sem],j⟩
 have j:=hc (by rw[if_neg (by simp[i,c]),if_pos ⟨i,w⟩]) [.cells (enc a).cells .live,.cells (enc b).cells .live];simp[go_sem,dP,nJ,d,f,i,c,w];exact m _ _ _ (.inr rfl) ⟨.int .i64 11,by simp[ag,cO,f209,go_sem],j⟩
def RowQ(h:H) (v:AV) (ps:Lb):Prop:=(∃x,v=.isl (ps.map bT) x/\∀t,x≠.tok t)\/∃id pre,v=.msl id (8*pre.length) 8 ps.length none/\h[id]?=some (.cells (bw (pre++ps)) .live)/\(pre++ps).length<=122000
theorem RowQ.rowP{h:H}{v:AV}{ps:Lb}(r:RowQ h v ps):Ht h v ps:=by
 rcases r with e|⟨id,a,e,b,_⟩
 ·exact .inl e
 exact .inr ⟨id,a,none,e,b⟩
theorem RowQ.bnd{h:H}{v:AV}{ps:Lb}(r:RowQ h v ps):∀id pre c,v=.msl id (8*pre.length) 8 ps.length c->h[id]?=some (.cells (bw (pre++ps)) .live)->(pre++ps).length<=122000:=by
 intro id pre c e b;rcases r with⟨x,d,_⟩|⟨g,f,d,a,i⟩
 ·rw[d]at e;cases e
 rw[d]at e;simp only[AV.msl.injEq]at e;obtain⟨rfl,j,_⟩:=e;rw[b]at a;simp only[aA,VObj.cells.injEq]at a;have:=congrArg List.length a.1;rw[dv,dv]at this;omega
theorem RowQ.of{h:H}{v:AV}{ps:Lb}(r:RowS h v ps) (hl:ps.length<=122000):RowQ h v ps:=by
 rcases r with⟨rfl,rfl⟩|⟨id,rfl,a⟩
 ·exact .inl ⟨.full,rfl,λt e=>by cases e⟩
 exact .inr ⟨id,[],s_,by simpa using a,by simpa using hl⟩
theorem RowQ.keep{h h':H}{v:AV}{ps:Lb}(r:RowQ h v ps) (k:∀i,cG v=some i->h'[i]?=h[i]?):RowQ h' v ps:=by
 rcases r with e|⟨id,a,rfl,b,c⟩
 ·exact .inl e
 exact .inr ⟨id,a,rfl,by rw[k id rfl];exact b,c⟩
theorem RowS.keep{h h':H}{v:AV}{ps:Lb}(r:RowS h v ps) (k:∀i,cG v=some i->h'[i]?=h[i]?):RowS h' v ps:=by
 rcases r with e|⟨id,rfl,a⟩
 ·exact .inl e
 exact .inr ⟨id,rfl,by rw[k id rfl];exact a⟩
theorem RowQ.lt{h:H}{v:AV}{ps:Lb}(r:RowQ h v ps){i:Nat}(hi:cG v=some i):i<h.length:=by
 rcases r with⟨x,rfl,b⟩|⟨id,c,rfl,a,d⟩
 ·cases x with
  |tok t=>exact absurd rfl (b t)
  |_=>cases hi
 simp only[cG,aA]at hi;subst hi;exact(aB.1 a).1
theorem RowQ.ne{h:H}{v:AV}{ps:Lb}(r:RowQ h v ps){s:Nat}{x y:AV}(hs:h[s]?=some (.cells [x,y] .live)):∀i,cG v=some i->i≠s:=by
 intro i b e;subst e;rcases r with⟨x,rfl,c⟩|⟨id,d,rfl,a,f⟩
 ·cases x with
  |tok t=>exact absurd rfl (c t)
  |_=>cases b
 simp only[cG,aA]at b;subst b;rw[hs]at a;simp only[aA,VObj.cells.injEq]at a;have:=congrArg List.length a.1;rw[dv]at this;simp at this;omega
theorem RowS.lt{h:H}{v:AV}{ps:Lb}(r:RowS h v ps){i:Nat}(hi:cG v=some i):i<h.length:=by
 rcases r with⟨_,rfl⟩|⟨id,rfl,a⟩
 ·cases hi
 simp only[cG,aA]at hi;subst hi;exact(aB.1 a).1
theorem RowS.ne{h:H}{v:AV}{ps:Lb}(r:RowS h v ps){s:Nat}{x y:AV}(hs:h[s]?=some (.cells [x,y] .live)):∀i,cG v=some i->i≠s:=by
 intro i b e;subst e;rcases r with⟨_,rfl⟩|⟨id,rfl,a⟩
 ·cases b
 simp only[cG,aA]at b;subst b;rw[hs]at a;simp only[aA,VObj.cells.injEq]at a;have:=congrArg List.length a.1;rw[dv]at this;simp at this;omega
def Took(h:H) (s:Nat) (ps bs:Lb):Prop:=∃vp vb,h[s]?=some (.cells [vp,vb] .live)/\RowQ h vp ps/\RowS h vb bs/\∀i,cG vp=some i->cG vb≠some i
theorem Took.app{h:H}{s:Nat}{ps bs:Lb}(t:Took h s ps bs) (g:H):Took (h++g) s ps bs:=by
 have⟨d,e,f,b,c,j⟩:=t;refine⟨d,e,ga f,b.keep λi a=>?_,c.keep λi a=>?_,j⟩
 ·rw[aH (b.lt a)]
 rw[aH (c.lt a)]
theorem J1{x y:T}(hy:y.size<=400):∀t:T,(gl x y t).size<=400*t.size:=by
 refine T.ind λt f=>?_
 rw[Ck];have i:=size_pos t;split
 ·split
  ·omega
  omega
 have b:∀l:Lq,(∀k∈l,(gl x y k).size<=400*k.size)->sizes (l.map (gl x y))<=400*sizes l:=by
  intro l;induction l with
  |nil=>intro _;simp[sizes]
  |cons a l c=>
   intro h;have e:=h a bv;have d:=c λk g=>h k (bP _ g)
   rw[aM,sizes,sizes];omega
 have e:=b t.kids f;have d:∀k n s l,(T.mk k n s l).size=sizes l+1:=λk n s l=>by rw[T.size]
 have j:=size_kids t;rw[d];cases t with
 |mk k n s l=>simp only[T.kids]at e ⊢;rw[d];omega
theorem IG{x y:T}{ps:Lb}(hx:x.kind=1) (hk:x.kids=[]) (hv:∀p∈ps,bA p.1=0/\bA p.2=0):kf x y ps=mw x y ps/\ru x y ps=okP x y ps/\lO x y ps=ke x y ps/\wW x y ps=okS x y ps:=by
 have b:∀p∈ps,gl x y p.1=iL x y p.1/\gl x y p.2=iL x y p.2:=λp a=>⟨Bl hx hk _ (eD (hv p a).1),Bl hx hk _ (eD (hv p a).2)⟩
 refine⟨bf λp a=>by rw[(b p a).1,(b p a).2],?_,bf λp a=>by rw[(b p a).2],?_⟩
 ·unfold ru okP;rw[fc,av,av];exact forall₂_congr λp a=>by rw[(b p a).1,(b p a).2]
 unfold wW okS;rw[fc,av,av];exact forall₂_congr λp a=>by rw[(b p a).2]
theorem Ry(x y:T) (ps bs:Lb) (h:H) (s:Nat) (t:Took h s ps bs) (hx:x.kind=1) (vx:bA x=0) (vy:bA y=0) (hv:∀p∈ps,bA p.1=0/\bA p.2=0) (hb:∀p∈bs,bA p.1=0/\bA p.2=0) (hpl:ps.length<=122000) (hbl:bs.length<=4000) :
  ∃e h',Go.V.Call C 211 [.ptr s 0,enc x,enc y] h=some (.int .i64 e,h')/\(if okU x y ps bs=true then e=0/\Took h' s (mw x y ps) (ke x y bs++[(x,y)])else e=3):=by
 have⟨w,z,A,l,B,D⟩:=t;have d:∀u:T,bA u=0->u.size<=400:=λu m=>(bg m).2.1
 have n:x.kids=[]:=eD vx x (dD x) hx;have⟨r,h',E,o,f,g,i,a,c,j,_⟩:=RC x y h s w z ps bs A l.rowP B D hpl hbl l.bnd (λp v=>⟨d _ (hv p v).1,d _ (hv p v).2⟩) (λb k=>d _ (hb b k).2) (λu m=>by have:=J1 (x:=x) (d y vy) u;omega);have⟨F,G,_,_⟩:=IG (y:=y) hx n hv;have⟨_,_,I,J⟩:=IG (y:=y) hx n hb;rw[F]at a;rw[I]at c;rw[G,J]at o;subst o;refine⟨_,h',E,?_⟩;unfold okU;by_cases q:(okP x y ps&&okS x y bs)=true
 ·rw[if_pos q,if_pos q];exact⟨rfl,f,g,i,RowQ.of a (by simp[mw];omega),c,j⟩
 rw[if_neg q,if_neg q]
theorem N9(a b:T):fV C.P 184 [(0,enc a),(1,enc b)]=some (bT (a,b)):=by
 rw[bV a,bV b];have e:∀(k s c d:Int) (n f:ByteArray) (l g:LA),fV C.P 184 [(0,.agg [.int .i64 k,.str n,.int .i64 s,.isl l .unk]),(1,.agg [.int .i64 c,.str f,.int .i64 d,.isl g .unk])]=some (.agg [.int .i64 k,.str n,.int .i64 s,.isl l .unk,.int .i64 c,.str f,.int .i64 d,.isl g .unk]):=λk s c d n f l g=>k_
 exact e _ _ _ _ _ _ _ _
theorem Ax(h:H) (b:T × T):cQ C.P h 182 1 [(0,bT b)]=some (.isl [bT b] .full,h):=cY rV wN Dt rfl o_ rfl rfl rfl s_ rfl
theorem NC(e:AV):bp C.P 184 (.iptr e 0) 0=some (.iptr e 0):=k_
theorem NB(e:AV):bp C.P 184 (.iptr e 0) 1=some (.iptr e 4):=k_
theorem RowQ.len{h:H}{v:AV}{ps:Lb}(r:RowQ h v ps):fG C.P 182 v=some (.int .i64 ps.length):=by
 rcases r with⟨x,rfl,_⟩|⟨id,a,rfl,_⟩
 ·simp[fG,rV]
 simp[fG,rV]
theorem RowQ.nt{h:H}{v:AV}{ps:Lb}(r:RowQ h v ps):au v=true:=by rcases r with⟨x,rfl,_⟩|⟨id,a,rfl,_⟩<;>rfl
theorem RowS.nt{h:H}{v:AV}{ps:Lb}(r:RowS h v ps):au v=true:=by rcases r with⟨_,rfl⟩|⟨id,rfl,_⟩<;>rfl
theorem RowQ.head{h:H}{v:AV}{p:T × T}{ps:Lb}(r:RowQ h v (p::ps)):∃A A4,aZ C.P 182 v (.int .i64 0)=some A/\bp C.P 184 A 0=some A/\bp C.P 184 A 1=some A4 /\
  (∀h':H,(∀i,cG v=some i->h'[i]?=h[i]?)->aJ C.P h' 41 A=some (enc p.1)/\aJ C.P h' 41 A4=some (enc p.2))/\it A=(cG v).toList/\it A4=(cG v).toList/\∀n k,(∀i,cG v=some i->i≠n)->A.mv n k=A/\A4.mv n k=A4/\v.mv n k=v:=by
 rcases r with⟨x,rfl,c⟩|⟨id,a,rfl,b,m⟩
 ·refine⟨.iptr (bT p) 0,.iptr (bT p) 4,?_,NC _,NB _,λh' _=>⟨ki p h',nC p h'⟩,?_,?_,λn k _=>⟨rfl,rfl,tR λt e=>absurd e (c t)⟩⟩
  ·have:=xy (p::ps) 0 s_ x;simp[aZ,rV,wN,bT,am]
  ·cases x with
   |tok t=>exact absurd rfl (c t)
   |_=>rfl
  cases x with
  |tok t=>exact absurd rfl (c t)
  |_=>rfl
 have d:bw (a++p::ps)=bw a++(enc p.1).cells++((enc p.2).cells++bw ps):=by rw[gB,iR];simp only[List.append_assoc]
 have j:bw (a++p::ps)=(bw a++(enc p.1).cells)++(enc p.2).cells++bw ps:=by rw[d];simp only[List.append_assoc]
 have f:=dv a;refine⟨.ptr id (8*a.length),.ptr id (8*a.length+4),?_,Ir _ _,Iq _ _,λh' g=>⟨?_,?_⟩,rfl,rfl,λn k l=>?_⟩
 ·simp[aZ,rV,wN]
 ·have:=Pk (h:=h') (i:=id) (A:=bw a) (t:=p.1) (B:=(enc p.2).cells++bw ps) (by rw[g id rfl,b,d]);rwa[f]at this
 ·have:=Pk (h:=h') (i:=id) (A:=bw a++(enc p.1).cells) (t:=p.2) (B:=bw ps) (by rw[g id rfl,b,j]);rwa[List.length_append,f,HL]at this
 have:=l id rfl;exact⟨by simp[AV.mv,this],by simp[AV.mv,this],by simp[AV.mv,this]⟩
theorem RowQ.tail{h:H}{v:AV}{p:T × T}{ps:Lb}(r:RowQ h v (p::ps)):∃v',fF C.P 182 v (some (.int .i64 1)) none none=some v'/\RowQ h v' ps/\∀i,cG v'=some i->cG v=some i:=by
 rcases r with⟨x,rfl,m⟩|⟨id,b,rfl,c,j⟩
 ·have f:=mL (p::ps);simp only[aM]at f;have d:(1:Int)<=(ps.length:Int)+1:=o_;have k:List.take ps.length (List.map bT ps)=List.map bT ps:=bJ s_;refine⟨.isl (ps.map bT) (if x=.full then .full else .unk),?_,.inl ⟨_,rfl,λt=>by split<;>simp⟩,λi a=>?_⟩
  ·simp[fF,rV,wN,mB,qC,f,d,k]
  split at a<;>cases a
 have d:(1:Int)<=(ps.length:Int)+1:=o_;by_cases g:ps=[]
 ·subst g;exact⟨.isl [] .unk,by simp[fF,rV,wN,mB,qC],.inl ⟨.unk,rfl,λt e=>by cases e⟩,λi a=>by cases a⟩
 have l:0<ps.length:=jY.2 g;refine⟨.msl id (8*b.length+8) 8 ps.length none,by simp[fF,rV,wN,mB,qC,d,l],.inr ⟨id,b++[p],by simp;omega,by simpa using c,by simpa using j⟩,λi a=>a⟩
theorem Wa{h:H}{v w:AV}{xs ys:Lb}(r:RowS h v xs) (q:RowQ h w ys) (hl:xs.length+ys.length<=122000) :
  ∃v' h',bi C.P true h 182 v w=some (v',h')/\RowS h' v' (xs++ys)/\Keep h h' (cG v)/\(∀i,cG v'=some i->h.length<=i\/(ys=[]/\v'=v)):=by
 have f:jh h 8 w=some (bw ys,ys.length):=by
  rcases q with⟨x,rfl,_⟩|⟨id,c,rfl,a,k⟩
  ·simp only[jh,mL ys,if_true,sT,ax]
  have l:=dv (c++ys);have m:=dv c;have t:=dv ys;rw[List.length_append]at l;simp only[jh,a];rw[if_pos ⟨trivial,o_⟩,gB,jC m,bJ o_]
 simp only[bi,dC,aT,if_false];rcases r with⟨rfl,rfl⟩|⟨id,rfl,a⟩
 ·by_cases d:ys.length=0
  ·have:ys=[]:=iE.1 d;subst this;refine⟨.isl [] .full,h,?_,.inl ⟨rfl,rfl⟩,.refl _ _,λi b=>by cases b⟩;simp only[ey,aT,if_false,de,rV,wN,LB,Dt,f];simp
  refine⟨.msl h.length 0 8 ys.length none,h++[.cells (bw ys) .live],?_,.inr ⟨h.length,rfl,s_⟩,.append _ _ _,λi b=>by simp only[cG,aA]at b;omega⟩;simp only[ey,aT,if_false,de,rV,wN,LB,Dt,f];have n:ys.length*113<=35184372088832:=by simp only[bB]at hl;omega
  simp[d,n,iN]
 have o:=dv xs;by_cases d:ys.length=0
 ·have:ys=[]:=iE.1 d;subst this;refine⟨.msl id 0 8 xs.length none,h,?_,.inr ⟨id,s_,by simpa using a⟩,.refl _ _,λi b=>.inr ⟨rfl,rfl⟩⟩;simp only[ey,aT,if_false,de,rV,wN,LB,Dt,f];simp
 have g:=(aB.1 a).1;refine⟨.msl h.length 0 8 (xs.length+ys.length) none,h.set id (.cells (bw xs) .dead)++[.cells (bw (xs++ys)) .live],?_,.inr ⟨h.length,s_,by rw[ap s_];simp⟩,⟨s_,λj p s=>?_⟩,λi b=>by simp only[cG,aA]at b;omega⟩
 ·simp only[ey,aT,if_false,de,rV,wN,LB,Dt,f,a];rw[if_neg s_,if_neg d,if_pos ⟨trivial,trivial,o_,o_⟩,bJ o_,gB]
 have:id≠j:=λe=>s (by rw[e];rfl)
 rw[aH (by simpa using p),aC this]
theorem P0{x t:T}(vx:bA x=0) (vt:bA t=0) (kx:x.kind=1) (kt:t.kind≠1):gm x t = !decide (x.sort≠0/\(t.kind≠2\/t.sort≠x.sort)):=by
 have d:t.kind=1\/t.kind=2\/t.kind=3:=by
  have:=eF (bg vt).1;unfold gL at this;split at this
  ·cases this
  rename_i a;simp only[kz]at a;by_cases b:t.kind=1<;>by_cases c:t.kind=2<;>by_cases a3:t.kind=3<;>simp[b,c,a3]at a ⊢
 unfold gm;simp only[vx,vt,kx,decide_true,kL];rw[fc];simp only[bz,bI,decide_eq_true_eq,cL,decide_eq_false_iff_not];omega
theorem stQ{h g:H}{s:Nat}{x y v:AV}{ps:Lb}(hs:h[s]?=some (.cells [x,y] .live)) (r:RowQ g v ps):ah C.P h 182 (.ptr s 0) v=some (h.set s (.cells [v,y] .live)):=by have z:cw C.P 182=some 1:=k_;rcases r with⟨_,rfl,_⟩|⟨_,_,rfl,_⟩<;>simp[ah,hs,z]
theorem RowQ.mv{h:H}{v:AV}{ps:Lb}(r:RowQ h v ps){n k:Nat}(hn:h.length<=n):v.mv n k=v:=by
 rcases r with⟨x,rfl,b⟩|⟨id,c,rfl,a,_⟩
 ·exact tR λt e=>absurd e (b t)
 have:¬id=n:=by have:=(aB.1 a).1;omega
 simp[AV.mv,this]
def sc(s:Nat) (a b:T) (ps bs:Lb) (r:AV) (h':H):Prop:=∃e:Int,r=.int .i64 e /\
 if a.cmp b=0 then e=0/\Took h' s ps bs
 else if fH a b=true then e=0/\Took h' s (mJ a b++ps) bs
 else match fB a b with
  |.bad e'=>e=e'
  |.ok x y=>if okU x y ps bs=true then e=0/\Took h' s (mw x y ps) (ke x y bs++[(x,y)])else e=3
def XA(a b:T) (s i3 i4 L:Nat) (v1 vb:AV) (ps bs:Lb) (m:Nat) (st:PT) (h:H):Prop:=∃(k:Nat) (v5:AV),m=a.kids.length-k/\k<=a.kids.length/\st.get 0=.ptr s 0/\st.get 3=.ptr i3 0/\st.get 4=.ptr i4 0/\st.get 5=v5/\st.get 39=.int .i64 a.kids.length/\st.get 40=.int .i64 k /\
 h[i3]?=some (.cells (enc a).cells .live)/\h[i4]?=some (.cells (enc b).cells .live)/\h[s]?=some (.cells [v1,vb] .live)/\RowQ h v1 ps/\RowS h vb bs/\RowS h v5 ((mJ a b).take k)/\(∀i,cG v5=some i->L<=i)/\L<=h.length
theorem O0(a b:T) (ps bs:Lb) (h0:H) (s:Nat) (t:Took h0 s ((a,b)::ps) bs) (hv:∀p∈(a,b)::ps,bA p.1=0/\bA p.2=0) (hb:∀p∈bs,bA p.1=0/\bA p.2=0) (hpl:ps.length<=121500) (hbl:bs.length<=4000) :
  ∃r h',Go.V.Call C 183 [.ptr s 0] h0=some (r,h')/\sc s a b ps bs r h':=by
 refine kA rfl func183 rfl k_ (by simp[f183]) λR hR=>?_
 have⟨vp,J,hs,rp,rb,hn⟩:=t;have⟨A,A4,hA,y7,y8,z3,hL,z4,y9⟩:=rp.head;have w3:=rp.len;have⟨va,N⟩:=hv _ bv;have x':∀p∈ps,bA p.1=0/\bA p.2=0:=λp hp=>hv p (bP _ hp)
 dsimp only at z3 va N;have sa:=(bg va).2.1;have sb:=(bg N).2.1;have x0:=(aB.1 hs).1;have fin:∀(st:PT) (h:H) (e:Int) (w:Ex),(w=.normal\/w=.ret)->st.get 2=.int .i64 e->sc s a b ps bs (.int .i64 e) h->R w st h:=λst h e w hw g2 hq=>hR _ _ _ hw ⟨.int .i64 e,by simp[ag,cO,f183,g2],hq⟩
 simp[go_sem];change W C 183 R _ _ _ h0;refine ic 1 _ (λq4 h'=>q4.get 0=.ptr s 0/\q4.get 3=.ptr (h0.length+14) 0/\q4.get 4=.ptr (h0.length+15) 0/\h'[h0.length+14]?=some (.cells (enc a).cells .live)/\h'[h0.length+15]?=some (.cells (enc b).cells .live)/\∀j,j<h0.length->h'[j]?=h0[j]?) (by rw[gM];decide) k_ ?_ ?_
 ·generalize x1:h0++List.replicate _ VObj.void=H0;have o:Pl h0 H0 18:=x1▸Pl.mk' h0 18;have j5:=o.len;clear x1;have w4:H0[s]?=some (.cells [vp,J] .live):=o.get hs;have l0:=Mg w4;have O:=λk=>y9 H0.length k λi c=>by have:=rp.lt c;omega
  have⟨lA,w5⟩:=z3 H0 λi c=>o.old i (rp.lt c)
  have nA:∀k,(it A).contains (h0.length+k)=false:=λk=>by
   rw[hL];cases z5:cG vp with
   |none=>rfl
   |some i=>have:=rp.lt z5;simp;omega
  have w6:∀k,(it A4).contains (h0.length+k)=false:=λk=>by rw[z4,<-hL];exact nA k
  refine bE (.ptr s 0) rfl rfl (o.isV (i:=0) d_) (by simp[opN,go_sem]) (by simp[AV.mv];omega) ?_;refine bE (.ptr s 0) rfl rfl (o.isV (i:=1) d_) (by simp[opN,go_sem]) (by simp[AV.mv];omega) ?_;refine bE (.ptr s 0) rfl rfl (o.isV (i:=2) d_) (by simp[opN,go_sem]) (by simp[AV.mv];omega) ?_;refine cR (.ptr s 0) vp g_ l0 (dW o_) (o.isV (i:=3) d_) (O _).2.2 ?_;refine bE A rfl rfl (o.isV (i:=4) d_) (by simp[opN,go_sem,hA]) (O _).1 ?_;refine bE A rfl rfl (o.isV (i:=5) d_) (by simp[opN,go_sem,y7]) (O _).1 ?_;refine cR A (enc a) g_ lA (nA _) (o.isV (i:=6) d_) (eN _ _ _) ?_;refine bE (.ptr s 0) rfl rfl (o.isV (i:=7) d_) (by simp[opN,go_sem]) (by simp[AV.mv];omega) ?_;refine bE (.ptr s 0) rfl rfl (o.isV (i:=8) d_) (by simp[opN,go_sem]) (by simp[AV.mv];omega) ?_;refine bE (.ptr s 0) rfl rfl (o.isV (i:=9) d_) (by simp[opN,go_sem]) (by simp[AV.mv];omega) ?_;refine cR (.ptr s 0) vp g_ l0 (dW o_) (o.isV (i:=10) d_) (O _).2.2 ?_;refine bE A rfl rfl (o.isV (i:=11) d_) (by simp[opN,go_sem,hA]) (O _).1 ?_;refine bE A4 rfl rfl (o.isV (i:=12) d_) (by simp[opN,go_sem,y8]) (O _).2.1 ?_;refine cR A4 (enc b) g_ w5 (w6 _) (o.isV (i:=13) d_) (eN _ _ _) ?_;refine je _ mV (o.isV (i:=14) d_) ?_;rw[show VObj.mv H0.length (h0.length+14) (.cells (AV.agg zc).cells .live)=.cells zc .live from rfl];obtain⟨H1,F⟩:∃g,g=H0.set (h0.length+14) (.cells zc .live):=⟨_,rfl⟩
  have z6:H1.length=H0.length:=by rw[F];simp
  have q8:H1[h0.length+14]?=some (.cells zc .live):=by rw[F];exact aD o_
  have u9:dE H1[h0.length+15]?=true:=by rw[F];exact dg (o.isV (i:=15) d_) o_
  have w7:dE H1[h0.length+16]?=true:=by rw[F];exact dg (o.isV (i:=16) d_) o_
  have w8:dE H1[h0.length+17]?=true:=by rw[F];exact dg (o.isV (i:=17) d_) o_
  have o1:∀j,j<h0.length->H1[j]?=h0[j]?:=λj U=>by rw[F,aC o_,o.old j U]
  rw[<-F];refine je _ mV u9 ?_;rw[show VObj.mv H1.length (h0.length+15) (.cells (AV.agg zc).cells .live)=.cells zc .live from rfl];obtain⟨H2,G⟩:∃g,g=H1.set (h0.length+15) (.cells zc .live):=⟨_,rfl⟩
  have w9:H2.length=H0.length:=by rw[G];simp[z6]
  have r8:H2[h0.length+14]?=some (.cells zc .live):=by rw[G,aC o_];exact q8
  have r9:H2[h0.length+15]?=some (.cells zc .live):=by rw[G];exact aD o_
  have v0:dE H2[h0.length+16]?=true:=by rw[G];exact dg w7 o_
  have v2:dE H2[h0.length+17]?=true:=by rw[G];exact dg w8 o_
  have o2:∀j,j<h0.length->H2[j]?=h0[j]?:=λj U=>by rw[G,aC o_,o1 j U]
  rw[<-G];refine iA (h0.length+14) 0 (enc a) _ g_ g_ (kM a r8) o_ v0 ?_;rw[pR];have t9:(H2.set (h0.length+14) (.cells (enc a).cells .live))[h0.length+15]?=some (.cells zc .live):=by rw[aC o_];exact r9
  refine iA (h0.length+15) 0 (enc b) _ g_ g_ (kM b t9) o_ (dg v2 o_) ?_;rw[pR];refine⟨?_,?_⟩
  ·unfold sq;generalize hb:Region.before _=bb;have z7:(bb.getD 16 0).testBit 14=true:=by rw[<-hb];kernel_rfl
   have z8:(bb.getD 17 0).testBit 15=true:=by rw[<-hb];kernel_rfl
   clear hb;rw[hL,z4];have oa:∀k,¬h0.length+k=s:=λk=>o_
   have ob:∀k,¬s=h0.length+k:=λk=>o_
   simp at z7 z8;cases z5:cG vp with
   |none=>simp[it,qm,List.range,List.range.loop,oa];exact⟨z7,z8⟩
   |some i=>
    have c:=rp.lt z5;have oc:∀k,¬h0.length+k=i:=λk=>o_
    have od:∀k,¬i=h0.length+k:=λk=>o_
    simp[it,qm,List.range,List.range.loop,oa,oc];exact⟨z7,z8⟩
  refine⟨g_,g_,g_,?_,aD (by simp[w9];omega),λj U=>?_⟩
  ·rw[aC o_];exact aD o_
  rw[aC o_,aC o_];exact o2 j U
 rintro q4 h' ⟨g0,K,M,m3,m4,old⟩;have z9:h0.length+15<h'.length:=(aB.1 m4).1;have q5:h'[s]?=some (.cells [vp,J] .live):=by rw[old s x0];exact hs
 have x2:RowQ h' vp ((a,b)::ps):=rp.keep λi c=>old i (rp.lt c)
 have x3:RowS h' J bs:=rb.keep λi c=>old i (rb.lt c)
 have v3:=λi (c:cG vp=some i)=>rp.lt c
 have v4:=λi (c:cG J=some i)=>rb.lt c
 generalize v6:h0.length+14=i3 at *;have x4:h0.length+15=i3+1:=o_;rw[x4]at M m4 z9;have hN:h0.length<=i3:=o_;clear v6 x4 hL z4 y9 z3 hA y7 y8 old rp rb hs;have⟨v1,x5,rq,y'⟩:=x2.tail;have l0:=Mg q5;have t1:=stQ q5 rq;obtain⟨l,X⟩:∃l,l=h'.set s (.cells [v1,J] .live):=⟨_,rfl⟩
 have z6:l.length=h'.length:=by rw[X];simp
 have k1:∀j,j≠s->l[j]?=h'[j]?:=λj U=>by rw[X,aC (λe=>U e.symm)]
 have E:l[s]?=some (.cells [v1,J] .live):=by rw[X];exact aD o_
 have v:RowQ l v1 ps:=rq.keep λi c=>k1 i (x2.ne q5 i (y' i c))
 have u:RowS l J bs:=x3.keep λi c=>k1 i (x3.ne q5 i c)
 have n3:l[i3]?=some (.cells (enc a).cells .live):=by rw[k1 _ o_];exact m3
 have n4:l[i3+1]?=some (.cells (enc b).cells .live):=by rw[k1 _ o_];exact m4
 have x6:∀i,cG v1=some i->cG J≠some i:=λi c=>hn i (y' i c)
 have tk:Took l s ps bs:=⟨v1,J,E,v,u,x6⟩
 have cs:=I9 a b o_ o_;have j6:a.kids.length<=8:=uV (eF (bg va).1);have j7:b.kids.length<=8:=uV (eF (bg N).1);have ca:=Qe a b o_ o_;have Y:=eY n3;have Z:=eY n4;rw[<-X]at t1;simp[go_sem,g0,K,M,l0,x5,t1,Y,Z,cs];by_cases q1:a.cmp b=0
 ·simp[go_sem,q1];exact fin _ _ 0 _ (.inr rfl) g_ ⟨0,rfl,by rw[if_pos q1];exact⟨rfl,tk⟩⟩
 simp[go_sem,q1,K,M,Y,Z,ca];by_cases Q:fH a b=true
 ·have v7:a.kids.length=b.kids.length:=by simp only[fH,bI,decide_eq_true_eq]at Q;exact Q.2
  have j8:(mJ a b).length=a.kids.length:=by simp[mJ,v7]
  have l3:=wh n3;simp[go_sem,Q,K,l3,dX];refine bX (XA a b s i3 (i3+1) l.length v1 J ps bs) a.kids.length ⟨0,.isl [] .full,rfl,aO _,g_,g_,g_,g_,g_,g_,n3,n4,E,v,u,.inl ⟨rfl,rfl⟩,λi c=>(by cases c),aP _⟩ ?_;have v8:i3+1<l.length:=o_;have y0:s<l.length:=o_;have x7:∀i,cG v1=some i->i<l.length:=λi c=>v.lt c
  have q6:∀i,cG J=some i->i<l.length:=λi c=>u.lt c
  generalize l.length=L at v8 y0 x7 q6;clear l3 Y Z tk t1 l0 E v u n3 n4 k1 X z6 l g0 K M;rintro m st h ⟨k,v5,rfl,hk,g0,K,M,g5,x8,y1,n3,n4,E,v,u,r5,q7,j9⟩;have l3:=wh n3;have l4:=wh n4;by_cases x9:k<a.kids.length
  ·have w':(k:Int)<a.kids.length:=o_;have v9:=dh a.kids k x9;have j':=dh b.kids k o_;have w2:=wS k o_;have⟨v',D,y2,ho,z,y3⟩:=Wa (ys:=[(a.kids[k],b.kids[k])]) (w:=.isl [bT (a.kids[k],b.kids[k])] .full) r5 (.inl ⟨.full,rfl,λt e=>by cases e⟩) (by simp only[bU,aL,bB];omega);have j0:(mJ a b).take k++[(a.kids[k],b.kids[k])]=(mJ a b).take (k+1):=by rw[<-aW (by omega:k<(mJ a b).length)];simp[mJ]
   rw[j0]at ho;simp[go_sem,x8,y1,w'];refine eQ 10 _ (by simp[gM]) rfl ?_;simp[go_sem,K,M,g5,y1,l3,l4,v9,j',ee,N9,nr,Ax,y2,-Int.natCast_add,w2];have f:∀j,j<L->cG v5≠some j:=λj U e=>by have:=q7 j e;omega
   refine⟨?_,a.kids.length-(k+1),o_,k+1,v',rfl,x9,g_,g_,g_,g_,g_,g_,z.get n3 (f _ o_),z.get n4 (f _ o_),z.get E (f _ y0),v.keep λi c=>z.2 i (v.lt c) (f _ (x7 i c)),u.keep λi c=>z.2 i (u.lt c) (f _ (q6 i c)),ho,λi c=>?_,by have:=z.1;omega⟩
   ·rcases r5 with⟨_,rfl⟩|⟨id,rfl,hd⟩
    ·simp[go_sem,ff,fL,fP,iC,dy,cF]
    have:=q7 id rfl;have z1:¬i3=id:=o_;have z2:¬i3+1=id:=o_;simp[go_sem,ff,fL,fP,iC,dy,cF,z1,z2]
   rcases y3 i c with e|⟨e,_⟩
   ·omega
   cases e
  have:k=a.kids.length:=o_;subst this;rw[bJ o_]at r5;have l0:=Mg E;have⟨v',D,y2,ho,z,y3⟩:=Wa r5 v o_;have f:∀j,j<L->cG v5≠some j:=λj U e=>by have:=q7 j e;omega
  have q9:=z.get E (f _ y0);have hq:=RowQ.of ho (by rw[List.length_append];omega);have j1:=stQ q9 hq;have w0:RowS D J bs:=u.keep λi c=>z.2 i (u.lt c) (f _ (q6 i c))
  simp[go_sem,g0,g5,x8,y1,l0,y2,j1];refine fin _ _ 0 _ (.inr rfl) g_ ⟨0,rfl,?_⟩;rw[if_neg q1,if_pos Q];refine⟨rfl,v',J,aD (aB.1 q9).1,hq.keep λi c=>aC λe=>hq.ne q9 i c e.symm,w0.keep λi c=>aC λe=>w0.ne q9 i c e.symm,λi c U=>?_⟩;have:=q6 i U;rcases y3 i c with e|⟨_,e⟩
  ·omega
  rw[e]at c;have:=q7 i c;omega
 have d:∀(e:Int) (h:H),(match fB a b with
   |.bad e'=>e=e'
   |.ok x y=>if okU x y ps bs=true then e=0/\Took h s (mw x y ps) (ke x y bs++[(x,y)])else e=3)->sc s a b ps bs (.int .i64 e) h:=λe h hh=>⟨e,rfl,by rw[if_neg q1,if_neg Q];exact hh⟩
 have j2:a≠b:=λe=>q1 (cmp_zero.2 e)
 have tail:∀(x y:T) (D:H),Took D s ps bs->x.kind=1->y.kind≠1->bA x=0->bA y=0->fB a b=Ai x y->(gm x y=false->∀h,sc s a b ps bs (.int .i64 11) h)/\(gm x y=true->occ x y=true->∀h,sc s a b ps bs (.int .i64 12) h) /\
   (gm x y=true->occ x y=false->∃e h',aj C D (.func 211 []) (some [.ptr s 0,enc x,enc y])=some (.int .i64 e,h')/\sc s a b ps bs (.int .i64 e) h'):=by
  intro x y D y4 kx ky vx vy I;have c:(x.sort≠0/\(y.kind≠2\/y.sort≠x.sort))↔gm x y=false:=by rw[P0 vx vy kx ky,Bool.not_eq_false',decide_eq_true_eq]
  unfold Ai at I;refine⟨λh h'=>d _ _ ?_,λh ho h'=>d _ _ ?_,λh ho=>?_⟩
  ·rw[I,if_pos (c.2 h)]
  ·rw[I,if_neg (λq=>by rw[c.1 q]at h;cases h),if_pos ho]
  have⟨e,h',c1,c2⟩:=Ry x y ps bs D s y4 kx vx vy x' hb o_ hbl;exact⟨e,h',by rw[eT k_ rfl];exact c1,d _ _ (by rw[I,if_neg (λq=>by rw[c.1 q]at h;cases h),if_neg (by simp[ho])];exact c2)⟩
 have q':∀x:T,x.kind=1->∀h,aj C h (.func 208 []) (some [enc x])=some (.bool true,h):=λx hx h=>by rw[DY,iv,hx];rfl
 have q0:∀x:T,x.kind≠1->∀h,aj C h (.func 208 []) (some [enc x])=some (.bool false,h):=λx hx h=>by rw[DY,iv,decide_eq_false hx]
 by_cases ka:a.kind=1
 ·have B:=q' a ka;by_cases kb:b.kind=1
  ·have n:=q' b kb;have I:fB a b=LX a b:=by unfold fB LX;rw[if_pos ka,if_pos kb]
   have⟨r,D,c1,hQ⟩:=SF a b l s o_ o_ (sc s a b ps bs) (λx y q3 g=>by
    rw[<-I]at q3;have⟨kx,_,z0⟩:=pS va N j2 q3;have vx:bA x=0:=by rcases z0 with⟨rfl,_⟩|⟨rfl,_⟩<;>assumption
    have vy:bA y=0:=by rcases z0 with⟨_,rfl⟩|⟨_,rfl⟩<;>assumption
    have⟨e,h',c1,c2⟩:=Ry x y ps bs (l++g) s (tk.app g) kx vx vy x' hb o_ hbl;exact⟨e,h',c1,d _ _ (by rw[q3];exact c2)⟩) (λq3 g=>d _ _ (by rw[I,q3]))
   have c2:aj C l (.func 209 []) (some [.ptr s 0,enc a,enc b])=some (r,D):=by rw[eT k_ rfl];exact c1
   obtain⟨e,rfl,j3⟩:=hQ;simp[go_sem,Q,g0,K,M,Y,Z,B,n,c2];exact fin _ _ e _ (.inr rfl) g_ ⟨e,rfl,j3⟩
  have n:=q0 b kb;have⟨t1,t2,t3⟩:=tail a b l tk ka kb va N (by unfold fB;rw[if_pos ka,if_neg kb]);have cf:=JO a b o_ o_;have co:=I8 a b o_ o_;cases S:gm a b
  ·simp[go_sem,Q,K,M,Y,Z,B,n,cf,S];exact fin _ _ 11 _ (.inr rfl) g_ (t1 S _)
  cases f2:occ a b
  ·have⟨e,D,c2,hQ⟩:=t3 S f2;simp[go_sem,Q,g0,K,M,Y,Z,B,n,cf,S,co,f2,c2];exact fin _ _ e _ (.inr rfl) g_ hQ
  simp[go_sem,Q,K,M,Y,Z,B,n,cf,S,co,f2];exact fin _ _ 12 _ (.inr rfl) g_ (t2 S f2 _)
 have B:=q0 a ka;by_cases kb:b.kind=1
 ·have n:=q' b kb;have w1:=CU b n3;have j4:(l.set i3 (.cells (enc b).cells .live))[i3+1]?=some (.cells (enc b).cells .live):=by rw[aC o_];exact n4
  have w2:=CU a j4;obtain⟨D,z'⟩:∃D,D=(l.set i3 (.cells (enc b).cells .live)).set (i3+1) (.cells (enc a).cells .live):=⟨_,rfl⟩
  have k2:∀j,j<h0.length->D[j]?=l[j]?:=λj U=>by rw[z',aC o_,aC o_]
  have p3:D[i3]?=some (.cells (enc b).cells .live):=by rw[z',aC o_];exact aD o_
  have p4:D[i3+1]?=some (.cells (enc a).cells .live):=by rw[z'];exact aD (by simp;omega)
  rw[<-z']at w2;have y4:Took D s ps bs:=⟨v1,J,by rw[k2 s x0];exact E,v.keep λi c=>k2 i (v3 i (y' i c)),u.keep λi c=>k2 i (v4 i c),x6⟩
  have y5:=eY p3;have y6:=eY p4;have⟨t1,t2,t3⟩:=tail b a D y4 kb ka N va (by unfold fB;rw[if_neg ka,if_pos kb]);have cf:=JO b a o_ o_;have co:=I8 b a o_ o_;cases S:gm b a
  ·simp[go_sem,Q,K,M,Y,Z,B,n,w1,w2,y5,y6,cf,S];exact fin _ _ 11 _ (.inr rfl) g_ (t1 S _)
  cases f2:occ b a
  ·have⟨e,h3,c2,hQ⟩:=t3 S f2;simp[go_sem,Q,g0,K,M,Y,Z,B,n,w1,w2,y5,y6,cf,S,co,f2,c2];exact fin _ _ e _ (.inr rfl) g_ hQ
  simp[go_sem,Q,K,M,Y,Z,B,n,w1,w2,y5,y6,cf,S,co,f2];exact fin _ _ 12 _ (.inr rfl) g_ (t2 S f2 _)
 have n:=q0 b kb;simp[go_sem,Q,K,M,Y,Z,B,n];exact fin _ _ 11 _ (.inr rfl) g_ (d _ _ (by unfold fB;rw[if_neg ka,if_neg kb]))
theorem Av:∀l m:Lb,bw l=bw m->l=m
 |[],[],_=>rfl
 |[],b::m,h=>by have:=congrArg List.length h;rw[dv,dv]at this;simp at this
 |a::l,[],h=>by have:=congrArg List.length h;rw[dv,dv]at this;simp at this
 |(a1,a2)::l,(b1,b2)::m,h=>by rw[iR,iR]at h;simp only[aq,cV,cN,ct]at h;have⟨c,d,e,f,g,i,j,k,n⟩:=h;rw[Av l m n,DL a1 b1 (by rw[bV,bV,c,d,e,f]),DL a2 b2 (by rw[bV,bV,g,i,j,k])]
theorem zl(l:Lb):(pg l).length=l.length:=List.length_mergeSort l
theorem D3:pg []=[]:=by have:=zl [];simpa using this
theorem Qz{h:H}{v:AV}{l:Lb}(r:RowS h v l) (hs:∀b∈l,b.1.size<4000000/\b.2.size<4000000) (hd:l.Pairwise λa b=>a.1≠b.1) (hl:l.length<1000000000):∃h',aj C h (.func 96 []) (some [v,.func 212 []])=some (.tuple [],h')/\RowS h' v (pg l)/\h'.length=h.length:=by
 rw[eT k_ rfl];rcases r with⟨rfl,rfl⟩|⟨id,rfl,c⟩
 ·exact⟨h,kK (C:=C) (fn:=f96) func96 rfl,.inl ⟨D3,rfl⟩,rfl⟩
 refine⟨h.set id (.cells (bw (pg l)) .live),kK (C:=C) (fn:=f96) func96 ?_,.inr ⟨id,by rw[zl],aD (aB.1 c).1⟩,s_⟩;have f:∀a,C.prim 96 a h=rF a h:=λa=>by have:C.prim=Go.VZ.prim:=rfl;rw[this];rfl
 rw[f];have e:∃l':Lb,l.length=l'.length/\l'.length<1000000000/\(∀b∈l',b.1.size<4000000/\b.2.size<4000000)/\l'.Pairwise (λa b=>a.1≠b.1)/\h[id]?=some (.cells (bw l') .live):=⟨l,rfl,hl,hs,hd,c⟩
 have g:e.choose=l:=by have d:=e.choose_spec.2.2.2.2;generalize e.choose=m at d;rw[c]at d;simp only[aA,VObj.cells.injEq,and_true]at d;exact(Av _ _ d).symm
 have i:rF [.msl id 0 8 l.length none,.func 212 []] h=@dite _ (∃l':Lb,l.length=l'.length/\l'.length<1000000000/\(∀b∈l',b.1.size<4000000/\b.2.size<4000000)/\l'.Pairwise (λa b=>a.1≠b.1)/\h[id]?=some (.cells (bw l') .live)) (Classical.propDecidable _) (λe=>some (.tuple [],h.set id (.cells (bw (pg e.choose)) .live))) (λ_=>none):=rfl;rw[i,dif_pos e,g]
theorem UG{h:H}{v:AV}{l:Lb}(r:RowS h v l) (hs:∀b∈l,b.1.size<4000000/\b.2.size<4000000) (hd:l.Pairwise λa b=>a.1≠b.1) (hl:l.length<1000000000):∃h',Go.V.Call C 184 [v] h=some (v,h')/\RowS h' v (pg l):=by
 have c:RowS (h++[.tok 0 121]) v l:=r.keep λi d=>aH (r.lt d)
 have⟨h',e,f,_⟩:=Qz c hs hd hl;refine⟨h',wD rfl func184 rfl k_ (by simp[f184]) λR g=>?_,f⟩;simp[go_sem,dP,e];exact g _ _ _ (.inr rfl) ⟨v,by simp[ag,cO,f184,go_sem],rfl⟩
theorem HY{a b:T}{e:Int}(h:fB a b=.bad e):e≠0:=by unfold fB Ai at h;split at h<;>(try split at h)<;>(try split at h)<;>(try split at h)<;>first|(cases h;done)|(simp only[Ch.bad.injEq]at h;omega)
theorem Jn{hf:H}{v x:AV}(n:Nat) (e:Int) (e1:eW hf (n+2) v=some x):eW hf (n+4) (.tuple [v,.int .i64 e])=some (.tuple [x,.int .i64 e]):=by
 have a:∀(m:Nat) (z:Int),eW hf (m+1) (.int .i64 z)=some (.int .i64 z):=λ_ _=>rfl
 have b:fJ hf (n+3) [v,.int .i64 e]=some [x,.int .i64 e]:=by simp only[fJ,e1,a]
 have c:eW hf (n+4) (.tuple [v,.int .i64 e])=(match fJ hf (n+3) [v,.int .i64 e]with
  |some l=>some (.tuple l)
  |none=>none):=rfl
 rw[c,b]
theorem Jm{h:H}{v:AV}{l:Lb}(r:RowS h v l) (hl:l.length<=122000) (e:Int):eW (bo h) cM (.tuple [v,.int .i64 e])=some (.tuple [binds l,.int .i64 e]):=by
 rcases r with⟨rfl,rfl⟩|⟨id,rfl,a⟩
 ·exact du rfl rfl s_
 have d:(bo h)[id]?=some (.cells (bw ([]++l)) .frozen):=nD h id a;obtain⟨m,b⟩:∃m,cM=m+4:=⟨999996,rfl⟩
 have f:m=999996:=by unfold cM at b;omega
 rw[b];exact Jn m e (Rg (c:=none) d (by simpa using hl) (m+1) o_)
def W9(U:Lq) (K:Nat) (r:Lb) (e:Int) (m:Nat) (st:PT) (h:H):Prop:=∃ps s,gg AZ m ps s=some (r,e)/\InvU U K ps s/\st.get 4=.ptr 1 0/\Took h 1 ps s
theorem UA(l:Lb):fV C.P 217 [(0,binds l)]=some (.agg [binds l,.isl [] .full]):=by
 have e:∀a:LA,fV C.P 217 [(0,.isl a .unk)]=some (.agg [.isl a .unk,.isl [] .full]):=λa=>k_
 exact e _
theorem Tz(v:AV) (_hv:au v=true) (h:H):mg C.P h 217 (.agg [v,.isl [] .full])=some (.ptr h.length 0,h++[.cells [v,.isl [] .full] .live]):=by have z:cw C.P 217=some 2:=k_;simp[mg,z,am,au]
theorem Lh(U:Lq) (K:Nat) (hK:K<=120600) (hU:U.length<=4000) (n:Nat) (ps0 r:Lb) (e:Int) (hi0:InvU U K ps0 []) (hr0:gg AZ n ps0 []=some (r,e)):az C 152 [binds ps0]=some (.tuple [binds (pg r),.int .i64 e]):=by
 refine bL func152 rfl λR O=>?_
 have o:=UA ps0;have Q:=Tz (binds ps0) rfl;have z:au (binds ps0)=true:=rfl;simp[go_sem,z,o,Q];refine bX (W9 U K r e) n ⟨ps0,[],hr0,hi0,g_,binds ps0,.isl [] .full,rfl,.inl ⟨.unk,rfl,λt e=>by cases e⟩,.inl ⟨rfl,rfl⟩,λi hi=>by cases hi⟩ ?_;clear hr0 hi0 o Q;rintro n st h ⟨k,s,c,d,S,p⟩;have⟨vp,A,V,w,rb,hn⟩:=id p;have X:=Mg V;have l1:=Sx V;have g:=w.len;match k,n,c,d,p,w,g with
 |[],n,c,d,p,w,g=>
  have hh:s=r/\(0:Int)=e:=by simpa[gg]using c
  obtain⟨rfl,rfl⟩:=hh;have B:=d.slen;have⟨D,E,r1⟩:=UG rb (λb o=>⟨by have:=(bg (d.bval b o).1).2.1;omega,by have:=(bg (d.bval b o).2).2.1;omega⟩) d.diff o_;have F:aj C h (.func 184 []) (some [A])=some (A,D):=by rw[eT k_ rfl];exact E
  simp only[bB]at g;simp[go_sem,S,X,l1,g,F];refine O ⟨.tuple [A,.int .i64 0],by simp[ag,gk,cO,f152,go_sem],?_⟩;exact Jm r1 (by rw[zl];omega) 0
 |(a,b)::k,0,c,_,_,_,_=>simp[gg]at c
 |(a,b)::k,n+1,c,d,p,w,g=>
  have G:=d.plen;have B:=d.slen;simp only[aL]at G;obtain⟨rr,D,E,q,rfl,f⟩:=O0 a b k s h 1 p d.valid d.bval o_ o_;have F:aj C h (.func 183 []) (some [.ptr 1 0])=some (.int .i64 q,D):=by rw[eT k_ rfl];exact E
  have fin:∀m:Int,q=m->m≠0->some (([]:Lb),m)=some (r,e)->∀(st:PT) (h:H) (x:Ext),st.get 2=.isl [] x->st.get 3=.int .i64 q->R .ret st h:=λm I l Y st h x g2 g3=>by simp only[aA,aE]at Y;obtain⟨rfl,rfl⟩:=Y;subst I;refine O ⟨.tuple [.isl [] x,.int .i64 q],by simp[ag,gk,cO,f152,g2,g3],?_⟩;rw[D3];exact du rfl rfl s_
  have u:0<((a,b)::k).length:=s_;generalize ((a,b)::k).length=N at g u;rw[gg]at c;simp[go_sem,S,X,g,u,F];by_cases J:a.cmp b=0
  ·rw[if_pos J]at c f;obtain⟨rfl,j⟩:=f;simp[go_sem];exact⟨n,o_,k,s,c,d.skip,g_,j⟩
  rw[if_neg J]at c f;by_cases Z:fH a b=true
  ·rw[if_pos Z]at c f;obtain⟨rfl,j⟩:=f;simp[go_sem];exact⟨n,o_,_,s,c,d.kids,g_,j⟩
  rw[if_neg Z]at c f;have⟨va,q'⟩:=d.valid _ bv;have L:a≠b:=λe=>J (cmp_zero.2 e)
  generalize v:fB a b=cu at c f;cases cu with
  |bad m=>
   dsimp only at c f;have l:=HY v;have I:q≠0:=by rw[f];exact l
   simp[go_sem,I];exact fin m f l c _ _ _ (by simp[go_sem];rfl) g_
  |ok x y=>
   dsimp only at c f;by_cases M:okU x y k s=true
   ·rw[if_pos M]at c f;obtain⟨rfl,j⟩:=f;simp[go_sem];exact⟨n,o_,_,_,c,(d.bind L v M).1,g_,j⟩
   rw[if_neg M]at c f;subst f;simp[go_sem];exact fin 3 rfl d_ c _ _ _ (by simp[go_sem];rfl) g_
theorem S8:vi C.P 3=false:=k_
theorem S9:C5 C.P 3=true:=k_
section
variable {cf:FuncId}{ops:Array Oper}{d:Tmp}{ty:TypeId}{p:String}{af:Array Edge}{l:List Oper}{s:PT}{h:H}{K:PT->H->Prop}
@[go_sem] theorem R4 (x y:Operand):OW C cf ops (⟨some d,.call {callee:=.builtin .append,args:=#[x,y],argTypes:=#[32,3]},ty,p,af,none⟩::l) s h K↔bO (bi2 (ev s x) (ev s y) (JS C.P h 32)) λz=>OW C cf ops l (s.set d z.1) z.2 K:=LJ 32 3 x y d_ S8 S9
end
theorem U2(n:Nat):Zs (zs n):=by intro x b;have⟨l,c,a⟩:=oJ.1 b;have:=(mT.1 c).2;subst this;simp only[zc,aV,dN,or_false]at a;rcases a with rfl|rfl|rfl|rfl<;>simp
theorem SB(n:Nat):(zs n).length=4*n:=by
 induction n with
 |zero=>rfl
 |succ n a=>rw[Hw,List.length_append,a];simp[zc];omega
theorem Wi(h:H) (n:Nat) (h0:0<n) (hn:n<=100000):JS C.P h 32 (.isl [] .full) (.int .i64 n)=some (.msl h.length 0 4 n none,h++[.cells (zs n) .live]):=by have d:¬(n:Int)=0:=o_;have a:(0:Int)<=n:=o_;have e:n*(jy C.P 41).get!=n*56:=k_;have b:n*57<=35184372088832:=o_;have c:¬n=0:=o_;simp[JS,nK,u23,s25,b25,zV,z25,iN,a,b,c,am,zs,zc]
theorem Pu(n:Nat) (hn:n<=1000) (h0:H):∃v h',Go.V.Call C 182 [.isl [] .full,.int .i64 n] h0=some (v,h')/\RowZ (4*n) h' v []/\Keep h0 h' none:=by
 by_cases q:n=0
 ·subst q;refine⟨.isl [] .full,h0,wD rfl func182 rfl k_ (by simp[f182]) λR a=>?_,.inl ⟨rfl,rfl⟩,.refl _ _⟩;have b:fG C.P 32 (.isl [] .full)=some (.int .i64 0):=fq [] _;have c:FT C.P 32 (.isl [] .full)=some (.int .i64 0):=by simp[FT,u23]
  have d:IntKind.i64.wrap 0=0:=d_;simp[go_sem,dP,b,c,d];exact a _ _ _ (.inr rfl) ⟨.isl [] .full,by simp[ag,cO,f182,go_sem],rfl⟩
 refine⟨.msl h0.length 0 4 0 none,h0++[.cells (zs n) .live],wD rfl func182 rfl k_ (by simp[f182]) λR a=>?_,.inr ⟨h0.length,zs n,rfl,by simp[bZ],U2 n,by rw[SB];simp⟩,.append _ _ _⟩;have b:fG C.P 32 (.isl [] .full)=some (.int .i64 0):=fq [] _;have c:FT C.P 32 (.isl [] .full)=some (.int .i64 0):=by simp[FT,u23]
 have d:IntKind.i64.wrap 0=0:=d_;have f:IntKind.i64.wrap (n:Int)=n:=ay o_;have g:¬(n:Int)<0:=o_;have k:(0:Int)<n:=o_;have e:0<n:=o_;have h:=Wi h0 n e o_;have i:fF C.P 32 (.isl [] .full) none (some (.int .i64 0)) none=some (.isl [] .full):=by simp[fF,u23,s25,mB,qC,iN]
 have j:fF C.P 32 (.msl h0.length 0 4 n none) none (some (.int .i64 0)) none=some (.msl h0.length 0 4 0 none):=by simp[fF,u23,s25,mB,qC]
 simp[go_sem,dP,b,c,d,f,g,e,i,h,j];exact a _ _ _ (.inr rfl) ⟨.msl h0.length 0 4 0 none,by simp[ag,cO,f182,go_sem],rfl⟩
end Go.VZ
namespace Go.VZ
open Go Go.V Go.Proofs Tryz TL
theorem SE:C.P.underlying 213=some (.slice 32):=k_
theorem z23:ip C.P 32=true:=k_
theorem Sw(l:List (Lq)) (x:Ext):fG C.P 213 (.isl (l.map terms) x)=some (.int .i64 l.length):=by simp[fG,SE]
theorem M1(l:List (Lq)) (k:Nat) (hk:k<l.length) (x:Ext):aZ C.P 213 (.isl (l.map terms) x) (.int .i64 k)=some (.iptr (terms l[k]) 0):=by simp[aZ,SE,s23,hk,terms,AV.cells]
theorem Rp(l:Lq) (h:H):aJ C.P h 32 (.iptr (terms l) 0)=some (terms l):=by simp[aJ,aY,a23,s23,terms,AV.cells]
theorem N5(l m:Lq) (h:H):cQ C.P h 213 2 [(0,terms l),(1,terms m)]=some (.isl [terms l,terms m] .full,h):=cY SE s23 z23 rfl o_ rfl rfl rfl s_ rfl
theorem ZQ{N:Nat}{h:H}{v:AV}{xs:Lq}(ys:Lq) (r:RowZ N h v xs) (hN:N<=80000) (hl:4*(xs.length+ys.length)<=N):∃v' h',bi C.P true h 32 v (terms ys)=some (v',h')/\RowZ N h' v' (xs++ys)/\Keep h h' (cG v):=by
 have d:jh h 4 (terms ys)=some (bZ ys,ys.length):=by
  have:iN 4 (ys.map enc)=true:=by cases ys<;>simp[iN,aq]
  simp only[jh,terms,this,if_true,ax];rw[oK];rfl
 simp only[bi,dC,aT,if_false];rcases r with⟨rfl,rfl⟩|⟨id,a,rfl,b,k,f⟩
 ·by_cases c:ys.length=0
  ·have:ys=[]:=iE.1 c;subst this;refine⟨.isl [] .full,h,?_,.inl ⟨rfl,rfl⟩,.refl _ _⟩;simp only[ey,aT,if_false,de,u23,s25,b25,z25,d];simp
  refine⟨.msl h.length 0 4 ys.length none,h++[.cells (bZ ys) .live],?_,.inr ⟨h.length,[],rfl,s_,λx g=>by simp at g,by simpa using hl⟩,.append _ _ _⟩;simp only[ey,aT,if_false,de,u23,s25,b25,z25,d];have l:ys.length*57<=35184372088832:=o_;simp[c,l,iN]
 have m:=fU xs;by_cases c:ys.length=0
 ·have:ys=[]:=iE.1 c;subst this;refine⟨.msl id 0 4 xs.length none,h,?_,.inr ⟨id,a,s_,by simpa using b,k,by simpa using f⟩,.refl _ _⟩;simp only[ey,aT,if_false,de,u23,s25,b25,z25,d];simp
 have i:=(aB.1 b).1;refine⟨.msl h.length 0 4 (xs.length+ys.length) none,h.set id (.cells (bZ xs++a) .dead)++[.cells (bZ (xs++ys)) .live],?_,.inr ⟨h.length,[],s_,by rw[ap s_];simp,λx g=>by simp at g,by simpa using hl⟩,⟨s_,λj n o=>?_⟩⟩
 ·simp only[ey,aT,if_false,de,u23,s25,b25,z25,d,b];rw[if_neg s_,if_neg c,if_pos ⟨trivial,trivial,by rw[List.length_append];omega,o_⟩];have p:(bZ xs++a).take (xs.length*4)=bZ xs:=by rw[bq o_,bJ o_]
  rw[p,show bZ (xs++ys)=bZ xs++bZ ys from fm]
 have:id≠j:=λe=>o (by rw[e];rfl)
 rw[aH (by simpa using n),aC this]
def qi(l:List (Lq)):Nat:=(l.map List.length).sum
def Xp(l:List (Lq)) (x:Ext) (m:Nat) (st:PT) (_h:H):Prop:=∃k:Nat,m=l.length-k/\k<=l.length/\st.get 0=.isl (l.map terms) x/\st.get 3=.int .i64 (qi (l.take k))/\st.get 9=.isl (l.map terms) x/\st.get 10=.int .i64 l.length/\st.get 11=.int .i64 k
def Xg(l:List (Lq)) (x:Ext) (m:Nat) (st:PT) (h:H):Prop:=∃(k:Nat) (v:AV),m=l.length-k/\k<=l.length/\st.get 25=.isl (l.map terms) x/\st.get 26=.int .i64 l.length/\st.get 27=.int .i64 k/\st.get 6=v/\RowZ (4*qi l) h v (l.take k).flatten
theorem Bc(l:List (Lq)) (k:Nat):qi (l.take k)<=qi l:=by
 have:qi l=qi (l.take k)+qi (l.drop k):=by unfold qi;rw[<-List.sum_append,<-List.map_append,dx]
 omega
theorem Jf(l:List (Lq)):l.flatten.length=qi l:=by rw[lW];rfl
theorem Kz(l:List (Lq)) (hl:l.length<=1000) (hs:qi l<=1000):az C 151 [.isl (l.map terms) .unk]=some (terms l.flatten):=by
 refine bL func151 rfl λR G=>?_
 have g:=Sw l .unk;simp[go_sem,g];refine bX (Xp l .unk) l.length ⟨0,rfl,aO _,g_,by simp[go_sem,qi],g_,g_,g_⟩ ?_;rintro m st h ⟨k,rfl,u,w,o,x,c,d⟩;by_cases a:k<l.length
 ·have b:(k:Int)<l.length:=o_;have e:=M1 l k a .unk;have p:=dX l[k];have q:qi (l.take (k+1))=qi (l.take k)+l[k].length:=by unfold qi;rw[<-aW a,List.map_append,List.sum_append];simp
  have i:=Bc l (k+1);have I:IntKind.i64.wrap ((qi (l.take k):Int)+l[k].length)=((qi (l.take (k+1)):Nat):Int):=by rw[ay o_];omega
  have s:=wS k o_;have J:¬((qi (l.take (k+1)):Nat):Int)<0:=o_;simp[go_sem,o,x,c,d,b,e,Rp,p,-Int.natCast_add,I,s,J];exact⟨l.length-(k+1),o_,k+1,rfl,a,g_,g_,g_,g_,g_⟩
 have f:k=l.length:=o_;subst f;rw[ak]at o;have⟨v,y,z,A,K⟩:=Pu (qi l) hs h;have B:aj C h (.func 182 []) (some [.isl [] .full,.int .i64 (qi l)])=some (v,y):=by rw[eT k_ rfl];exact z
 simp[go_sem,w,o,c,d,B,g];refine bX (Xg l .unk) l.length ⟨0,v,rfl,aO _,g_,g_,g_,g_,by simpa using A⟩ ?_;clear A K z B w o x c d u a;rintro m st h ⟨k,v,rfl,u,t,j,n,D,r⟩;by_cases a:k<l.length
 ·have b:(k:Int)<l.length:=o_;have e:=M1 l k a .unk;have s:=wS k o_;have q:(l.take (k+1)).flatten=(l.take k).flatten++l[k]:=by rw[<-aW a,List.flatten_append];simp
  have i:=Bc l (k+1);have L:((l.take k).flatten++l[k]).length<=qi l:=by rw[<-q,Jf];exact i
  rw[List.length_append]at L;have⟨M,y,N,E,_⟩:=ZQ l[k] r o_ o_;rw[<-q]at E;simp[go_sem,D,t,j,n,b,e,Rp,N,-Int.natCast_add,s];exact⟨l.length-(k+1),o_,k+1,M,rfl,a,g_,g_,g_,g_,E⟩
 have f:k=l.length:=o_;subst f;rw[ak]at r;simp[go_sem,D,j,n];refine G ⟨v,?_,Bg r o_⟩;rcases r with⟨_,rfl⟩|⟨id,F,rfl,_⟩<;>simp[ag,cO,f151,go_sem]
theorem Qm(l m:Lq) (x:Ext) (hs:l.length+m.length<=1000) (h:H):aj C h (.func 151 []) (some [.isl [terms l,terms m] x])=some (terms (l++m),h):=by have e:=Kz [l,m] s_ (by simp[qi];omega);have:[l,m].flatten=l++m:=s_;rw[this]at e;exact an (args':=[.isl ([l,m].map terms) .unk]) rfl (by simp[short]) s_ e
theorem LD{h:H}{v:AV}{xs ys:Lb}{x:Ext}(o:OwnR 184 h v (xs.map bT)) (hl:xs.length+ys.length<=100000000000) :
  ∃v' h',bi C.P false h 182 v (.isl (ys.map bT) x)=some (v',h')/\OwnR 184 h' v' ((xs++ys).map bT)/\Keep h h' (cG v)/\(cG v'=cG v\/cG v=none/\cG v'=some h.length):=by
 have:=mQ (x:=x) rV wN LB Dt rfl o (mL xs) (mL ys) (by simp only[ax];omega);rwa[<-List.map_append]at this
theorem Ql(ps r:Lb) (e:Int) (x:Ext) (h:H) (hs:az C 152 [binds ps]=some (.tuple [binds r,.int .i64 e])):aj C h (.func 152 []) (some [.isl (ps.map bT) x])=some (.tuple [binds r,.int .i64 e],h):=
 an (args':=[binds ps]) rfl (by simp[short]) s_ hs
def Xt(l m:Lq) (d:Nat) (st:PT) (_h:H):Prop:=∃k:Nat,d=(l++m).length-k/\k<=(l++m).length/\st.get 0=terms l/\st.get 1=terms m/\st.get 22=terms (l++m)/\st.get 23=.int .i64 (l++m).length/\st.get 24=.int .i64 k
def Xj(l m:Lq) (d:Nat) (st:PT) (h:H):Prop:=∃(k:Nat) (v:AV),d=l.length-k/\k<=l.length/\st.get 0=terms l/\st.get 1=terms m/\st.get 9=v/\st.get 40=.int .i64 l.length/\st.get 41=.int .i64 k/\OwnR 184 h v (((l.zip m).take k).map bT)
theorem Md(l m:Lq) (hvl:∀t∈l,bA t=0) (hvm:∀t∈m,bA t=0) (hlm:l.length=m.length) (hl8:l.length<=8) (r:Lb) (e:Int)
  (hs:az C 152 [binds (l.zip m)]=some (.tuple [binds r,.int .i64 e])):az C 121 [terms l,terms m]=some (.tuple [binds r,.int .i64 e]):=by
 refine bL func121 rfl λR S=>?_
 have p:=dX l;have c:=dX m;rw[<-hlm]at c;have U:¬(200:Int)<l.length:=o_;have V:¬200<l.length:=o_;have X:=N5 l m;have Y:=λx h=>Qm l m x o_ h
 have B:=dX (l++m);have D:au (terms l)=true:=rfl;have F:au (terms m)=true:=rfl;simp[go_sem,p,c,U,D,F,X,Y,B,-List.length_append,-List.map_append];refine bX (Xt l m) (l++m).length ⟨0,s_,s_,g_,g_,g_,g_,g_⟩ ?_;rintro d st h ⟨k,rfl,L,y,z,i,b,j⟩;by_cases a:k<(l++m).length
 ·have f:=dh (l++m) k a;have n:bA (l++m)[k]=0:=by
   rcases aK.1 (aG a)with q|q
   ·exact hvl _ q
   exact hvm _ q
  have G:=um (l++m)[k] (by have:=(bg n).2.1;omega);have Z:k<16:=by rw[List.length_append]at a;omega
  have I:=wS k o_;generalize (l++m)[k]=t at f n G;generalize M:(l++m).length=N at a b;generalize hE:terms (l++m)=E at f i;have g:(k:Int)<N:=o_;rw[n]at G;have s1:ah C.P (h++[.cells zc .live]) 41 (.ptr h.length 0) (enc t)=some (h++[.cells (enc t).cells .live]):=by rw[kM t s_];simp
  have l1:aJ C.P (h++[.cells (enc t).cells .live]) 41 (.ptr h.length 0)=some (enc t):=eY s_;simp[go_sem,i,b,j,g,f,ee,mV,s1,l1,G,-Int.natCast_add,I];exact⟨N-(k+1),o_,k+1,by rw[M],o_,g_,g_,by simp[go_sem,i,hE],by simp[go_sem,b,M],g_⟩
 have s:k=(l++m).length:=o_;rw[<-s]at b;simp[go_sem,y,z,b,j,p,c];refine bX (Xj l m) l.length ⟨0,.isl [] (.tok h.length),s_,s_,g_,g_,g_,g_,g_,.inr ⟨h.length,rfl,s_⟩⟩ ?_;clear s a L i b j z y;rintro d st h ⟨k,v,rfl,L,y,z,O,u,o,A⟩;have q':(l.zip m).length=l.length:=by simp[hlm]
 by_cases a:k<l.length
 ·have g:(k:Int)<l.length:=o_;have f:=dh l k a;have J:=dh m k o_;have I:=wS k o_;have⟨v',h2,w,Q,q0,q2⟩:=LD (ys:=[(l[k],m[k])]) (x:=.full) A (by simp only[bU,aL,bB];omega);have K:(l.zip m).take k++[(l[k],m[k])]=(l.zip m).take (k+1):=by rw[<-aW (by omega:k<(l.zip m).length)];simp
  rw[K]at Q;simp only[aM,bM]at w;simp[go_sem,u,o,g];refine eQ 16 _ (by simp[gM]) rfl ?_;simp[go_sem,y,z,O,o,f,J,ee,N9,nr,Ax,w,-Int.natCast_add,I];refine⟨?_,l.length-(k+1),o_,k+1,v',rfl,a,g_,g_,g_,g_,g_,Q⟩;rcases A with rfl|⟨id,rfl,hd⟩
  ·simp[go_sem,ff,fL,fP,iC,dy,cF]
  simp[go_sem,ff,fL,fP,iC,dy,cF]
 have:k=l.length:=o_;subst this;rw[bJ o_]at A;obtain⟨xx,rfl,q3⟩:=IL A;have cs:=λh=>Ql (l.zip m) r e xx h hs
 simp[go_sem,u,o,O,cs];exact S ⟨.tuple [binds r,.int .i64 e],by simp[ag,gk,cO,f121,go_sem,binds],du rfl rfl s_⟩
theorem KT{l:Lb}:xM (pg l):=by
 have:=List.pairwise_mergeSort (le:=λx y:T × T=>!decide (y.1.cmp x.1<0)) (λa b c e d=>by
  simp only[cL,decide_eq_false_iff_not]at *;exact le_trans e d) (λa b=>by
  rw[bz];simp only[cL,decide_eq_false_iff_not];by_cases h:b.1.cmp a.1<0
  ·right;intro d;have:=cmp_anti a.1 b.1;omega
  exact .inl h) l
 exact this.imp λh=>by simpa[le]using h
theorem DU{a b:T}{e:Int}(h:fB a b=.bad e):e=11\/e=12:=by unfold fB Ai at h;split at h<;>(try split at h)<;>(try split at h)<;>(try split at h)<;>first|(cases h;done)|(simp only[Ch.bad.injEq]at h;omega)
theorem uN{ins:T × T->Lb->Lb}:∀(n:Nat) (ps s r:Lb) (e:Int),gg ins n ps s=some (r,e)->e=0\/(r=[]/\(e=3\/e=11\/e=12))
 |n,[],s,r,e,h=>by simp only[gg,aA,aE]at h;exact .inl h.2.symm
 |0,_::_,s,r,e,h=>by simp[gg]at h
 |n+1,(a,b)::ps,s,r,e,h=>by
  rw[gg]at h;by_cases h1:a.cmp b=0
  ·rw[if_pos h1]at h;exact uN n _ _ _ _ h
  rw[if_neg h1]at h;by_cases h2:fH a b=true
  ·rw[if_pos h2]at h;exact uN n _ _ _ _ h
  rw[if_neg h2]at h;cases hc:fB a b with
  |bad e'=>rw[hc]at h;simp only[aA,aE]at h;obtain⟨rfl,rfl⟩:=h;have:=DU hc;exact .inr ⟨rfl,o_⟩
  |ok x y=>
   rw[hc]at h;dsimp only at h;by_cases c:okU x y ps s=true
   ·rw[if_pos c]at h;exact uN n _ _ _ _ h
   rw[if_neg c]at h;simp only[aA,aE]at h;obtain⟨rfl,rfl⟩:=h;exact .inr ⟨rfl,.inl rfl⟩
theorem Ji(l:Lb):(pg l).Perm l:=List.mergeSort_perm l _
theorem Gy{U l m:Lq}(hvl:∀t∈l,bA t=0) (hvm:∀t∈m,bA t=0) (hlm:l.length=m.length) (hl8:l.length<=8) (hUw:∀u:T,u.kind=1->(∃t∈l++m,u∈bm bD t)->u∈U) (hUk:∀u∈U,u.kind=1) (hU:U.length<=300) :
  ∃r e,az C 112 [binds (l.zip m)]=some (.tuple [binds r,.int .i64 e])/\az C 121 [terms l,terms m]=some (.tuple [binds r,.int .i64 e])/\(e=0\/e=3\/e=11\/e=12)/\(∀b∈r,bA b.1=0/\bA b.2=0)/\r.length<=300:=by
 have i:=yj hvl hvm hUw hUk;have⟨n,⟨c,e⟩,j⟩:=QI _ _ _ _ i (aP _) (aP _);have⟨o,p,q,w⟩:=qz n _ _ _ c e (.refl _) .nil j;have g:=zm U (l.length+400*U.length) o_ o_ n (l.zip m) o e i p;have d:=Lh U (l.length+400*U.length) o_ o_ n (l.zip m) c e i j;have f:=uN n _ _ _ _ j;have Ey:c.Pairwise (λa b=>a.1≠b.1)/\(∀b∈c,bA b.1=0/\bA b.2=0)/\c.length<=300:=by
  have nil:c=[]->c.Pairwise (λa b=>a.1≠b.1)/\(∀b∈c,bA b.1=0/\bA b.2=0)/\c.length<=300:=λh=>by subst h;exact⟨.nil,s_,s_⟩
  rcases f with rfl|⟨h,_⟩
  ·rcases rf n _ _ c i j with h|h
   ·exact nil h
   exact⟨h.diff,h.bval,by have:=h.slen;omega⟩
  exact nil h
 have⟨x,y,z⟩:=Ey;have v:=Ji c;have s:pg c=o:=Hl (v.trans q) KT w ((v.symm.pairwise_iff fun {a b}(k:a.1≠b.1)=>λe=>k e.symm).1 x);rw[s]at d;refine⟨o,e,g,Md l m hvl hvm hlm hl8 o e d,?_,λb A=>y b (q.mem_iff.2 A),by rw[<-q.length_eq];exact z⟩;rcases f with h|⟨_,h⟩
 ·exact .inl h
 exact .inr h
def On(l:List UInt8):Nat:=l.foldl (λa b=>10*a+(b.toNat-48)) 0
theorem uH{n:Nat}(hn:n<1000):On (jj n)=n:=by
 unfold jj;split
 ·simp only[On,List.foldl,UInt8.toNat_ofNat'];omega
 split
 ·simp only[On,List.foldl,UInt8.toNat_ofNat'];omega
 simp only[On,List.foldl,UInt8.toNat_ofNat'];omega
def qn(n:Nat):ByteArray:=⟨(113::jj n).toArray⟩
theorem L7{m n:Nat}(hm:m<1000) (hn:n<1000) (h:qn m=qn n):m=n:=by
 have a:jj m=jj n:=by have:=congrArg ByteArray.data h;simpa[qn]using this
 rw[<-uH hm,a,uH hn]
theorem PN{n:Nat}(hn:n<1000):iX (qn n)=true:=by
 have a:∀m:Fin 1000,iX (qn m.val)=true:=by decide +kernel
 exact a ⟨n,hn⟩
def tO(s:ByteArray) (l:List ByteArray):Bool:=l.any λx=>decide (x=s)
theorem memN_iff{s:ByteArray}{l:List ByteArray}:tO s l=true↔s∈l:=by simp[tO]
theorem memN_not{s:ByteArray}{l:List ByteArray}:tO s l=false↔s∉l:=by rw[<-memN_iff];simp
def tkn(own:List ByteArray) (n:Nat):Nat:=((List.range n).filter λm=>tO (qn m) own).length
theorem wJ(own:List ByteArray) (n:Nat):tkn own (n+1)=tkn own n+if tO (qn n) own=true then 1 else 0:=by
 unfold tkn;rw[List.range_succ,gu,List.length_append];congr 1
 by_cases h:tO (qn n) own=true<;>simp[h]
theorem xd{α:Type} [DecidableEq α]:∀ {l m:List α},l.Nodup->(∀x∈l,x∈m)->l.length<=m.length
 |[],_,_,_=>aO _
 |a::l,m,hn,hs=>by
  have h1:=gd.1 hn;have c:=xd (l:=l) (m:=m.erase a) h1.2 λx b=>(List.mem_erase_of_ne (λe=>h1.1 (by rw[<-e];exact b))).2 (hs x (bP _ b))
  have d:=List.length_erase_of_mem (hs a bv);have f:0<m.length:=List.length_pos_of_mem (hs a bv);rw[aL];omega
theorem F7(own:List ByteArray){n:Nat}(hn:n<=1000):tkn own n<=own.length:=by
 have f:(((List.range n).filter λm=>tO (qn m) own).map qn).Nodup:=by refine iD.2 (List.Pairwise.imp_of_mem ?_ (List.nodup_range.filter _));intro a b g h c e;have f:=dR.1 (cE.1 g).1;have d:=dR.1 (cE.1 h).1;exact c (L7 o_ o_ e)
 have d:=xd f (m:=own) λx i=>by obtain⟨m,j,rfl⟩:=ae.1 i;exact memN_iff.1 (cE.1 j).2
 rw[ax]at d;exact d
def yX(own:List ByteArray):Nat->Nat->Nat
 |0,n=>n
 |f+1,n=>if tO (qn n) own=true then yX own f (n+1)else n
def nQ(own:List ByteArray) (n:Nat):Nat:=yX own (own.length+1) n
def gh(own:List ByteArray):Lq->Nat->Lb
 |[],_=>[]
 |x::l,n=>(x,.mk 1 (qn (nQ own n)) x.sort [])::gh own l (nQ own n+1)
def NumQ(own:List ByteArray) (k n:Nat):Prop:=n<=k+tkn own n/\n<1000
theorem NumQ.le{own:List ByteArray}{k n:Nat}(h:NumQ own k n):n<=k+own.length:=by have:=F7 own (nO h.2);have:=h.1;omega
theorem NumQ.skip{own:List ByteArray}{k n:Nat}(h:NumQ own k n) (hk:k+own.length<999) (hm:tO (qn n) own=true):NumQ own k (n+1):=by have b:=h.le;have c:=h.1;have a:=wJ own n;rw[if_pos hm]at a;exact⟨o_,o_⟩
theorem NumQ.use{own:List ByteArray}{k n:Nat}(h:NumQ own k n) (hk:k+own.length<999):NumQ own (k+1) (n+1):=by have a:=h.le;have b:=h.1;have c:=wJ own n;exact⟨o_,o_⟩
theorem zp{own:List ByteArray}{k:Nat}(hk:k+own.length<999):∀(f n:Nat),NumQ own k n->own.length+1<=f+tkn own n->tO (qn (yX own f n)) own=false/\NumQ own k (yX own f n)/\n<=yX own f n
 |0,n,h,hf=>by have:=F7 own (nO h.2);omega
 |f+1,n,h,hf=>by
  rw[yX];by_cases d:tO (qn n) own=true
  ·rw[if_pos d];have e:=wJ own n;rw[if_pos d]at e;have⟨a,b,c⟩:=zp hk f (n+1) (h.skip hk d) o_;exact⟨a,b,o_⟩
  rw[if_neg d];exact⟨by simpa using d,h,aP _⟩
theorem zK{own:List ByteArray}{k n:Nat}(hk:k+own.length<999) (h:NumQ own k n):tO (qn (nQ own n)) own=false/\NumQ own k (nQ own n)/\n<=nQ own n:=zp hk _ _ h o_
theorem nu(own:List ByteArray):∀(l:Lq) (n:Nat),(gh own l n).map (·.1)=l
 |[],_=>rfl
 |x::l,n=>by rw[gh,aM,nu own l]
theorem Gn(own:List ByteArray) (l:Lq) (n:Nat):(gh own l n).length=l.length:=by have:=congrArg List.length (nu own l n);simpa using this
theorem vf{own:List ByteArray}:∀ {l:Lq}{k n:Nat},k+l.length+own.length<999->NumQ own k n->∀b∈gh own l n,∃m,m<1000/\b.2=.mk 1 (qn m) b.1.sort []
 |[],_,_,_,_,b,hb=>by simp[gh]at hb
 |x::l,k,n,hk,h,b,hb=>by
  simp only[aL]at hk;have⟨h1,h2,h3⟩:=zK o_ h;rw[gh]at hb;rcases aV.1 hb with rfl|hb
  ·exact⟨_,h2.2,rfl⟩
  exact vf (k:=k+1) o_ (h2.use o_) b hb
theorem iF:∀(l:Lb) (t:T),dp l t=t\/∃b∈l,b.1.cmp t=0/\dp l t=b.2
 |[],t=>.inl rfl
 |b::l,t=>by
  rw[dp];by_cases h:b.1.cmp t=0
  ·rw[if_pos h];exact .inr ⟨b,bv,h,rfl⟩
  rw[if_neg h];rcases iF l t with e|⟨c,hc,e⟩
  ·exact .inl e
  exact .inr ⟨c,bP _ hc,e⟩
theorem qR:∀ {l:Lq},(∀k∈l,cz k=0)->jt l=0
 |[],_=>rfl
 |a::l,h=>by rw[jt];exact thn_zero.2 ⟨h a bv,qR λk hk=>h k (bP _ hk)⟩
theorem uL{f:T->T}:∀ {l:Lq},(∀k∈l,(f k).size=k.size)->sizes (l.map f)=sizes l
 |[],_=>rfl
 |a::l,h=>by rw[aM,sizes,sizes,h a bv,uL λk hk=>h k (bP _ hk)]
theorem sM{f:T->T}:∀ {l:Lq},(∀k∈l,(f k).depth=k.depth)->depths (l.map f)=depths l
 |[],_=>rfl
 |a::l,h=>by rw[aM,depths,depths,h a bv,sM λk hk=>h k (bP _ hk)]
theorem oH{a b:T}(hk:a.kind=b.kind) (hs:a.sort=b.sort) (hl:a.kids.length=b.kids.length):kz a=kz b:=by unfold kz;rw[hk,hs,hl]
theorem Jw{l:Lb}(hl:∀b∈l,∃m,m<1000/\b.2=.mk 1 (qn m) b.1.sort []):∀t:T,cz t=0->(cy l t).size=t.size/\(cy l t).depth=t.depth/\cz (cy l t)=0:=by
 refine T.ind λt o h=>?_
 have d:=eF h;rw[fh];by_cases a:t.kind=1
 ·rw[if_pos a];have c:=lH d (.inl a);rcases iF l t with e|⟨b,p,r,e⟩
  ·rw[e];exact⟨rfl,rfl,h⟩
  have⟨m,s,u⟩:=hl b p;have f:b.1=t:=cmp_zero.1 r;rw[e,u,f];refine⟨?_,?_,?_⟩
  ·rw[size_kids t,c,T.size]
  ·rw[lz t,c,T.depth]
  rw[fi];refine thn_zero.2 ⟨?_,rfl⟩;unfold gL at d ⊢;have n:kz t=false:=by
   by_cases q:kz t=true
   ·rw[if_pos q]at d;cases d
   simpa using q
  have g:kz (.mk 1 (qn m) t.sort [])=false:=by rw[<-n];exact oH a.symm rfl (by rw[c];rfl)
  rw[g,if_neg s_];simp only[T.name,T.kids,PN s];simp
 rw[if_neg a];rw[fi]at h;have⟨n,g⟩:=thn_zero.1 h;have v:=jH g;have i:=λk a=>o k a (v k a)
 refine⟨?_,?_,?_⟩
 ·rw[size_kids t,T.size,uL λk a=>(i k a).1]
 ·rw[lz t,T.depth,sM λk a=>(i k a).2.1]
 rw[fi];refine thn_zero.2 ⟨?_,qR λk a=>?_⟩
 ·have w:kz (.mk t.kind t.name t.sort (t.kids.map (cy l)))=kz t:=oH rfl rfl (by simp[T.kids]);unfold gL;rw[w];simp only[T.name,T.kids,ax];exact d
 obtain⟨x,j,rfl⟩:=ae.1 a;exact(i x j).2.2
theorem Cg{l:Lb}(hl:∀b∈l,∃m,m<1000/\b.2=.mk 1 (qn m) b.1.sort []){t:T}(h:bA t=0):bA (cy l t)=0/\(cy l t).size=t.size:=by have⟨d,e,f⟩:=bg h;have⟨a,b,c⟩:=Jw hl t d;refine⟨?_,a⟩;unfold bA;rw[c,if_neg o_];rfl
noncomputable def vW(m:Nat) (f:FuncId) (args:LA) (v:AV):Bool:=match fM C m f args []with
 |some (r,h)=>match eW (bo h) cM r with
  |some u=>AV.same u v
  |none=>false
 |none=>false
theorem rh{m:Nat}{f:FuncId}{args:LA}{s:ByteArray}(h:vW m f args (.str s)=true):az C f args=some (.str s):=by
 unfold vW at h;split at h<;>try(cases h;done)
 rename_i r c a;split at h<;>try(cases h;done)
 rename_i u b;have e:u=.str s:=by cases u<;>simp[AV.same]at h;rw[h]
 subst e;unfold az;rw[zU m a];exact b
theorem NJ:(List.range' 0 50).all (λn=>vW 100 107 [.int .i64 n] (.str ⟨(jj n).toArray⟩))=true:=k_
theorem NI:(List.range' 50 50).all (λn=>vW 100 107 [.int .i64 n] (.str ⟨(jj n).toArray⟩))=true:=k_
theorem NH:(List.range' 100 50).all (λn=>vW 100 107 [.int .i64 n] (.str ⟨(jj n).toArray⟩))=true:=k_
theorem NG:(List.range' 150 50).all (λn=>vW 100 107 [.int .i64 n] (.str ⟨(jj n).toArray⟩))=true:=k_
theorem Kq{n:Nat}(hn:n<200):az C 107 [.int .i64 n]=some (.str ⟨(jj n).toArray⟩):=by
 have a:vW 100 107 [.int .i64 n] (.str ⟨(jj n).toArray⟩)=true:=by
  by_cases b:n<50
  ·exact av.1 NJ n (by rw[db];omega)
  by_cases c:n<100
  ·exact av.1 NI n (by rw[db];omega)
  by_cases d:n<150
  ·exact av.1 NH n (by rw[db];omega)
  exact av.1 NG n (by rw[db];omega)
 exact rh a
theorem Yi(n:Nat):(⟨#[113]⟩:ByteArray)++⟨(jj n).toArray⟩=qn n:=by apply ByteArray.ext;rw[ByteArray.data_append];simp[qn]
theorem Rb(n:ByteArray) (s:Int):az C 106 [.str n,.int .i64 s]=some (enc (.mk 1 n s [])):=by
 refine bL func106 rfl λR a=>?_
 have b:fV C.P 41 [(0,.int .i64 1),(1,.str n),(2,.int .i64 s)]=some (.agg [.int .i64 1,.str n,.int .i64 s,.isl [] .full]):=by
  have e:∀(n:ByteArray) (s:Int),fV C.P 41 [(0,.int .i64 1),(1,.str n),(2,.int .i64 s)]=some (.agg [.int .i64 1,.str n,.int .i64 s,.isl [] .full]):=λn s=>k_
  exact e _ _
 have c:ah C.P [.cells [.int .i64 0,.str ⟨#[]⟩,.int .i64 0,.isl [] .full] .live] 41 (.ptr 0 0) (.agg [.int .i64 1,.str n,.int .i64 s,.isl [] .full])=some [.cells [.int .i64 1,.str n,.int .i64 s,.isl [] .full] .live]:=by simp[ah,s25]
 have d:aJ C.P [.cells [.int .i64 1,.str n,.int .i64 s,.isl [] .full] .live] 41 (.ptr 0 0)=some (.agg [.int .i64 1,.str n,.int .i64 s,.isl [] .full]):=by simp[aJ,aY,a25,s25]
 simp[go_sem,dP,zV,b,c,au];refine a ⟨.agg [.int .i64 1,.str n,.int .i64 s,.isl [] .full],by simp[ag,cO,f106,go_sem,d],?_⟩;exact aU (by rw[bV];rfl) rfl
theorem Ts(n:ByteArray) (s:Int) (h:H):aj C h (.func 106 []) (some [.str n,.int .i64 s])=some (enc (.mk 1 n s []),h):=an rfl rfl s_ (Rb n s)
def XP(x y:T) (l:Lb) (m:Nat) (st:PT) (h:H):Prop:=∃(k:Nat) (v:AV) (o:Lb) (d:Bool),m=l.length-k/\k<=l.length/\o.length<=k+d.toNat/\h[0]?=some (.cells (enc x).cells .live)/\h[1]?=some (.cells (enc y).cells .live)/\st.get 0=binds l/\st.get 4=.ptr 0 0/\st.get 5=.ptr 1 0/\st.get 7=v/\st.get 8=.bool d/\st.get 9=.int .i64 k /\
 OwnR 121 h v (o.map bT)/\lJ (x,y) l=(if d=true then o++l.drop k else o++lJ (x,y) (l.drop k))
theorem RE(x y:T) (l:Lb) (hx:x.size<4000000) (hy:y.size<4000000) (hs:small l) (hl:l.length<4000000) (hne:x.cmp y≠0):az C 73 [binds l,enc x,enc y]=some (binds (lJ (x,y) l)):=by
 refine bL func73 rfl λR Y=>?_
 have t:aJ C.P [.cells (enc x).cells .live,.cells (enc y).cells .live,.tok 0 121] 41 (.ptr 0 0)=some (enc x):=eY rfl;have D:aJ C.P [.cells (enc x).cells .live,.cells (enc y).cells .live,.tok 0 121] 41 (.ptr 1 0)=some (enc y):=eY rfl;have Z:=nH x y hx hy;simp[go_sem,nJ,t,D,Z,hne];refine bX (XP x y l) l.length ⟨0,.isl [] (.tok 3),[],false,rfl,aO _,s_,rfl,rfl,g_,g_,g_,g_,g_,g_,.inr ⟨3,rfl,rfl⟩,s_⟩ ?_;clear t D;rintro m st h ⟨k,v,o,d,rfl,hk,u,j,n,E,M,U,F,G,I,b,c⟩;have t:=eY j;have D:=eY n;have q':d.toNat<=1:=by cases d<;>decide
 by_cases a:k<l.length
 ·have e:(k:Int)<l.length:=o_;have w:aZ C.P 81 (binds l) (.int .i64 k)=some (.iptr (bT l[k]) 0):=yk l k a _;have hb:=hs _ (aG a);have N:=wS k o_;have z:=aI a;have s:=sX x l[k].1 hx hb.1;have V:=ki l[k];have⟨X,h1,A,J,p,q0⟩:=jd (ys:=[l[k]]) (x:=.full) b (by simp only[aL,bB];omega);simp only[aM,bM]at A;cases d
  ·by_cases q:x.cmp l[k].1<0
   ·have⟨v2,h2,f,g,i,O⟩:=jd (ys:=[(x,y)]) (x:=.full) b (by simp only[aL,bB];omega);have⟨v3,h3,K,Q,L,q1⟩:=jd (ys:=[l[k]]) (x:=.full) g (by simp only[aL,bB,List.length_append];omega);simp only[aM,bM]at f K;have S:=tz x y;simp[go_sem,E,M,U,F,G,I,sF,e,w,oQ,t,D,V,s,q,S,nr,fN,f,K,Mk,-Int.natCast_add,N];refine⟨l.length-(k+1),o_,k+1,v3,_,true,rfl,a,?_,L.get (i.get j (bn b j)) (bn g (i.get j (bn b j))),L.get (i.get n (bn b n)) (bn g (i.get n (bn b n))),g_,g_,g_,g_,g_,g_,Q,?_⟩
    ·simp at u ⊢;omega
    rw[c,z];simp[lJ,q]
   simp[go_sem,E,M,F,G,I,sF,e,w,oQ,t,V,s,q,nr,fN,A,Mk,-Int.natCast_add,N];refine⟨l.length-(k+1),o_,k+1,X,_,false,rfl,a,by simp at u ⊢;omega,p.get j (bn b j),p.get n (bn b n),g_,g_,g_,g_,g_,g_,J,?_⟩;rw[c,z];simp[lJ,q]
  simp[go_sem,E,M,F,G,I,sF,e,w,t,nr,fN,A,Mk,-Int.natCast_add,N];refine⟨l.length-(k+1),o_,k+1,X,_,true,rfl,a,by simp at u ⊢;omega,p.get j (bn b j),p.get n (bn b n),g_,g_,g_,g_,g_,g_,J,?_⟩;rw[c,z];simp
 have:k=l.length:=o_;subst this;have fin:∀(st:PT) (h:H) (r:Lb) (B:Ext),st.get 6=.isl (r.map bT) B->lJ (x,y) l=r->R .ret st h:=λst h r B h6 he=>by refine Y ⟨.isl (r.map bT) B,by simp[ag,cO,f73,h6],?_⟩;rw[he];exact aU rfl rfl
 cases d
 ·have⟨v2,h2,f,g,i,O⟩:=jd (ys:=[(x,y)]) (x:=.full) b (by simp only[aL,bB];omega);simp only[aM,bM]at f;obtain⟨B,rfl⟩:=g.isl;have S:=tz x y;simp[go_sem,E,M,U,F,G,I,sF,t,D,S,nr,fN,f];exact fin _ _ (o++[(x,y)]) B g_ (by rw[c];simp[lJ])
 obtain⟨B,rfl⟩:=b.isl;simp[go_sem,E,F,G,I,sF];exact fin _ _ o B g_ (by rw[c];simp)
theorem Qv(x y:T) (l:Lb) (e:Ext) (hx:x.size<4000000) (hy:y.size<4000000) (hs:small l) (hl:l.length<4000000) (hne:x.cmp y≠0) (h:H):aj C h (.func 73 []) (some [.isl (l.map bT) e,enc x,enc y])=some (binds (lJ (x,y) l),h):=
 an (args':=[binds l,enc x,enc y]) (by rw[bV x,bV y];rfl) (by simp[bF];rfl) s_ (RE x y l hx hy hs hl hne)
theorem Dp(x y:Operand) (a b:ByteArray) (hs:a.size+b.size<9223372036854775807):jU C.P .add 9 x y (.str a) (.str b)=some (.str (a++b)):=by
 have e:dA C.P (do eqGuard BinOp.add 9 x y (.string a) (.string b);binOp .add 9 (.string a) (.string b))=some (.string (a++b)):=by have c:¬(9223372036854775807:Int)<(a.size:Int)+b.size:=o_;simp[eqGuard,binOp,Op.stringOp,c];try rfl
 simp only[jU,fI,cn,e,fR,eX]
theorem An(n:Nat):(jj n).length<=3:=by unfold jj;split<;>(try split)<;>simp
theorem UK(x y:Operand) (n:Nat):jU C.P .add 9 x y (.str ⟨#[113]⟩) (.str ⟨(jj n).toArray⟩)=some (.str (qn n)):=by
 rw[Dp,Yi];have a:(⟨#[113]⟩:ByteArray).size=1:=rfl;have b:(⟨(jj n).toArray⟩:ByteArray).size=(jj n).length:=by simp[ByteArray.size]
 have:=An n;omega
theorem mn{n:Nat}:∀ {l:Lq},(∀t∈l,t.size<=n)->sizes l<=n*l.length
 |[],_=>by simp[sizes]
 |a::l,h=>by
  have h1:=h a bv;have c:=mn λt b=>h t (bP _ b)
  rw[sizes,aL,Nat.mul_succ];omega
theorem len_sizes:∀l:Lq,l.length<=sizes l
 |[]=>by simp[sizes]
 |a::l=>by have:=size_pos a;have:=len_sizes l;rw[sizes,aL];omega
def sE(ns:List ByteArray):List (AV × AV):=ns.map λn=>(.str n,.bool true)
def NE(ns:List ByteArray) (i:Nat):List MapEntry:=ns.zipIdx i |>.map λp=>{key:=.string p.1,val:=.int .i64 p.2,born:=0}
theorem Rq:∀(ns:List ByteArray) (i:Nat),ju (sE ns) i=some (NE ns i)
 |[],i=>rfl
 |n::ns,i=>by have ih:=Rq ns (i+1);simp only[sE,NE,aM]at ih ⊢;simp only[ju,ih,fI,cn,List.zipIdx_cons,aM]
theorem Rw(s:ByteArray):∀(ns:List ByteArray) (i j:Nat),∃r,Instr.findNow .string (.string s) (NE ns i) j=some r/\(s∈ns->∃k v,r=some (j+k,v)/\ns[k]?=some s)/\(s∉ns->r=none)
 |[],i,j=>⟨none,rfl,s_,λ_=>rfl⟩
 |n::ns,i,j=>by
  have⟨r,h1,h2,h3⟩:=Rw s ns (i+1) (j+1);have e:Instr.sameNow .string (.string s) (.string n)=some (decide (s=n)):=by rw[<-UB];rfl
  have u:Instr.findNow .string (.string s) (NE (n::ns) i) j=(match Instr.sameNow .string (.string s) (.string n)with
   |some true=>some (some (j,.int .i64 (i:Nat)))
   |some false=>Instr.findNow .string (.string s) (NE ns (i+1)) (j+1)
   |none=>none):=rfl
  rw[u,e];by_cases q:s=n
  ·rw[decide_eq_true q];exact⟨_,rfl,λ_=>⟨0,_,rfl,by simp[q]⟩,λh=>absurd (by rw[q];exact bv) h⟩
  rw[decide_eq_false q];refine⟨r,h1,λh=>?_,λh=>h3 λa=>h (bP _ a)⟩;have⟨k,v,e,b⟩:=h2 ((aV.1 h).resolve_left q);exact⟨k+1,v,by rw[e];congr 2;omega,by simpa using b⟩
theorem ck9(b:Bool) (a:ByteArray):dA prog (Instr.checkKey b 10000 9 (.string a))=some ():=by cases b<;>kernel_rfl
theorem Rv(b:Bool) (s:ByteArray) (ns:List ByteArray):∃r,qV prog b 9 (.str s) (sE ns)=some r/\(s∈ns->∃k,r=some k/\ns[k]?=some s)/\(s∉ns->r=none):=by
 have⟨r,a,c,d⟩:=Rw s ns 0 0;refine⟨r.map (·.1),?_,λh=>?_,λh=>by rw[d h];rfl⟩
 ·have f:fI (.str s)=some (.string s):=rfl;unfold qV;rw[f,Rq];dsimp only;unfold Fh;rw[eE,ck9];simp only[cZ];unfold Instr.findKey;rw[eE,rD underlying9];simp only[cZ,a];rfl
 have⟨k,v,e,g⟩:=c h;exact⟨k,by rw[e];simp,g⟩
theorem U9:C.P.underlying 180=some (.map 9 4):=underlying180
theorem Vd{h:H}{q:Nat}{ns:List ByteArray}(s:ByteArray) (hq:h[q]?=some (.map (sE ns))):mH C.P h 180 (.mp q) (.str s) false=some (.bool (tO s ns)):=by
 have⟨r,b,c,d⟩:=Rv (sE ns).isEmpty s ns;unfold mH;rw[U9];dsimp only;rw[hq];dsimp only;rw[show qV C.P (sE ns).isEmpty 9 (.str s) (sE ns)=some r from b];cases a:tO s ns
 ·rw[d (memN_not.1 a)];dsimp only;rw[show iV C.P 4=some (.bool false)from zv4];rfl
 obtain⟨k,rfl,e⟩:=c (memN_iff.1 a);have:(sE ns)[k]?=some (.str s,.bool true):=by simp[sE,e]
 simp[this]
theorem U7{h:H}{q:Nat}{ns:List ByteArray}(s:ByteArray) (hq:h[q]?=some (.map (sE ns))):∃ns',er C.P h 180 (.mp q) (.str s) (.bool true)=some (h.set q (.map (sE ns')))/\∀x,x∈ns'↔x=s\/x∈ns:=by
 have⟨r,c,d,f⟩:=Rv false s ns;unfold er;rw[U9];dsimp only;rw[hq];dsimp only;rw[show qV C.P false 9 (.str s) (sE ns)=some r from c];by_cases a:s∈ns
 ·obtain⟨k,rfl,g⟩:=d a;have b:(sE ns)[k]?=some (.str s,.bool true):=by simp[sE,g]
  refine⟨ns,?_,λx=>⟨.inr,λh=>h.elim (λe=>by rw[e];exact a) id⟩⟩;have i:(sE ns).set k (.str s,.bool true)=sE ns:=by
   apply dB;intro j;rw[fz];split
   ·rename_i e;subst e;have:=(aB.1 b).1;rw[if_pos this,b]
   rfl
  have l:Instr.sameBits 10000 (.string s) (.string s)=true:=by
   have:∀n,Instr.sameBits (n+1) (.string s) (.string s)=(s==s):=λn=>by simp[Instr.sameBits]
   rw[this 9999,UB];simp
  simp only[b,fI,cn,l,i,au];rfl
 rw[f a];refine⟨ns++[s],?_,λx=>by rw[aK,aS];exact or_comm⟩;simp[fI,cn,au,sE]
theorem Po{n:Nat}(hn:n<1000):az C 132 [.int .i64 n]=some (.str ⟨(jj n).toArray⟩):=by
 have a:C.prim 132 [.int .i64 n] []=some (.str ⟨(jj n).toArray⟩,[]):=by
  have b:C.prim 132 [.int .i64 n] []=tI [.int .i64 n] []:=by have:C.prim=Go.VZ.prim:=rfl;rw[this];unfold Go.VZ.prim;rw[if_neg d_,if_neg d_,if_neg d_,if_neg d_,if_pos rfl]
  have c:(0:Int)<=n/\(n:Int)<1000:=o_;rw[b,tI,if_pos c];rfl
 have d:Go.V.Call C 132 [.int .i64 n] []=some (.str ⟨(jj n).toArray⟩,[]):=kK (C:=C) (fn:=f132) func132 a;unfold az;rw[d];rfl
theorem Qo{n:Nat}(hn:n<1000) (h:H):aj C h (.func 132 []) (some [.int .i64 n])=some (.str ⟨(jj n).toArray⟩,h):=an rfl rfl s_ (Po hn)
theorem Gw{s:ByteArray}{l m:List ByteArray}(h:∀x,x∈l↔x∈m):tO s l=tO s m:=by rw[fc,memN_iff,memN_iff];exact h s
theorem Qa(fs:List Fa) (x:Ext) (hs:∀t∈cC fs,t.size<4000000) (hl:sizes (cC fs)<=10000) (hfl:fs.length<=10000) (hne:cC fs≠[]) (h:H):aj C h (.func 24 []) (some [.isl (fs.map aQ) x])=some (terms (Dv fs),h):=an (args':=[bK fs]) rfl (by simp[short]) s_ (LV fs hs hl hfl hne)
theorem I5(l:Lb) (f:Fa) (x:Ext) (hs:small l) (hl:l.length<4000000) (hv:smallT f.terms) (h:H):aj C h (.func 95 []) (some [.isl (l.map bT) x,aQ f])=some (aQ (cD l f),h):=an (args':=[binds l,aQ f]) rfl (by simp[short];rfl) s_ (Rh l f hs hl hv)
theorem ME{e:TypeId}{h:H}{v:AV}{xs:LA}(o:OwnR e h v xs){i:Nat}{x:VObj}(hi:h[i]?=some x) (hx:∀u ty,x≠.tok u ty):cG v≠some i:=by
 intro b;rcases o with rfl|⟨id,rfl,a⟩
 ·cases b
 simp only[cG,aA]at b;subst b;rw[hi]at a;simp only[aA]at a;exact hx _ _ a
theorem ZN(n:ByteArray) (s:Int):fV C.P 41 [(0,.int .i64 1),(1,.str n),(2,.int .i64 s)]=some (.agg [.int .i64 1,.str n,.int .i64 s,.isl [] .full]):=by
 have e:∀(n:ByteArray) (s:Int),fV C.P 41 [(0,.int .i64 1),(1,.str n),(2,.int .i64 s)]=some (.agg [.int .i64 1,.str n,.int .i64 s,.isl [] .full]):=λn s=>k_
 exact e _ _
def Sq(x:T) (n:ByteArray) (s:Int):AV:=.agg [.int .i64 x.kind,.str x.name,.int .i64 x.sort,terms x.kids,.int .i64 1,.str n,.int .i64 s,.isl [] .full]
theorem ZO(x:T) (n:ByteArray) (s:Int):fV C.P 121 [(0,enc x),(1,.agg [.int .i64 1,.str n,.int .i64 s,.isl [] .full])]=some (Sq x n s):=by
 rw[bV x];have e:∀(k s a:Int) (n b:ByteArray) (l:LA),fV C.P 121 [(0,.agg [.int .i64 k,.str n,.int .i64 s,.isl l .unk]),(1,.agg [.int .i64 1,.str b,.int .i64 a,.isl [] .full])]=some (.agg [.int .i64 k,.str n,.int .i64 s,.isl l .unk,.int .i64 1,.str b,.int .i64 a,.isl [] .full]):=λk s a n b l=>k_
 exact e _ _ _ _ _ _
theorem Ty(h:H) (x:T) (n:ByteArray) (s:Int):cQ C.P h 81 1 [(0,Sq x n s)]=some (.isl [bT (x,.mk 1 n s [])] .full,h):=cY u46 s86 z86 rfl o_ rfl rfl rfl s_ rfl
theorem ntA(l:LA):au (.agg l)=true:=rfl
theorem ntI(k:IntKind) (n:Int):au (.int k n)=true:=rfl
theorem ntS(s:ByteArray):au (.str s)=true:=rfl
theorem Ym(x:T) (n:ByteArray) (s:Int):au (Sq x n s)=true:=rfl
def Ds(c:Cl) (f:Fa) (ns:List ByteArray) (st:PT) (h:H):Prop:=h[0]?=some (.cells (clC c) .live)/\h[1]?=some (.cells (faC f) .live)/\h[2]?=some (.cells dU .live)/\h[3]?=some (.map (sE ns))/\st.get 2=.ptr 0 0/\st.get 3=.ptr 1 0/\st.get 4=.ptr 2 0/\st.get 5=.mp 3
def Xu(c:Cl) (f:Fa) (own:Lq) (m:Nat) (st:PT) (h:H):Prop:=∃(k:Nat) (ns:List ByteArray),m=own.length-k/\k<=own.length/\Ds c f ns st h/\(∀x,x∈ns↔x∈(own.take k).map T.name)/\st.get 18=terms own/\st.get 19=.int .i64 own.length/\st.get 20=.int .i64 k
def W7(c:Cl) (f:Fa) (ns:List ByteArray) (own vs:Lq) (L:Lb) (m:Nat) (st:PT) (h:H):Prop:=∃(k n:Nat) (v:AV),m=vs.length-k/\k<=vs.length/\NumQ (own.map T.name) k n/\L.drop k=gh (own.map T.name) (vs.drop k) n/\Ds c f ns st h /\
 st.get 8=v/\st.get 9=.int .i64 n/\st.get 30=terms vs/\st.get 31=.int .i64 vs.length/\st.get 32=.int .i64 k/\OwnR 121 h v ((L.take k).map bT)
def W8(c:Cl) (f:Fa) (ns:List ByteArray) (own vs:Lq) (L:Lb) (k n' i11:Nat) (x:T) (v:AV) (m:Nat) (st:PT) (h:H):Prop:=∃n:Nat,NumQ (own.map T.name) k n/\yX (own.map T.name) m n=n'/\(own.map T.name).length+1<=m+tkn (own.map T.name) n/\Ds c f ns st h/\h[i11]?=some (.cells (enc x).cells .live) /\
 st.get 8=v/\st.get 9=.int .i64 n/\st.get 11=.ptr i11 0/\st.get 30=terms vs/\st.get 31=.int .i64 vs.length/\st.get 32=.int .i64 k/\OwnR 121 h v ((L.take k).map bT)
def W6(c:Cl) (L:Lb) (i12:Nat) (x:Ext) (m:Nat) (st:PT) (h:H):Prop:=∃(k:Nat) (v:AV),m=c.body.length-k/\k<=c.body.length/\h[2]?=some (.cells dU .live)/\h[i12]?=some (.cells (v::faC (cD L c.head)) .live)/\st.get 4=.ptr 2 0/\st.get 8=.isl (L.map bT) x/\st.get 12=.ptr i12 0/\st.get 63=bK c.body/\st.get 64=.int .i64 c.body.length/\st.get 65=.int .i64 k /\
 OwnR 34 h v (((c.body.take k).map (cD L)).map aQ)
theorem OE(c:Cl) (f:Fa) (hc:okC c) (hf:∀t∈f.terms,t.size<=400) (hfl:f.terms.length<=20) (hfn:f.terms≠[]) (hsz:(bS (bN c)).length+(bS f.terms).length<=300):az C 120 [ai c,aQ f]=some (ai (fK (gh ((bS f.terms).map T.name) (bS (bN c)) 0) c)):=by
 refine oV rfl func120 rfl k_ (by simp[f120]) λR hR=>?_
 have I:cC [f]=f.terms:=by simp[cC]
 have y5:sizes f.terms<=10000:=by have:=mn (n:=400) hf;omega
 have S:=λh=>Qa [f] .full (by rw[I];exact λt X=>by have:=hf t X;omega) (by rw[I];exact y5) s_ (by rw[I];exact hfn) h
 rw[Bb [f] f.terms (λt=>by rw[I])]at S;have l1:aJ C.P [.cells (clC c) .live,.cells (faC f) .live,.cells dU .live,.map []] 34 (.ptr 1 0)=some (aQ f):=by simp[aJ,aY,a35,s35,faC,aQ]
 have w0:=hc.1;have Y:=hc.small;have x8:∀t∈bS f.terms,t.size<4000000:=pF λt X=>by have:=hf t X;omega
 have y6:∀t∈bS (bN c),t.size<=400:=λt X=>by have:=pF (n:=401) (λt X=>by have:=Y t X;omega) t X;omega
 have z':(bS (bN c)).Pairwise lt:=oX _;have c2:=Tq c (by have:=hc.1;omega);have c3:=hc.call49;have bx:=nI f;simp only[aM,bM]at S;have Z:∀f:Fa,au (aQ f)=true:=λ_=>rfl
 simp[go_sem,fk,bx,om,am,l1,Z,eI,S,dX];clear S l1 bx;have y7:((gh ((bS f.terms).map T.name) (bS (bN c)) 0).map (·.1)).Nodup:=by rw[nu];exact z'.imp fun {a b} h (e:a=b)=>AP (by rw[e]at h;exact h)
 have z0:=vf (own:=(bS f.terms).map T.name) (l:=bS (bN c)) (k:=0) (n:=0) (by simp;omega) ⟨aO _,d_⟩;have z1:=nu ((bS f.terms).map T.name) (bS (bN c)) 0;have y8:=Gn ((bS f.terms).map T.name) (bS (bN c)) 0;generalize hL:gh ((bS f.terms).map T.name) (bS (bN c)) 0=L at y7 z0 z1 y8 hR;generalize bS f.terms=own at *;generalize bS (bN c)=vs at *;have z2:(own.map T.name).length=own.length:=ax _;have z3:small L:=λb hb=>by
  have⟨m,_,e⟩:=z0 b hb;have h1:b.1∈vs:=by rw[<-z1];exact ae.2 ⟨b,hb,rfl⟩
  have:=y6 _ h1;exact⟨o_,by rw[e];simp[T.size,sizes]⟩
 refine bX (Xu c f own) own.length ⟨0,[],rfl,aO _,⟨rfl,rfl,rfl,rfl,g_,g_,g_,g_⟩,s_,g_,g_,g_⟩ ?_;rintro m st h ⟨k,ns,rfl,hk,⟨u,A,q,z,g2,g3,U,V⟩,J,z4,q',q0⟩;by_cases g:k<own.length
 ·have r:(k:Int)<own.length:=o_;have B:=dh own k g;have w2:=wS k o_;have D:ah C.P (h++[.cells zc .live]) 41 (.ptr h.length 0) (enc own[k])=some (h++[.cells (enc own[k]).cells .live]):=by rw[kM own[k] s_];simp
  obtain⟨w,j⟩:∃w,w=h++[VObj.cells (enc own[k]).cells .live]:=⟨_,rfl⟩
  have p3:w[3]?=some (.map (sE ns)):=by rw[j];exact ga z
  have l9:aJ C.P w 9 (.ptr h.length 1)=some (.str own[k].name):=by
   have:w[h.length]?=some (.cells (enc own[k]).cells .live):=by rw[j];simp
   rw[aq]at this;simp[aJ,this,aY,a9,s9]
  have⟨y9,u1,u2⟩:=U7 own[k].name p3;rw[<-j]at D;have x':=(aB.1 p3).1;simp[go_sem,V,z4,q',q0,r,B,ee,mV,D,l9,u1,-Int.natCast_add,w2];refine⟨own.length-(k+1),o_,k+1,y9,rfl,g,⟨?_,?_,?_,aD x',g_,g_,g_,g_⟩,λx=>?_,g_,g_,g_⟩
  ·rw[aC o_,j];exact ga u
  ·rw[aC o_,j];exact ga A
  ·rw[aC o_,j];exact ga q
  rw[u2,J,<-aW g,List.map_append,aK];simp;exact or_comm
 have q1:k=own.length:=o_;subst q1;rw[ak]at J;have l0:=jJ (h:=h++[.tok 0 121]) (ga u);simp[go_sem,g2,q',q0,l0,c2,c3,dX];refine bX (W7 c f ns own vs L) vs.length ⟨0,0,.isl [] (.tok h.length),rfl,aO _,⟨aO _,d_⟩,by simp[hL],⟨ga u,ga A,ga q,ga z,g_,g_,g_,g_⟩,g_,g_,g_,g_,g_,.inr ⟨h.length,s_,s_⟩⟩ ?_;clear u A q z g2 g3 U V z4 q' q0 l0 hk g;rintro m st h ⟨k,n,v,rfl,hk,d,E,⟨u,A,q,z,g2,g3,U,V⟩,g8,g9,K,F,y,p⟩;by_cases g:k<vs.length
 ·have r:(k:Int)<vs.length:=o_;have B:=dh vs k g;obtain⟨n',M⟩:∃n',n'=nQ (own.map T.name) n:=⟨_,rfl⟩
  have⟨q2,G,_⟩:=zK o_ d;rw[aI g,gh,<-M]at E;rw[<-M]at q2 G;have z5:k<L.length:=o_;rw[aI z5]at E;have x0:L[k]=(vs[k],.mk 1 (qn n') vs[k].sort []):=(List.cons.inj E).1;have z6:L.drop (k+1)=gh (own.map T.name) (vs.drop (k+1)) (n'+1):=(List.cons.inj E).2;have x9:=G.le;have D:ah C.P (h++[.cells zc .live]) 41 (.ptr h.length 0) (enc vs[k])=some (h++[.cells (enc vs[k]).cells .live]):=by rw[kM vs[k] s_];simp
  simp[go_sem,K,F,y,r,B,ee,mV,D];refine bX (W8 c f ns own vs L k n' h.length vs[k] v) (own.length+1) ⟨n,d,by rw[M,nQ,z2],o_,⟨ga u,ga A,ga q,ga z,g_,g_,g_,g_⟩,s_,g_,g_,g_,g_,g_,g_,p.keep (Keep.append _ _ none) s_⟩ ?_;generalize h.length=i11;clear u A q z g2 g3 U V g8 g9 K F y d M p D;rintro m st h ⟨n,d,s,q3,⟨u,A,q,z,g2,g3,U,V⟩,N,g8,g9,q4,K,F,y,p⟩;have w3:=d.le;have w4:=F7 (own.map T.name) (nO d.2);have S:=Qo (n:=n) o_;have lk:=Vd (qn n) z;rw[Gw J]at lk;have w1:=wS n o_;match m,s,q3 with
  |0,s,q3=>omega
  |m+1,s,q3=>
   rw[yX]at s;cases hm:tO (qn n) (own.map T.name)
   ·rw[hm,if_neg s_]at s;subst s;rw[hm]at lk;have w2:=wS k o_;have lx:=eY N;have ls:=G3 N;have⟨v',w,z7,ho,O,w5⟩:=jd (ys:=[(vs[k],T.mk 1 (qn n) vs[k].sort [])]) (x:=.full) p (by simp only[bU,aL,bB];omega);have q5:L.take k++[(vs[k],T.mk 1 (qn n) vs[k].sort [])]=L.take (k+1):=by rw[<-aW z5,x0]
    rw[q5]at ho;simp only[aM,bM]at z7;simp[go_sem,V,g9,S,UK,lk];refine eQ 14 _ (by simp[gM]) rfl ?_;simp[go_sem,g8,g9,q4,y,S,UK,lx,ls,ZN,ZO,Ty,Ym,dZ,ntA,ntI,ntS,z7,-Int.natCast_add,w1,w2];refine⟨?_,vs.length-(k+1),o_,k+1,n+1,v',rfl,g,d.use o_,z6,⟨O.get u (bn p u),O.get A (bn p A),O.get q (bn p q),O.get z (ME p z (λ_ _ e=>by cases e)),g_,g_,g_,g_⟩,g_,g_,g_,g_,g_,ho⟩;have z8:=bn p N;rcases p with rfl|⟨id,rfl,hd⟩
    ·simp[go_sem,q4,ff,fL,fP,iC,dy,cF]
    simp only[cG,ne_eq,aA]at z8;simp[go_sem,q4,ff,fL,fP,iC,dy,cF]
    (try omega)
   rw[hm,if_pos rfl]at s;rw[hm]at lk;have h3:=wJ (own.map T.name) n;rw[hm,if_pos rfl]at h3;simp[go_sem,V,g9,S,UK,lk,-Int.natCast_add,w1];exact⟨m,o_,n+1,d.skip o_ hm,s,o_,⟨u,A,q,z,g_,g_,g_,g_⟩,N,g_,g_,g_,g_,g_,g_,p⟩
 have q1:k=vs.length:=o_;subst q1;rw[bJ o_]at p;obtain⟨x,rfl⟩:=p.isl;have lh:=lQ u;have cA:=λh=>I5 L c.head x z3 o_ (hc.smallT _ (by simp[aN])) h
 have bl:=CN (cD L c.head);have D:=H7 (h:=h) (cD L c.head) (.isl [] .full) rfl;have lb:=jn (h:=h++[.cells (.isl [] .full::faC (cD L c.head)) .live]) (ga u);have x1:=iu c.body;simp[go_sem,g2,g8,F,y,lh,cA,Z,bl,om,am,D,lb,x1];refine bX (W6 c L h.length x) c.body.length ⟨0,.isl [] .full,rfl,aO _,ga q,s_,g_,g_,g_,g_,g_,g_,.inl rfl⟩ ?_;have x3:2<h.length:=(aB.1 q).1;generalize h.length=i12 at x3;clear u A q z g2 g3 U V g8 g9 K F y p lh cA bl D lb hk g d E J;rintro m st h ⟨k,v,rfl,hk,q,q6,U,g8,z9,x4,y',q7,p⟩;have w6:au v=true:=by obtain⟨x,rfl⟩:=p.isl;rfl
 by_cases g:k<c.body.length
 ·have r:(k:Int)<c.body.length:=o_;have B:aZ C.P 29 (bK c.body) (.int .i64 k)=some (.iptr (aQ c.body[k]) 0):=kD c.body k g .unk;have x5:=ll c.body[k];have w2:=wS k o_;have ck:=λh=>I5 L c.body[k] x z3 o_ (hc.smallT _ (by simp[aN])) h
  have D:=yW c.body[k] h;have y0:=Rn c.body[k] h;have w':=(aB.1 q6).1;have w7:=(aB.1 q).1;obtain⟨w,j⟩:∃w,w=h++[VObj.cells (faC c.body[k]) .live]:=⟨_,rfl⟩
  have x6:w[h.length]?=some (.cells (faC c.body[k]) .live):=by rw[j];simp
  have q8:w[i12]?=some (.cells (v::faC (cD L c.head)) .live):=by rw[j];exact ga q6
  have n2:w[2]?=some (.cells dU .live):=by rw[j];exact ga q
  have Q:OwnR 34 w v (((c.body.take k).map (cD L)).map aQ):=by rw[j];exact p.keep (Keep.append _ _ none) s_
  have x7:aJ C.P w 29 (.ptr i12 0)=some v:=by simp[aJ,q8,aY,a33,s33]
  have⟨v',h',ha,Y,hw,y1,q9⟩:=wv (i:=i12) (o:=0) (cD L c.body[k]) Q q8 s_ (by simp;omega);have q5:(c.body.take k).map (cD L)++[cD L c.body[k]]=(c.body.take (k+1)).map (cD L):=by rw[<-aW g,List.map_append];rfl
  rw[q5]at hw;have y2:=bn Q q8;have y3:=bn Q x6;rw[<-j]at D y0;simp[go_sem,x4,y',q7,r,B,x5,qv,am,D,-Int.natCast_add];refine eQ 21 _ (by simp[gM]) rfl ?_;simp[go_sem,g8,z9,q7,x7,y0,ck,Z,eI,ha,Y,-Int.natCast_add,w2];refine⟨?_,c.body.length-(k+1),o_,k+1,v',rfl,g,y1 2 _ _ o_ n2,q9,g_,g_,g_,g_,g_,g_,hw⟩;rcases Q with rfl|⟨id,rfl,hd⟩
  ·simp[go_sem,ff,fL,fP,iC,dy,cF]
  simp only[cG,ne_eq,aA]at y2 y3;simp[go_sem,ff,fL,fP,iC,dy,cF]
  (try omega)
 have:k=c.body.length:=o_;subst this;rw[ak]at p;obtain⟨x2,rfl⟩:=p.isl;have e5:aJ C.P h 39 (.ptr i12 0)=some (.agg (.isl ((fK L c).body.map aQ) x2::faC (fK L c).head)):=by simp[aJ,q6,aY,a37,s37,fK,faC]
 have e6:=Le (fK L c) x2 q;have e7:=(aB.1 q).1;generalize y4:AV.agg (.isl ((fK L c).body.map aQ) x2::faC (fK L c).head)=zz at e5 e6;simp[go_sem,U,z9,y',q7,e5,e6];refine hR _ _ _ (.inr rfl) ⟨zz,?_,?_⟩
 ·simp[ag,cO,f120,go_sem,U,aJ,aD e7,aY,a37,s37,<-y4,faC]
 rw[<-y4];exact aU rfl rfl
theorem Qx(c:Cl) (f:Fa) (hc:okC c) (hf:∀t∈f.terms,t.size<=400) (hfl:f.terms.length<=20) (hfn:f.terms≠[]) (hsz:(bS (bN c)).length+(bS f.terms).length<=300) (h:H):aj C h (.func 120 []) (some [ai c,aQ f])=some (ai (fK (gh ((bS f.terms).map T.name) (bS (bN c)) 0) c),h):=an (args':=[ai c,aQ f]) rfl (by simp[jF];rfl) s_ (OE c f hc hf hfl hfn hsz)
def ixF{α:Type}(p:α->Bool):List α->Nat->Int
 |[],_=>-1
 |a::l,k=>if p a=true then(k:Int)else ixF p l (k+1)
theorem wj{α:Type}(p:α->Bool):∀(l:List α) (k:Nat),(ixF p l k = -1/\l.any p=false)\/(0<=ixF p l k/\l.any p=true)
 |[],_=>.inl ⟨rfl,rfl⟩
 |a::l,k=>by
  rw[ixF,mD];by_cases h:p a=true
  ·rw[if_pos h,h];exact .inr ⟨o_,rfl⟩
  rw[if_neg h];have h2:p a=false:=by simpa using h
  rw[h2,gQ];exact wj p l (k+1)
theorem Mq{α:Type}(p:α->Bool) (l:List α) (k:Nat):decide (ixF p l k<0) = !l.any p:=by
 rcases wj p l k with⟨b,a⟩|⟨b,a⟩
 ·rw[a];simp[b]
 rw[a];simp;omega
theorem S7{α:Type}(p:α->Bool) (l:List α) (k:Nat):decide (ixF p l k = -1) = !l.any p:=by
 rcases wj p l k with⟨b,a⟩|⟨b,a⟩
 ·rw[a];simp[b]
 rw[a];simp;omega
theorem S6{α:Type}(p:α->Bool) (l:List α) (k:Nat):decide (0<=ixF p l k)=l.any p:=by
 rcases wj p l k with⟨b,a⟩|⟨b,a⟩
 ·rw[a];simp[b]
 rw[a];simp;omega
def gU(f:Fa):Bool:=decide (f.kind=1)&&(match f.terms with
 |[]=>false
 |t::_=>decide (t.kind≠1))
theorem SU(f:Fa):az C 181 [aQ f]=some (.bool (gU f)):=by
 refine bL func181 rfl λR n=>?_
 have fin:∀(st:PT) (h:H) (b:Bool),st.get 2=.bool b->gU f=b->R .ret st h:=λst h b o p=>n ⟨.bool b,by simp[ag,cO,f181,o],by rw[p];exact aU rfl rfl⟩
 have i:=nI f;have j:aJ C.P [.cells (faC f) .live] 3 (.ptr 0 0)=some (.int .i64 f.kind):=rK rfl;have k:aJ C.P [.cells (faC f) .live] 32 (.ptr 0 2)=some (terms f.terms):=mY rfl;by_cases d:f.kind=1
 ·cases a:f.terms with
  |nil=>have e:=dX f.terms;rw[a]at e k;simp[go_sem,dP,i,j,k,d,e];exact fin _ _ false g_ (by simp[gU,a])
  |cons t l=>
   have e:=dX f.terms;have r:(0:Int)<f.terms.length:=by simp[a]
   have c:0<f.terms.length:=by simp[a]
   have q:f.terms[0]=t:=by simp[a]
   have g:aZ C.P 32 (terms f.terms) (.int .i64 0)=some (.iptr (enc t) 0):=by rw[<-q];exact dh f.terms 0 c
   have lt:=Ep t;by_cases m:t.kind=1
   ·simp[go_sem,dP,i,j,k,d,e,c,g,pL,lt,m];exact fin _ _ false g_ (by simp[gU,a,m])
   simp[go_sem,dP,i,j,k,d,e,c,g,pL,lt,m];exact fin _ _ true g_ (by simp[gU,a,d,m])
 simp[go_sem,dP,i,j,d];exact fin _ _ false g_ (by simp[gU,d])
theorem Qg(f:Fa) (h:H):aj C h (.func 181 []) (some [aQ f])=some (.bool (gU f),h):=an rfl rfl s_ (SU f)
def XK(p:Fa->Bool) (l:List Fa) (gv:AV) (m:Nat) (st:PT) (_h:H):Prop:=∃k:Nat,m=l.length-k/\k<=l.length/\st.get 0=bK l/\st.get 1=gv/\st.get 7=.int .i64 l.length/\st.get 8=.int .i64 k/\ixF p l 0=ixF p (l.drop k) k
theorem My(p:Fa->Bool) (l:List Fa) (gv:AV) (hl:l.length<4000000) (hg:∀f∈l,∀h,aj C h gv (some [aQ f])=some (.bool (p f),h)):az C 153 [bK l,gv]=some (.int .i64 (ixF p l 0)):=by
 refine bL func153 rfl λR hR=>?_
 have fin:∀(st:PT) (h:H) (e:Int),st.get 4=.int .i64 e->ixF p l 0=e->R .ret st h:=λst h e h2 he=>hR ⟨.int .i64 e,by simp[ag,cO,f153,h2],by rw[he];exact aU rfl rfl⟩
 have hln:=iu l;simp[go_sem,hln];refine bX (XK p l gv) l.length ⟨0,rfl,aO _,g_,g_,g_,g_,rfl⟩ ?_;rintro m st h ⟨k,rfl,hk,g0,g1,g7,g8,hd⟩;by_cases hlt:k<l.length
 ·have hlt':(k:Int)<l.length:=o_;have hix:aZ C.P 29 (bK l) (.int .i64 k)=some (.iptr (aQ l[k]) 0):=kD l k hlt .unk;have lf:=ll l[k];have cg:=hg _ (aG hlt);have w2:=wS k o_;rw[aI hlt,ixF]at hd;by_cases q:p l[k]=true
  ·simp[go_sem,g0,g1,g7,g8,hlt',hix,lf,cg,q];exact fin _ _ k g_ (by rw[hd,if_pos q])
  ·simp[go_sem,g0,g1,g7,g8,hlt',hix,lf,cg,q,-Int.natCast_add,w2]
   exact⟨l.length-(k+1),by omega,k+1,rfl,hlt,by simp[go_sem,g0],by simp[go_sem,g1],by simp[go_sem,g7],by simp[go_sem],by rw[hd,if_neg q]⟩
 have:k=l.length:=o_;subst this;simp[go_sem,g7,g8];exact fin _ _ (-1) g_ (by rw[hd];simp[ixF])
theorem JE(p:Fa->Bool) (l:List Fa) (gf:FuncId) (caps:LA) (hcap:nW caps=some caps) (hcl:caps.length<1000) (hl:l.length<4000000) (hg:∀f∈l,∀h,aj C h (.func gf caps) (some [aQ f])=some (.bool (p f),h)) (h:H):aj C h (.func 153 []) (some [bK l,.func gf caps])=some (.int .i64 (ixF p l 0),h):=
 an (args':=[bK l,.func gf caps]) (by
  have e:dat (.func gf caps)=some (.func gf caps):=by simp only[dat,hcap]
  simp only[iT,e];rfl) (by simp only[mF,List.all_nil,short,bK];simp;omega) s_ (My p l _ hl hg)
def kc(c:Cl):Bool:=decide (bY c=0) && !c.body.any gU
theorem EH(c:Cl) (hb:c.body.length<4000000):az C 150 [ai c]=some (.int .i64 (ixF gU c.body 0)):=by
 refine bL func150 rfl λR a=>?_
 have b:aJ C.P [.cells (clC c) .live] 29 (.ptr 0 0)=some (bK c.body):=jn rfl;have d:=JE gU c.body 181 [] rfl s_ hb (λf _ h=>Qg f h);simp[go_sem,dP,fk,b,d];exact a ⟨.int .i64 (ixF gU c.body 0),by simp[ag,cO,f150,go_sem],aU rfl rfl⟩
theorem Qn(c:Cl) (hb:c.body.length<4000000) (h:H):aj C h (.func 150 []) (some [ai c])=some (.int .i64 (ixF gU c.body 0),h):=an (oy c) (by simp[jF]) s_ (EH c hb)
theorem Jk(c:Cl) (hs:okF (aN c)) (hb:c.body.length<4000000):az C 119 [ai c]=some (.bool (kc c)):=by
 refine bL func119 rfl λR e=>?_
 have a:aJ C.P [.cells (clC c) .live] 39 (.ptr 0 0)=some (ai c):=jJ rfl;have d:=Nz c hs;have f:=Qn c hb;have g:=Mq gU c.body 0;have fin:∀(st:PT) (h:H) (b:Bool),st.get 2=.bool b->kc c=b->R .ret st h:=λst h b i hb=>e ⟨.bool b,by simp[ag,cO,f119,i],by rw[hb];exact aU rfl rfl⟩
 by_cases q:bY c=0
 ·simp[go_sem,dP,fk,a,d,f,q];exact fin _ _ (decide (ixF gU c.body 0<0)) g_ (by rw[g];simp[kc,q])
 simp[go_sem,dP,fk,a,d,q];exact fin _ _ false g_ (by simp[kc,q])
theorem Qy(c:Cl) (hs:okF (aN c)) (hb:c.body.length<4000000) (h:H):aj C h (.func 119 []) (some [ai c])=some (.bool (kc c),h):=an (oy c) (by simp[jF]) s_ (Jk c hs hb)
def R6(c:Cl) (m:Nat) (st:PT) (h:H):Prop:=∃k:Nat,m=c.body.length-k/\k<=c.body.length/\h[0]?=some (.cells (clC c) .live)/\st.get 1=.ptr 0 0/\st.get 3=.int .i64 k/\ixF gU c.body 0=ixF gU (c.body.drop k) k
theorem EI(c:Cl) (hb:c.body.length<4000000):az C 65 [ai c]=some (.int .i64 (ixF gU c.body 0)):=by
 refine bL func65 rfl λR I=>?_
 have fin:∀(st:PT) (h:H) (e:Int),st.get 2=.int .i64 e->ixF gU c.body 0=e->R .ret st h:=λst h e j J=>I ⟨.int .i64 e,by simp[ag,cO,f65,j],by rw[J];exact aU rfl rfl⟩
 simp[go_sem,fk];refine bX (R6 c) c.body.length ⟨0,rfl,aO _,rfl,g_,g_,rfl⟩ ?_;rintro m st h ⟨k,rfl,O,F,u,v,w⟩;have x:=jn F;have b:=iu c.body;by_cases n:k<c.body.length
 ·have a:(k:Int)<c.body.length:=o_;have d:aZ C.P 29 (bK c.body) (.int .i64 k)=some (.iptr (aQ c.body[k]) 0):=kD c.body k n .unk;have y:=ll c.body[k];have r:=yW c.body[k] h;have E:=wS k o_;rw[aI n,ixF]at w;generalize c.body[k]=f at d y r w;obtain⟨j,o⟩:∃j,j=h++[VObj.cells (faC f) .live]:=⟨_,rfl⟩
  have K:j[0]?=some (.cells (clC c) .live):=by rw[o];exact ga F
  have G:j[h.length]?=some (.cells (faC f) .live):=by rw[o];simp
  rw[<-o]at r;have A:=rK G;have B:=mY G;have next:gU f=false->∀g:PT,g.get 1=.ptr 0 0->g.get 3=.int .i64 (k+1:Nat)->∃m,m<c.body.length-k/\R6 c m g j:=λL g M a3=>⟨c.body.length-(k+1),o_,k+1,rfl,n,K,M,a3,by rw[w,if_neg (by simp[L])]⟩
  by_cases s:f.kind=1
  ·cases p:f.terms with
   |nil=>have z:=dX f.terms;rw[p]at z B;simp[go_sem,u,v,x,b,a,d,y,qv,am,r,A,B,s,z,-Int.natCast_add,E];exact next (by simp[gU,p]) _ g_ g_
   |cons t l=>
    have z:=dX f.terms;have Q:(0:Int)<f.terms.length:=by simp[p]
    have q:0<f.terms.length:=by simp[p]
    have N:f.terms[0]=t:=by simp[p]
    have i:aZ C.P 32 (terms f.terms) (.int .i64 0)=some (.iptr (enc t) 0):=by rw[<-N];exact dh f.terms 0 q
    have lt:=Ep t;by_cases D:t.kind=1
    ·simp[go_sem,u,v,x,b,a,d,y,qv,am,r,A,B,s,z,q,i,pL,lt,D,-Int.natCast_add,E];exact next (by simp[gU,p,D]) _ g_ g_
    simp[go_sem,u,v,x,b,a,d,y,qv,am,r,A,B,s,z,q,i,pL,lt,D];exact fin _ _ k g_ (by rw[w,if_pos (by simp[gU,p,s,D])])
  simp[go_sem,u,v,x,b,a,d,y,qv,am,r,A,s,-Int.natCast_add,E];exact next (by simp[gU,s]) _ g_ g_
 have:k=c.body.length:=o_;subst this;simp[go_sem,u,v,x,b];exact fin _ _ (-1) g_ (by rw[w];simp[ixF])
theorem JH(c:Cl) (hb:c.body.length<4000000) (h:H):aj C h (.func 65 []) (some [ai c])=some (.int .i64 (ixF gU c.body 0),h):=an (oy c) (by simp[jF]) s_ (EI c hb)
theorem Jl(c:Cl) (hs:okF (aN c)) (hb:c.body.length<4000000):az C 66 [ai c]=some (.bool (kc c)):=by
 refine bL func66 rfl λR e=>?_
 have a:aJ C.P [.cells (clC c) .live] 39 (.ptr 0 0)=some (ai c):=jJ rfl;have d:=qB c hs;have f:=JH c hb;have g:=S7 gU c.body 0;have fin:∀(st:PT) (h:H) (b:Bool),st.get 2=.bool b->kc c=b->R .ret st h:=λst h b i hb=>e ⟨.bool b,by simp[ag,cO,f66,i],by rw[hb];exact aU rfl rfl⟩
 by_cases q:bY c=0
 ·simp[go_sem,dP,fk,a,d,f,q];exact fin _ _ (decide (ixF gU c.body 0 = -1)) g_ (by rw[g];simp[kc,q])
 simp[go_sem,dP,fk,a,d,q];exact fin _ _ false g_ (by simp[kc,q])
theorem Q6(c:Cl) (hs:okF (aN c)) (hb:c.body.length<4000000) (h:H):aj C h (.func 66 []) (some [ai c])=some (.bool (kc c),h):=an (oy c) (by simp[jF]) s_ (Jl c hs hb)
def BU(r:Lb) (g:Int) (hd:Fa) (b:Fa):Bool:=decide (b.kind=2)&&decide (b.goal=g)&&decide ((cD r b).terms=hd.terms)
theorem WC(f:Fa):sK C.P 34 (aQ f) 2=some (terms f.terms):=by
 have e:∀(k g:Int) (l:LA),sK C.P 34 (.agg [.int .i64 k,.int .i64 g,.isl l .unk]) 2=some (.isl l .unk):=λk g l=>k_
 exact e _ _ _
theorem DG(e:AV):bp C.P 34 (.iptr e 0) 0=some (.iptr e 0):=k_
theorem Io(e:AV):bp C.P 34 (.iptr e 0) 1=some (.iptr e 1):=k_
theorem Rl(f:Fa) (h:H):aJ C.P h 3 (.iptr (.agg (faC f)) 1)=some (.int .i64 f.goal):=by simp[aJ,aY,a3,s3,faC,AV.cells]
theorem Ve(f:Fa) (h:H):aJ C.P h 32 (.iptr (.agg (faC f)) 2)=some (terms f.terms):=by simp[aJ,aY,a23,s23,faC,AV.cells]
theorem Yo(r:Lb) (h:H):aJ C.P h 81 (.iptr (.agg [binds r]) 0)=some (binds r):=by have a:gW C.P 81=some false:=k_;have z:cw C.P 81=some 1:=k_;simp[aJ,aY,a,z,AV.cells]
theorem Tj(b f hd:Fa) (r:Lb) (hr:small r) (hrl:r.length<4000000) (hb:smallT b.terms) (hb2:smallT (cD r b).terms) (hh:smallT hd.terms) :
  az C 123 [aQ b,.iptr (.agg (faC f)) 0,.iptr (.agg [binds r]) 0,.iptr (.agg (faC hd)) 0]=some (.bool (BU r f.goal hd b)):=by
 refine bL func123 rfl λR j=>?_
 have fin:∀(st:PT) (h:H) (e:Bool),st.get 5=.bool e->BU r f.goal hd b=e->R .ret st h:=λst h e k l=>j ⟨.bool e,by simp[ag,cO,f123,k],by rw[l];exact aU rfl rfl⟩
 have d:=nI b;have g:aJ C.P [.cells (faC b) .live] 3 (.ptr 0 0)=some (.int .i64 b.kind):=rK rfl;have i:aJ C.P [.cells (faC b) .live] 3 (.ptr 0 1)=some (.int .i64 b.goal):=vC rfl;have m:aJ C.P [.cells (faC b) .live] 34 (.ptr 0 0)=some (aQ b):=by simp[aJ,aY,a35,s35,faC,aQ]
 have n:=Nx r b hr hrl hb;have o:=N4 (cD r b).terms hd.terms hb2 hh;by_cases a:b.kind=2
 ·by_cases c:b.goal=f.goal
  ·simp[go_sem,dP,d,g,i,m,Io,sL,Rl,Ve,Yo,n,o,WC,a,c];exact fin _ _ (decide ((cD r b).terms=hd.terms)) g_ (by simp[BU,a,c])
  simp[go_sem,dP,d,g,i,Io,Rl,a,c];exact fin _ _ false g_ (by simp[BU,c])
 simp[go_sem,dP,d,g,a];exact fin _ _ false g_ (by simp[BU,a])
theorem FK(p:Fa->Bool) (l:List Fa) (gf:FuncId) (caps:LA) (hcap:nW caps=some caps) (hcl:caps.length<1000) (hl:l.length<4000000) (hg:∀f∈l,∀h,aj C h (.func gf caps) (some [aQ f])=some (.bool (p f),h)):az C 122 [bK l,.func gf caps]=some (.bool (l.any p)):=by
 refine bL func122 rfl λR a=>?_
 have b:=JE p l gf caps hcap hcl hl hg;have c:=S6 p l 0;simp[go_sem,dP,b];exact a ⟨.bool (l.any p),by simp[ag,cO,f122,go_sem,<-c],aU rfl rfl⟩
theorem nw{l:Lq}{t v:T}(ht:t∈l) (hv:v∈bm bD t) (hk:v.kind=1):v∈bS l:=
 mem_setS.2 (bR.2 ⟨t,ht,mem_setS.2 (cE.2 ⟨hv,by simp[isK,hk]⟩)⟩)
theorem mW{l:Lq}{v:T}(h:v∈bS l):v.kind=1:=by have⟨t,_,h⟩:=bR.1 (mem_setS.1 h);have:=(cE.1 (mem_setS.1 h)).2;simpa[isK]using this
theorem kl{c:Cl}{f:Fa}(hf:f∈aN c){t:T}(ht:t∈f.terms):t∈bN c:=(gb c t).1 (bR.2 ⟨f,hf,ht⟩)
theorem EQ{l:Lb}(hg:∀v:T,v.kind=1->v.kids=[]->(dp l v).kind=1/\(dp l v).kids=[]):∀t:T,jI t->∀u∈bm bD (cy l t),u.kind=1->∃v∈bm bD t,v.kind=1/\u=dp l v:=by
 refine T.ind λt h e u b f=>?_
 rw[fh]at b;by_cases k:t.kind=1
 ·rw[if_pos k]at b;have c:=hg t k (e t (dD t) k);rcases mem_walk.1 b with rfl|⟨a,d,_⟩
  ·exact⟨t,dD t,k,rfl⟩
  rw[c.2]at d;simp at d
 rw[if_neg k]at b;rcases mem_walk.1 b with rfl|⟨a,d,i⟩
 ·exact absurd f k
 obtain⟨g,c,rfl⟩:=ae.1 d;have⟨v,j,m,n⟩:=h g c (kI e c) u i f;exact⟨v,mem_walk.2 (.inr ⟨g,c,j⟩),m,n⟩
theorem Bx{l:Lb}(hn:∀b∈l,∃m,m<1000/\b.2=.mk 1 (qn m) b.1.sort []):∀v:T,v.kind=1->v.kids=[]->(dp l v).kind=1/\(dp l v).kids=[]:=λv a c=>by
 rcases iF l v with h|⟨b,d,_,h⟩
 ·rw[h];exact⟨a,c⟩
 have⟨m,_,e⟩:=hn b d;rw[h,e];exact⟨rfl,rfl⟩
theorem okC.okF{c:Cl}(hc:okC c):Go.VZ.okF (aN c):=λf a=>by have⟨_,b⟩:=hc.smallT f a;have:=(hc.2.2 f a).2.1;exact⟨b,o_⟩
structure Pr (c:Cl) (f:Fa):Prop where
 hc:bY c=0
 hw:okC c
 hf:eZ f=0
 hz:sizes f.terms<=60
 vars:(bS (bN c)).length+(bS f.terms).length<=300
noncomputable def apC(c:Cl) (f:Fa):Cl:=fK (gh ((bS f.terms).map T.name) (bS (bN c)) 0) c
def oB(c:Cl) (f:Fa):Bool:=kc c&&decide (c.head.kind=f.kind)&&decide (c.head.goal=f.goal)&&decide (c.head.terms.length=f.terms.length)
def UnR(c:Cl) (f:Fa) (r:Lb) (e:Int):Prop:=az C 112 [binds ((apC c f).head.terms.zip f.terms)]=some (.tuple [binds r,.int .i64 e])/\az C 121 [terms (apC c f).head.terms,terms f.terms]=some (.tuple [binds r,.int .i64 e])/\(e=0\/e=3\/e=11\/e=12)/\(∀b∈r,bA b.1=0/\bA b.2=0)/\r.length<=300
section
variable {c:Cl}{f:Fa}
theorem Pr.okc(p:Pr c f):okC c:=p.hw
theorem Pr.fact(p:Pr c f):f.terms≠[]/\f.terms.length<=8/\∀t∈f.terms,bA t=0:=eS p.hf
theorem Pr.f400(p:Pr c f):∀t∈f.terms,t.size<=400:=λt a=>(bg (p.fact.2.2 t a)).2.1
theorem Pr.names(p:Pr c f):∀b∈gh ((bS f.terms).map T.name) (bS (bN c)) 0,∃m,m<1000/\b.2=.mk 1 (qn m) b.1.sort []:=vf (k:=0) (by have:=p.vars;rw[ax];omega) ⟨aO _,d_⟩
theorem Pr.cval(p:Pr c f):∀g∈aN c,∀t∈g.terms,bA t=0:=λg a=>(eS ((dH p.hc).2 g a)).2.2
theorem Pr.apval(p:Pr c f):∀g∈aN (apC c f),g.terms.length<=8/\∀t∈g.terms,bA t=0:=by
 have b:∀g∈aN c,(cD (gh ((bS f.terms).map T.name) (bS (bN c)) 0) g).terms.length<=8/\∀t∈(cD (gh ((bS f.terms).map T.name) (bS (bN c)) 0) g).terms,bA t=0:=by
  intro g a;refine⟨?_,λt d=>?_⟩
  ·have:=(eS ((dH p.hc).2 g a)).2.1;simpa[cD]using this
  obtain⟨u,e,rfl⟩:=ae.1 d;exact(Cg p.names (p.cval g a u e)).1
 intro g a;rcases aK.1 a with a|a
 ·obtain⟨h,i,rfl⟩:=ae.1 a;exact b h (aa _ i)
 simp only[aS]at a;subst a;exact b c.head (by simp[aN])
theorem oN{l:Lq}{v:T}(h:v∈bS l):∃t∈l,v∈bm bD t:=by have⟨t,a,h⟩:=bR.1 (mem_setS.1 h);exact⟨t,a,(cE.1 (mem_setS.1 h)).1⟩
theorem Pr.cterm(p:Pr c f):∀t∈bN c,bA t=0:=λt a=>by have⟨g,b,a⟩:=bR.1 ((gb c t).2 a);exact p.cval g b t a
theorem Pr.unif(p:Pr c f) (hl:c.head.terms.length=f.terms.length):∃r e,UnR c f r e:=by
 have m:(apC c f).head∈aN (apC c f):=by simp[aN]
 have j:=p.apval _ m;have d:(apC c f).head.terms.length=f.terms.length:=by simpa[apC,fK,cD]using hl
 refine Gy (U:=(bS (bN c)).map (dp (gh ((bS f.terms).map T.name) (bS (bN c)) 0))++bS f.terms) j.2 p.fact.2.2 d j.1 (λu a h=>?_) (λu a=>?_) (by rw[List.length_append,ax];exact p.vars)
 ·have⟨t,b,g⟩:=h;rcases aK.1 b with b|b
  ·obtain⟨k,l,rfl⟩:=ae.1 b;obtain⟨v,n,o,rfl⟩:=EQ (Bx p.names) k (eD (p.cval c.head (by simp[aN]) k l)) u g a;exact aa _ (df (nw (kl (by simp[aN]) l) n o))
  exact bk _ (nw b g a)
 rcases aK.1 a with a|a
 ·obtain⟨v,i,rfl⟩:=ae.1 a;have⟨t,b,g⟩:=oN i;exact(Bx p.names v (mW i) (eD (p.cterm t b) v g (mW i))).1
 exact mW a
theorem Pr.apsmall(p:Pr c f):∀g∈aN (apC c f),smallT g.terms:=λg a=>⟨by have:=(p.apval g a).1;omega,λt b=>by have:=(bg ((p.apval g a).2 t b)).2.1;omega⟩
theorem Pr.putsmall(p:Pr c f){r:Lb}(hr:∀b∈r,bA b.1=0/\bA b.2=0):∀g∈aN (apC c f),smallT (cD r g).terms:=λg a=>by refine⟨by have:=(p.apval g a).1;simp[cD];omega,λt d=>?_⟩;obtain⟨u,e,rfl⟩:=ae.1 d;have i:=uS r (λb h=>(bg (hr b h).2).2.1) u;have j:=(bg ((p.apval g a).2 u e)).2.1;omega
end
theorem D7{r:Lb}(hr:∀b∈r,bA b.1=0/\bA b.2=0):small r:=λb a=>⟨by have:=(bg (hr b a).1).2.1;omega,by have:=(bg (hr b a).2).2.1;omega⟩
theorem Qw(l m:Lq) (v:AV) (hs:az C 121 [terms l,terms m]=some v) (h:H):aj C h (.func 121 []) (some [terms l,terms m])=some (v,h):=an rfl (by simp[tC]) s_ hs
theorem SA:iV C.P 81=some (.isl [] .full):=k_
noncomputable def nX(c:Cl) (f:Fa) (r:Lb) (e:Int):Bool × Bool:=if oB c f=true then(decide (e=0\/e=3),decide (e=0)&&(apC c f).body.any (BU r f.goal (cD r (apC c f).head)))else(false,false)
theorem QQ{c:Cl}{f:Fa}(p:Pr c f) (r:Lb) (e:Int) (hu:oB c f=true->UnR c f r e):az C 81 [ai c,aQ f]=some (.tuple [.bool (nX c f r e).1,.bool (nX c f r e).2]):=by
 refine bL func81 rfl λR hR=>?_
 have fin:∀(st:PT) (h:H) (a b:Bool),st.get 4=.bool a->st.get 5=.bool b->nX c f r e=(a,b)->R .ret st h:=λst h a b h4 h5 he=>hR ⟨.tuple [.bool a,.bool b],by simp[ag,gk,cO,f81,h4,h5],by rw[he];exact du rfl rfl s_⟩
 have n:=nI f;have q7:=p.okc.1;obtain⟨y,o⟩:∃g:H,g=[.cells (clC c) .live,.cells (faC f) .live]:=⟨_,rfl⟩
 have M:y[0]?=some (.cells (clC c) .live):=by rw[o];rfl
 have N:y[1]?=some (.cells (faC f) .live):=by rw[o];rfl
 have j:=jJ M;have s:aJ C.P y 3 (.ptr 0 1)=some (.int .i64 c.head.kind):=by simp[aJ,M,aY,a3,s3,clC,faC]
 have w:aJ C.P y 3 (.ptr 0 2)=some (.int .i64 c.head.goal):=by simp[aJ,M,aY,a3,s3,clC,faC]
 have A:=Ib M;have t:=rK N;have x:=vC N;have B:=mY N;have O:=dX f.terms;have E:=dX c.head.terms;have Q:aJ C.P y 34 (.ptr 1 0)=some (aQ f):=by simp[aJ,N,aY,a35,s35,faC,aQ]
 rw[o]at j s w A t x B Q;have u:=Qy c (p.okc.okF) o_;by_cases d:kc c=true
 rotate_left
 ·simp[go_sem,dP,fk,n,j,u,d];exact fin _ _ false false g_ g_ (by simp[nX,oB,d])
 by_cases k:c.head.kind=f.kind
 rotate_left
 ·simp[go_sem,dP,fk,n,j,u,d,s,t,k];exact fin _ _ false false g_ g_ (by simp[nX,oB,k])
 by_cases v:c.head.goal=f.goal
 rotate_left
 ·simp[go_sem,dP,fk,n,j,u,d,s,t,k,w,x,v];exact fin _ _ false false g_ g_ (by simp[nX,oB,v])
 by_cases U:c.head.terms.length=f.terms.length
 rotate_left
 ·have V:¬(c.head.terms.length:Int)=f.terms.length:=o_;simp[go_sem,dP,fk,n,j,u,d,s,t,k,w,x,v,A,B,E,O,V];exact fin _ _ false false g_ g_ (by simp[nX,oB,U])
 have hg:oB c f=true:=by simp[oB,d,k,v,U]
 have⟨_,F,q0,m,q8⟩:=hu hg;rw[U]at E;have G:=Qx c f p.okc p.f400 (by have:=p.fact.2.1;omega) p.fact.1 p.vars;rw[show fK (gh ((bS f.terms).map T.name) (bS (bN c)) 0) c=apC c f from rfl]at G;have c3:=Qw _ _ _ F;have X:=p.apsmall;have Y:=p.putsmall m;have I:(apC c f).body.length<4000000:=by
  have:(apC c f).body.length=c.body.length:=by simp[apC,fK]
  omega
 have i:nX c f r e=(decide (e=0\/e=3),decide (e=0)&&(apC c f).body.any (BU r f.goal (cD r (apC c f).head))):=by rw[nX,if_pos hg]
 generalize apC c f=D at G c3 X Y i I;have n1:([.cells (clC D) .live,.cells (faC f) .live]:H)[1]?=some (.cells (faC f) .live):=rfl;have Z:ah C.P [.cells (clC c) .live,.cells (faC f) .live] 39 (.ptr 0 0) (ai D)=some [.cells (clC D) .live,.cells (faC f) .live]:=VE c D rfl;have p2:aJ C.P [.cells (clC D) .live,.cells (faC f) .live] 32 (.ptr 0 3)=some (terms D.head.terms):=Ib rfl;have p3:aJ C.P [.cells (clC D) .live,.cells (faC f) .live] 32 (.ptr 1 2)=some (terms f.terms):=mY rfl;have s2:ah C.P [.cells (clC D) .live,.cells (faC f) .live,.cells [.isl [] .full] .live] 81 (.ptr 2 0) (binds r)=some [.cells (clC D) .live,.cells (faC f) .live,.cells [binds r] .live]:=by have z:cw C.P 81=some 1:=k_;simp[ah,z,binds]
 have ci:(AV.isl [] Ext.full).cells=[.isl [] .full]:=rfl;by_cases q5:e=0
 rotate_left
 ·by_cases S:e=3
  ·simp[go_sem,dP,fk,n,j,u,d,s,t,k,w,x,v,A,B,E,O,Q,G,Z,p2,p3,c3,SA,ci,s2,S];exact fin _ _ true false g_ g_ (by rw[i];simp[S])
  simp[go_sem,dP,fk,n,j,u,d,s,t,k,w,x,v,A,B,E,O,Q,G,Z,p2,p3,c3,SA,ci,s2,q5,S];exact fin _ _ false false g_ g_ (by rw[i];simp[q5,S])
 subst q5;have lb:aJ C.P [.cells (clC D) .live,.cells (faC f) .live,.cells [binds r] .live] 81 (.ptr 2 0)=some (binds r):=by have a:gW C.P 81=some false:=k_;have z:cw C.P 81=some 1:=k_;simp[aJ,aY,a,z]
 have lh:aJ C.P [.cells (clC D) .live,.cells (faC f) .live,.cells [binds r] .live] 34 (.ptr 0 1)=some (aQ D.head):=lQ rfl;have J:=D7 m;have c4:=Nx r D.head J o_ (X _ (by simp[aN]));have s3:ah C.P [.cells (clC D) .live,.cells (faC f) .live,.cells [binds r] .live,.cells qI .live] 34 (.ptr 3 0) (aQ (cD r D.head))=some [.cells (clC D) .live,.cells (faC f) .live,.cells [binds r] .live,.cells (faC (cD r D.head)) .live]:=yW (cD r D.head) [.cells (clC D) .live,.cells (faC f) .live,.cells [binds r] .live];have q':aJ C.P [.cells (clC D) .live,.cells (faC f) .live,.cells [binds r] .live,.cells (faC (cD r D.head)) .live] 29 (.ptr 0 0)=some (bK D.body):=jn rfl;have K:az C 122 [bK D.body,.func 123 [.iptr (.agg (faC f)) 0,.iptr (.agg [binds r]) 0,.iptr (.agg (faC (cD r D.head))) 0]]=some (.bool (D.body.any (BU r f.goal (cD r D.head)))):=by
  refine FK _ D.body 123 _ rfl s_ I λb hb h=>?_
  refine sU (l':=[aQ b,.iptr (.agg (faC f)) 0,.iptr (.agg [binds r]) 0,.iptr (.agg (faC (cD r D.head))) 0]) k_ rfl rfl rfl s_ ?_ h;have L:b∈aN D:=aa _ hb;exact Tj b f (cD r D.head) r J o_ (X b L) (Y b L) (Y D.head (by simp[aN]))
 have c5:aj C [.cells (clC D) .live,.cells (faC f) .live,.cells [binds r] .live,.cells (faC (cD r D.head)) .live] (.func 122 []) (some [bK D.body,.func 123 [.ptr 1 0,.ptr 2 0,.ptr 3 0]])=some (.bool (D.body.any (BU r f.goal (cD r D.head))),[.cells (clC D) .live,.cells (faC f) .live,.cells [binds r] .live,.cells (faC (cD r D.head)) .live]):=
  yL (l:=[(1,faC f),(2,[binds r]),(3,faC (cD r D.head))]) k_ rfl (a:=bK D.body) (a':=bK D.body) rfl rfl (λq hq=>by
   simp only[aV,dN,or_false]at hq;rcases hq with rfl|rfl|rfl
   ·exact⟨rfl,rfl,rfl,by simp[faC]⟩
   ·exact⟨rfl,rfl,rfl,s_⟩
   exact⟨rfl,rfl,rfl,by simp[faC]⟩) s_ K rfl
 simp[go_sem,dP,fk,n,j,u,d,s,t,k,w,x,v,A,B,E,O,Q,G,Z,p2,p3,c3,SA,ci,s2,lb,lh,c4,qv,am,s3,q',c5];exact fin _ _ true (D.body.any (BU r f.goal (cD r D.head))) g_ g_ (by rw[i];simp)
end Go.VZ
namespace Go.VZ
open Go Go.V Go.Proofs Tryz TL
theorem uA:fV C.P 39 []=some (.agg dU):=k_
end Go.VZ
namespace Go.VZ
open Go Go.V Go.Proofs Tryz TL
open Classical in
noncomputable def unV(c:Cl) (f:Fa):Lb × Int:=if h:∃p:Lb × Int,UnR c f p.1 p.2 then h.choose else([],0)
theorem Dz{c:Cl}{f:Fa}(p:Pr c f) (hg:oB c f=true):UnR c f (unV c f).1 (unV c f).2:=by
 have b:c.head.terms.length=f.terms.length:=by simp only[oB,bI,decide_eq_true_eq]at hg;exact hg.2
 have⟨r,e,h⟩:=p.unif b;have a:∃p:Lb × Int,UnR c f p.1 p.2:=⟨(r,e),h⟩
 unfold unV;rw[dif_pos a];exact a.choose_spec
noncomputable def jl(f:Fa) (c:Cl):Bool:=(nX c f (unV c f).1 (unV c f).2).1 && !(decide (f.kind=3)&&(nX c f (unV c f).1 (unV c f).2).2)
theorem Pj(f:Fa) (h:H):aJ C.P h 34 (.iptr (.agg (faC f)) 0)=some (aQ f):=by simp[aJ,aY,a35,s35,faC,AV.cells,aQ]
theorem Mh(f:Fa) (h:H):aJ C.P h 3 (.iptr (.agg (faC f)) 0)=some (.int .i64 f.kind):=by simp[aJ,aY,a3,s3,faC,AV.cells]
theorem Q7{c:Cl}{f:Fa}(p:Pr c f) (h:H):aj C h (.func 81 []) (some [ai c,aQ f])=some (.tuple [.bool (nX c f (unV c f).1 (unV c f).2).1,.bool (nX c f (unV c f).1 (unV c f).2).2],h):=an (args':=[ai c,aQ f]) rfl (by simp[jF];rfl) s_ (QQ p _ _ (Dz p))
theorem Tl{c:Cl}{f:Fa}(p:Pr c f):az C 80 [ai c,.iptr (.agg (faC f)) 0]=some (.bool (jl f c)):=by
 refine bL func80 rfl λR j=>?_
 have fin:∀(st:PT) (h:H) (e:Bool),st.get 3=.bool e->jl f c=e->R .ret st h:=λst h e k l=>j ⟨.bool e,by simp[ag,cO,f80,k],by rw[l];exact aU rfl rfl⟩
 have i:aJ C.P [.cells (clC c) .live] 39 (.ptr 0 0)=some (ai c):=jJ rfl;have d:=Q7 p;have g:jl f c=((nX c f (unV c f).1 (unV c f).2).1 && !(decide (f.kind=3)&&(nX c f (unV c f).1 (unV c f).2).2)):=rfl;generalize (nX c f (unV c f).1 (unV c f).2).1=a at d g;generalize (nX c f (unV c f).1 (unV c f).2).2=b at d g;cases a
 ·simp[go_sem,dP,fk,i,Pj,d];exact fin _ _ false g_ (by rw[g];simp)
 by_cases q:f.kind=3
 ·cases b
  ·simp[go_sem,dP,fk,i,Pj,d,DG,Mh,q];exact fin _ _ true g_ (by rw[g];simp)
  simp[go_sem,dP,fk,i,Pj,d,DG,Mh,q];exact fin _ _ false g_ (by rw[g];simp[q])
 simp[go_sem,dP,fk,i,Pj,d,DG,Mh,q];exact fin _ _ true g_ (by rw[g];simp[q])
def XZ(p:Cl->Bool) (l:List Cl) (gv:AV) (m:Nat) (st:PT) (_h:H):Prop:=∃k:Nat,m=l.length-k/\k<=l.length/\st.get 0=dV l/\st.get 1=gv/\st.get 7=.int .i64 l.length/\st.get 8=.int .i64 k/\ixF p l 0=ixF p (l.drop k) k
theorem M0(p:Cl->Bool) (l:List Cl) (gv:AV) (hl:l.length<4000000) (hg:∀f∈l,∀h,aj C h gv (some [ai f])=some (.bool (p f),h)):az C 79 [dV l,gv]=some (.int .i64 (ixF p l 0)):=by
 refine bL func79 rfl λR hR=>?_
 have fin:∀(st:PT) (h:H) (e:Int),st.get 4=.int .i64 e->ixF p l 0=e->R .ret st h:=λst h e h2 he=>hR ⟨.int .i64 e,by simp[ag,cO,f79,h2],by rw[he];exact aU rfl rfl⟩
 have hln:=sG l;simp[go_sem,hln];refine bX (XZ p l gv) l.length ⟨0,rfl,aO _,g_,g_,g_,g_,rfl⟩ ?_;rintro m st h ⟨k,rfl,hk,g0,g1,g7,g8,hd⟩;by_cases hlt:k<l.length
 ·have hlt':(k:Int)<l.length:=o_;have hix:=vG l k hlt;have lf:=sh l[k];have cg:=hg _ (aG hlt);have w2:=wS k o_;rw[aI hlt,ixF]at hd;by_cases q:p l[k]=true
  ·simp[go_sem,g0,g1,g7,g8,hlt',hix,lf,cg,q];exact fin _ _ k g_ (by rw[hd,if_pos q])
  ·simp[go_sem,g0,g1,g7,g8,hlt',hix,lf,cg,q,-Int.natCast_add,w2]
   exact⟨l.length-(k+1),by omega,k+1,rfl,hlt,by simp[go_sem,g0],by simp[go_sem,g1],by simp[go_sem,g7],by simp[go_sem],by rw[hd,if_neg q]⟩
 have:k=l.length:=o_;subst this;simp[go_sem,g7,g8];exact fin _ _ (-1) g_ (by rw[hd];simp[ixF])
theorem Dx(l:List Cl) (f:Fa) (hl:l.length<4000000) (hp:∀c∈l,Pr c f):az C 42 [dV l,aQ f]=some (.int .i64 (ixF (jl f) l 0)):=by
 refine bL func42 rfl λR d=>?_
 have e:=nI f;have g:az C 79 [dV l,.func 80 [.iptr (.agg (faC f)) 0]]=some (.int .i64 (ixF (jl f) l 0)):=M0 _ l _ hl λc i h=>sU (l':=[ai c,.iptr (.agg (faC f)) 0]) k_ rfl rfl rfl s_ (Tl (hp c i)) h
 have j:aj C [.cells (faC f) .live] (.func 79 []) (some [dV l,.func 80 [.ptr 0 0]])=some (.int .i64 (ixF (jl f) l 0),[.cells (faC f) .live]):=
  yL (l:=[(0,faC f)]) k_ rfl (a:=dV l) (a':=dV l) rfl rfl (λq b=>by simp only[aV,dN,or_false]at b;subst b;exact⟨rfl,rfl,rfl,by simp[faC]⟩) s_ g rfl
 simp[go_sem,dP,e,j];exact d ⟨.int .i64 (ixF (jl f) l 0),by simp[ag,cO,f42,go_sem],aU rfl rfl⟩
theorem Tp(l:List Cl) (f:Fa) (hl:l.length<4000000) (hp:∀c∈l,Pr c f) (h:H):aj C h (.func 42 []) (some [dV l,aQ f])=some (.int .i64 (ixF (jl f) l 0),h):=an (args':=[dV l,aQ f]) rfl rfl s_ (Dx l f hl hp)
end Go.VZ
namespace Go.VZ
open Go Go.V Go.Proofs Tryz TL
def eO(l:List Cl):LA:=l.flatMap clC
theorem ui(c:Cl):(clC c).length=4:=rfl
theorem oE(l:List Cl):(eO l).length=4*l.length:=by
 induction l with
 |nil=>rfl
 |cons a l b=>rw[eO,dt,List.length_append,ui,aL];unfold eO at b;omega
theorem vM(l m:List Cl):eO (l++m)=eO l++eO m:=fm
theorem sN(l:List Cl):nW (eO l)=some (eO l):=by
 induction l with
 |nil=>rfl
 |cons a l b=>rw[eO,dt];exact yI rfl b
theorem xD:∀l:List Cl,io 4 l.length (eO l)=l.map ai
 |[]=>rfl
 |a::l=>by have:=xD l;rw[eO,dt];change io 4 (l.length+1) (clC a++eO l)=_;simp only[io,aM];rw[bq (by rw[ui];omega),bJ (by rw[ui];omega),jC (ui a),this];rfl
theorem pf(l:List Cl):iN 4 (l.map ai)=true:=by cases l<;>simp[iN,ai,clC,faC,am]
theorem vu(l:List Cl):(l.map ai).flatMap AV.cells=eO l:=by rw[oK];rfl
theorem QU(a:Cl) (l:List Cl) (hl:(a::l).length<=10000):Go.V.Call C 9 [dV (a::l)] []=some (.msl 0 0 4 (a::l).length none,[.cells (eO (a::l)) .live]):=by
 refine wD rfl func9 rfl k_ (by simp[f9]) λR c=>?_
 have b:=pf (a::l);have d:jU C.P .eql 24 (.tmp 3) (.const (.slice none 0 0)) (dV (a::l)) (.isl [] .full)=some (.bool false):=by simp[jU,dV,fI,cn,qS,yU,AX,Ms,u22,vm]
 have e:cQ C.P [] 24 0 []=some (.isl [] .full,[]):=cY u22 s37 z37 rfl o_ rfl (es:=[]) rfl rfl s_ rfl;have f:bi C.P true [] 24 (.isl [] .full) (dV (a::l))=some (.msl 0 0 4 (a::l).length none,[.cells (eO (a::l)) .live]):=by
  have g:jh [] 4 (.isl ((a::l).map ai) .unk)=some (eO (a::l),(a::l).length):=by simp only[jh,b,if_true,vu,ax]
  simp only[bi,ey,dC,if_false,aT,de,u22,s37,b37,z37,dV,g];have h:0<(a::l).length:=s_;generalize (a::l).length=m at hl h;have i:¬m=0:=o_;have j:m*65<=35184372088832:=o_;simp[iN,i,j]
 simp[go_sem,dP,d,e,f];refine c _ _ _ (.inr rfl) ⟨.msl 0 0 4 (a::l).length none,by simp[ag,cO,f9,go_sem],rfl⟩
theorem vX(h:H) (l:List Cl):cP h cM [dV l]=[]:=(dM (h:=h) (l:=[dV l]) (l':=[dV l]) rfl rfl cM (by simp[cM])).2
theorem JL(h:H):aj C h (.func 9 []) (some [dV []])=some (.isl [] .full,h):=by
 have b:=(dM (h:=h) (l:=[dV []]) (l':=[.isl [] .unk]) rfl rfl cM (by simp[cM]))
 have a:dl C.P 9=true:=k_;simp only[aj,a,if_true,br];unfold dJ;rw[show C.mode 9=.ownM from rfl];dsimp only;rw[b.2];simp only[Go.V.freeze,b.1];have c:C.prim 9 [.isl [] .unk] []=some (.isl [] .full,[]):=by simp[C,prim,lG,cloneIds]
 have d:Go.V.Call C 9 [.isl [] .unk] []=some (.isl [] .full,[]):=kK (C:=C) (fn:=f9) func9 c;rw[d];rfl
theorem JM(a:Cl) (l:List Cl) (h:H) (hl:(a::l).length<=10000):aj C h (.func 9 []) (some [dV (a::l)])=some (.msl h.length 0 4 (a::l).length none,h++[.cells (eO (a::l)) .live]):=by have b:=oE (a::l);have c:fJ (Go.V.freeze h []) cM [dV (a::l)]=some [dV (a::l)]:=(dM (h:=h) (l:=[dV (a::l)]) (l':=[dV (a::l)]) rfl rfl cM (by simp[cM])).1;exact yq k_ rfl (vX h _) c o_ (QU a l hl) rfl (sN _) o_ o_
theorem Hd{f:FuncId}{h:H}{args args':LA}{v:AV}{R:List Nat}(hb:dl C.P f=true) (hm:C.mode f=.strip) (e2:cP h cM args=R) (e1:fJ (Go.V.freeze h R) cM args=some args') (hc:az C f args'=some v) (hs:Cc v=true):aj C h (.func f []) (some args)=some (v,h):=by
 simp only[aj,hb,if_true,br];unfold dJ;rw[hm];dsimp only;rw[e2,e1];unfold az at hc;dsimp only;split at hc<;>try(cases hc;done)
 rename_i r b a;rw[a];dsimp only;unfold kS mM;dsimp only;rw[hc];dsimp only;rw[if_pos hs]
theorem VL{hf:H}{id:Nat}{l:List Cl}{c:Option Nat}(hid:hf[id]?=some (.cells (eO l) .frozen)) (hl:l.length<=10000) (n:Nat) (hn:50000<=n):eW hf (n+1) (.msl id 0 4 l.length c)=some (dV l):=by
 have b:=oE l;obtain⟨n,rfl⟩:∃m,n=m+1:=⟨n-1,o_⟩
 have a:=(ko (h:=hf) (sN l) n o_).1;simp only[eW,hid,a];rw[if_pos ⟨o_,o_⟩,eH,xD];rfl
theorem K4{f:FuncId}{h:H}{id:Nat}{l:List Cl}{a a' v:AV}(hb:dl C.P f=true) (hm:C.mode f=.strip) (hid:h[id]?=some (.cells (eO l) .live)) (hl:l.length<=10000) (hd:iT [a]=some [a']) (hsh:short a=true) (hc:az C f [dV l,a']=some v) (hs:Cc v=true):aj C h (.func f []) (some [.msl id 0 4 l.length none,a])=some (v,h):=by
 obtain⟨m,b⟩:∃m,cM=m+3:=⟨999997,rfl⟩
 have o:m=999997:=by unfold cM at b;omega
 have p:=oE l;have q:=ko (h:=h) (sN l) m o_;have d:=dM (h:=h) hd (by simpa using hsh) (m+2) (by simp;omega);have e:cP h cM [.msl id 0 4 l.length none,a]=[id]:=by have k:cP h (m+3) [.msl id 0 4 l.length none,a]=ik h (m+2) (.msl id 0 4 l.length none)++cP h (m+2) [a]:=rfl;rw[b,k,d.2,br];simp only[ik,hid,q.2]
 have g:(Go.V.freeze h [id])[id]?=some (.cells (eO l) .frozen):=by rw[mZ,hid];simp
 have i:=VL (c:=none) g hl (m+1) o_;have j:=(dM (h:=Go.V.freeze h [id]) hd (by simpa using hsh) (m+2) (by simp;omega)).1;have n:fJ (Go.V.freeze h [id]) cM [.msl id 0 4 l.length none,a]=some [dV l,a']:=by
  rw[b];have k:fJ (Go.V.freeze h [id]) (m+3) [.msl id 0 4 l.length none,a]=(match eW (Go.V.freeze h [id]) (m+2) (.msl id 0 4 l.length none),fJ (Go.V.freeze h [id]) (m+2) [a]with
   |some x,some y=>some (x::y)
   |_,_=>none):=rfl
  rw[k,i,j]
 exact Hd hb hm e n hc hs
theorem Vb{h:H}{id k:Nat}{l:List Cl}(hid:h[id]?=some (.cells (eO l) .live)) (hk:k<l.length):aJ C.P h 39 (.ptr id (4*k))=some (ai l[k]):=by
 have b:eO l=eO (l.take k)++(clC l[k]++eO (l.drop (k+1))):=by
  have:l=l.take k++(l[k]::l.drop (k+1)):=by rw[<-aI hk,dx]
  conv=>lhs;rw[this]
  rw[vM];rfl
 have a:=oE (l.take k);have c:(l.take k).length=k:=by simp;omega
 rw[c]at a;have d:((eO l).drop (4*k)).take 4=clC l[k]:=by rw[b,jC a,bq (by rw[ui];omega),bJ (by rw[ui];omega)]
 have e:=oE l;simp only[aJ,hid,aY,a37,s37];rw[if_pos o_,d];rfl
theorem TG{id n k:Nat}(hk:k<n):aZ C.P 24 (.msl id 0 4 n none) (.int .i64 k)=some (.ptr id (4*k)):=by simp[aZ,u22,s37,hk,hJ]
theorem Me(id n:Nat):fG C.P 24 (.msl id 0 4 n none)=some (.int .i64 n):=by simp[fG,u22]
theorem Wf(h:H) (c:Cl):bi C.P true h 24 (.isl [] .full) (.isl [ai c] .full)=some (.msl h.length 0 4 1 none,h++[.cells (eO [c]) .live]):=by
 have a:=pf [c];have b:jh h 4 (.isl [ai c] .full)=some (eO [c],1):=by have:=vu [c];simp only[aM,bM]at a this;simp only[jh,a,if_true,this];rfl
 simp only[bi,ey,dC,if_false,aT,de,u22,s37,b37,z37,b];simp[iN]
theorem We{h:H}{id:Nat}{l:List Cl}(c:Cl) (hid:h[id]?=some (.cells (eO l) .live)) (hl:l.length<=10000):bi C.P true h 24 (.msl id 0 4 l.length none) (.isl [ai c] .full)=some (.msl h.length 0 4 (l.length+1) none,h.set id (.cells (eO l) .dead)++[.cells (eO (l++[c])) .live]):=by
 have a:=pf [c];have b:jh h 4 (.isl [ai c] .full)=some (eO [c],1):=by have:=vu [c];simp only[aM,bM]at a this;simp only[jh,a,if_true,this];rfl
 have d:=oE l;simp only[bi,ey,dC,if_false,aT,de,u22,s37,b37,z37,b,hid];rw[if_neg s_,if_neg s_,if_pos ⟨trivial,trivial,o_,o_⟩,bJ o_,vM]
theorem Gr(l:List Cl) (i k:Nat):AV.mvs i k (eO l)=eO l:=wb _ (by
 intro a b i k;simp only[eO,bR]at b;have⟨c,_,b⟩:=b;simp only[clC,faC,aV,dN,or_false]at b;rcases b with rfl|rfl|rfl|rfl<;>rfl) i k
theorem xg(l:List Cl) (i k:Nat):VObj.mv i k (.cells (eO l) .live)=.cells (eO l) .live:=by simp[VObj.mv,Gr]
def Gi(f:Fa):AV:=.agg (.isl [] .full::faC f)
theorem CJ(h:H) (f:Fa):cQ C.P h 24 1 [(0,Gi f)]=some (.isl [ai ⟨[],f⟩] .full,h):=cY u22 s37 z37 rfl o_ rfl rfl rfl s_ rfl
theorem AG(h:H) (f:Fa):cP h cM [Gi f]=[]:=(dM (h:=h) (l:=[Gi f]) (l':=[ai ⟨[],f⟩]) rfl rfl cM (by simp[cM])).2
def iG:List Cl->Int
 |[]=>0
 |c::r=>if bY c=0 then iG r else bY c
theorem vI:∀(l m:List Cl),iG (l++m)=if iG l=0 then iG m else iG l
 |[],m=>by simp[iG]
 |c::l,m=>by
  rw[cV,iG,iG];by_cases h:bY c=0
  ·rw[if_pos h,if_pos h,vI l m]
  rw[if_neg h,if_neg h,if_neg h]
theorem ym:∀ {l:List Cl},iG l=0->∀c∈l,bY c=0
 |[],_,c,hc=>by simp at hc
 |a::l,h,c,hc=>by
  rw[iG]at h;by_cases e:bY a=0
  ·rw[if_pos e]at h;rcases aV.1 hc with rfl|hc
   ·exact e
   exact ym h c hc
  rw[if_neg e]at h;exact absurd h e
def nl(l:List Cl) (f:Fa):Int:=if 60<l.length then 3 else iG (l++[⟨[],f⟩])
theorem MF{f:Fa}(h:bY ⟨[],f⟩=0):eZ f=0:=(dH h).2 f (by simp[aN])
theorem Ri{l:List Cl}{f:Fa}(h1:∀c∈l,okC c/\(bS (bN c)).length+(bS f.terms).length<=300) (hr:nl l f=0) (hz:sizes f.terms<=60):∀c∈l,Pr c f:=by
 unfold nl at hr;split at hr
 ·cases hr
 have b:=ym hr;exact λc a=>⟨b c (aa _ a),(h1 c a).1,MF (b _ (bk _ (aS.2 rfl))),hz,(h1 c a).2⟩
def uy(r i k:Int):Int × Int:=if r=0 then(if i<0 then(0,15)else(i,0))else(k,r)
theorem PX{f:Fa}(h:smallT f.terms):okF (aN ⟨[],f⟩):=λg a=>by simp only[aN,cN,aS]at a;subst a;exact⟨h.2,h.1⟩
end Go.VZ
