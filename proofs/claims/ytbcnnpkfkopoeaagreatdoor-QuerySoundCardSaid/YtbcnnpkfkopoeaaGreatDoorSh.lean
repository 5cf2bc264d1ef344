/- A part of the proof. -/
import Derived.Test.YtbcnnpkfkopoeaaGreatDoorSg
import Derived.Test.YtbcnnpkfkopoeaaGreatDoorSxzc
set_option maxHeartbeats 8000000
set_option maxRecDepth 8000
namespace Go.VZ
open Go Go.V Go.Proofs Tryz TL
theorem Ml{h:H}{i:Nat}{f:Fa}(hi:h[i]?=some (.cells (faC f) .live)):aJ C.P h 34 (.ptr i 0)=some (aQ f):=by simp[aJ,hi,aY,a35,s35,faC,aQ]
def Zv(L:List Cl) (m:Nat) (st:PT) (h:H):Prop:=∃k:Nat,m=L.length-k/\k<=L.length/\h[6]?=some (.cells (eO L) .live)/\st.get 16=.msl 6 0 4 L.length none/\st.get 17=.int .i64 L.length/\st.get 18=.int .i64 k/\iG L=iG (L.drop k)
theorem PJ(l:List Cl) (f:Fa) (hl:l.length<=10000) (hs:∀c∈l,okF (aN c)) (hf:smallT f.terms):az C 21 [dV l,aQ f]=some (.int .i64 (nl l f)):=by
 refine bL func21 rfl λR Y=>?_
 have fin:∀(st:PT) (h:H) (e:Int),st.get 4=.int .i64 e->nl l f=e->R .ret st h:=λst h e G K=>Y ⟨.int .i64 e,by simp[ag,cO,f21,G],by rw[K];exact aU rfl rfl⟩
 have A:=sG l;have S:=nI f;by_cases U:60<l.length
 ·have o:(60:Int)<l.length:=o_;simp[go_sem,dP,S,A,o];exact fin _ _ 3 g_ (by rw[nl,if_pos U])
 have o:¬(60:Int)<l.length:=o_;have K:nl l f=iG (l++[⟨[],f⟩]):=by rw[nl,if_neg U]
 rw[K]at fin;simp[go_sem,S,A,o];obtain⟨L,B⟩:∃L,L=l++[⟨[],f⟩]:=⟨_,rfl⟩
 have Z:L.length=l.length+1:=by rw[B];simp
 have M:∀c∈L,okF (aN c):=by
  intro c t;rw[B]at t;rcases aK.1 t with t|t
  ·exact hs c t
  simp only[aS]at t;subst t;exact PX hf
 rw[<-B]at fin;refine ic 3 _ (λu V=>u.get 16=.msl 6 0 4 L.length none/\u.get 17=.int .i64 L.length/\u.get 18=.int .i64 0/\V[6]?=some (.cells (eO L) .live)) (by rw[gM];decide) k_ ?_ ?_
 ·show MX C 21 _ 1 _ 0 _ _ _ _;generalize D:[VObj.cells (faC f) .live]++List.replicate _ VObj.void=H0;have d:Pl [.cells (faC f) .live] H0 8:=D▸Pl.mk' _ 8;have b:=d.len;clear D;have X:H0[0]?=some (.cells (faC f) .live):=d.get rfl;have q0:=Ml X;simp only[aL,bB,bu]at b d;refine bE (dV l) rfl rfl (d.isV (i:=0) d_) (by simp[opN,go_sem]) rfl ?_;cases l with
  |nil=>
   refine uG (args:=[.tmp 11]) [dV []] (.isl [] .full) k_ (.inr rfl) g_ (vX _ _) (JL _) (d.isV (i:=1) d_) ?_;refine cR (.ptr 0 0) (aQ f) g_ q0 (dW s_) (d.isV (i:=2) d_) rfl ?_;refine bE (Gi f) rfl rfl (d.isV (i:=3) d_) (by simp[opN,go_sem];exact CN f) rfl ?_;refine gH (parts:=[(0,.tmp 14)]) [(0,Gi f)] (.isl [ai ⟨[],f⟩] .full) (mN g_ rfl) (AG _ _) (CJ _ _) (d.isV (i:=4) d_) ?_;refine dq (.isl [] .full) (.isl [ai ⟨[],f⟩] .full) _ _ _ (by simp[go_sem];rfl) (by simp[go_sem];rfl) (by rw[wrC];exact Wf _ _) s_ rfl (d.isV (i:=5) d_) (jK o_) ?_;refine bE (.int .i64 1) rfl rfl ?_ (by simp[opN,go_sem,AV.mv];exact Me _ _) rfl ?_
   ·rw[aC s_];exact d.isV (i:=6) d_
   refine bE (.int .i64 0) rfl rfl ?_ (by simp[opN,go_sem]) rfl ?_
   ·rw[aC s_];exact d.isV (i:=7) d_
   refine⟨k_,?_⟩;rw[xg];subst B;exact⟨by simp[go_sem,AV.mv,b],g_,g_,by simp[b]⟩
  |cons a l=>
   have t:=JM a l H0 (by simpa using hl);refine BB (args:=[.tmp 11]) [dV (a::l)] _ _ k_ (.inr rfl) g_ (vX _ _) t (d.isV (i:=1) d_) ?_;rw[xg,show(AV.msl H0.length 0 4 (a::l).length none).mv H0.length (1+1)=.msl 2 0 4 (a::l).length none by simp[AV.mv]];obtain⟨I,p⟩:∃g,g=H0.set (1+1) (.cells (eO (a::l)) .live):=⟨_,rfl⟩
   have N:I[2]?=some (.cells (eO (a::l)) .live):=by rw[p];simp[b]
   have q:I.length=9:=by rw[p];simp[b]
   have y:∀i,i<8->i≠1->dE I[1+i]?=true:=λi hi hn=>by rw[p];exact dg (d.isV hi) o_
   have p1:I[0]?=some (.cells (faC f) .live):=by rw[p,aC s_];exact X
   have o:=Ml p1;rw[<-p];refine cR (.ptr 0 0) (aQ f) g_ o (dW s_) (y 2 d_ d_) rfl ?_;refine bE (Gi f) rfl rfl (y 3 d_ d_) (by simp[opN,go_sem];exact CN f) rfl ?_;refine gH (parts:=[(0,.tmp 14)]) [(0,Gi f)] (.isl [ai ⟨[],f⟩] .full) (mN g_ rfl) (AG _ _) (CJ _ _) (y 4 d_ d_) ?_;refine dq (.msl 2 0 4 (a::l).length none) (.isl [ai ⟨[],f⟩] .full) _ _ _ g_ (by simp[go_sem];rfl) (by rw[wrC];exact We _ N hl) s_ (by simp[cF,gZ]) (y 5 d_ d_) (td o_ s_) ?_;refine bE (.int .i64 (l.length+2:Nat)) rfl rfl ?_ (by simp[opN,go_sem,AV.mv];exact Me _ _) rfl ?_
   ·rw[aC s_,aC s_];exact y 6 d_ d_
   refine bE (.int .i64 0) rfl rfl ?_ (by simp[opN,go_sem]) rfl ?_
   ·rw[aC s_,aC s_];exact y 7 d_ d_
   refine⟨by simp[it,cF,gZ];kernel_rfl,?_⟩;rw[xg];subst B;exact⟨by simp[go_sem,AV.mv,q],by simp[go_sem];omega,g_,by simp[q]⟩
 rintro u V ⟨r,j,n,z⟩;simp[go_sem];refine bX (Zv L) L.length ⟨0,rfl,aO _,z,r,j,by simpa using n,rfl⟩ ?_;clear n z r j;rintro m st h ⟨k,rfl,hk,z,r,j,n,w⟩;by_cases s:k<L.length
 ·have v:(k:Int)<L.length:=o_;have E:=TG (id:=6) s;have w2:=wS k o_;have O:=Vb z s;have s35:=M _ (aG s);rw[aI s,iG]at w;generalize L[k]=c at O s35 w;have Q:=VD c h;obtain⟨G,x⟩:∃g,g=h++[.cells (clC c) .live]:=⟨_,rfl⟩
  have pb:G[h.length]?=some (.cells (clC c) .live):=by rw[x];simp
  have n6:G[6]?=some (.cells (eO L) .live):=by rw[x,aH (aB.1 z).1];exact z
  have F:=jJ pb;rw[<-x]at Q;have c35:=Nz c s35;by_cases J:bY c=0
  ·rw[if_pos J]at w;simp[go_sem,r,j,n,v,E,O,om,am,Q,F,c35,J,-Int.natCast_add,w2];exact⟨L.length-(k+1),o_,k+1,rfl,s,n6,g_,g_,g_,w⟩
  rw[if_neg J]at w;simp[go_sem,r,j,n,v,E,O,om,am,Q,F,c35,J];exact fin _ _ (bY c) g_ w
 have:k=L.length:=o_;subst this;simp[go_sem,j,n];exact fin _ _ 0 g_ (by rw[w];simp[iG])
theorem P4(l:List Cl) (f:Fa) (hl:l.length<4000000) (hp:∀c∈l,Pr c f):az C 22 [dV l,aQ f]=some (.tuple [.int .i64 (uy 0 (ixF (jl f) l 0) 0).1,.int .i64 (uy 0 (ixF (jl f) l 0) 0).2]):=by
 refine bL func22 rfl λR j=>?_
 have fin:∀(st:PT) (h:H) (a e:Int),st.get 4=.int .i64 a->st.get 5=.int .i64 e->uy 0 (ixF (jl f) l 0) 0=(a,e)->R .ret st h:=λst h a e k m n=>j ⟨.tuple [.int .i64 a,.int .i64 e],by simp[ag,cO,gk,f22,k,m],by rw[n];exact aU rfl rfl⟩
 have d:=nI f;have g:aJ C.P [.cells (faC f) .live] 34 (.ptr 0 0)=some (aQ f):=Ml rfl;have b:=Tp l f hl hp;generalize ixF (jl f) l 0=i at b fin;by_cases q:i<0
 ·simp[go_sem,dP,d,g,b,q];exact fin _ _ 0 15 g_ g_ (by rw[uy,if_pos rfl,if_pos q])
 simp[go_sem,dP,d,g,b,q];exact fin _ _ i 0 g_ g_ (by rw[uy,if_pos rfl,if_neg q])
def Al(t:T):LA:=[.int .i64 1,.int .i64 0,.isl [enc t] .full]
def mh(t:T):Fa:=⟨1,0,[t]⟩
theorem T9(t:T):fV C.P 34 [(0,.int .i64 1),(2,.isl [enc t] .full)]=some (.agg (Al t)):=by
 have e:∀x:AV,fV C.P 34 [(0,.int .i64 1),(2,.isl [x] .full)]=some (.agg [.int .i64 1,.int .i64 0,.isl [x] .full]):=λx=>k_
 exact e _
theorem VF(t:T) (h:H):ah C.P (h++[.cells qI .live]) 34 (.ptr h.length 0) (.agg (Al t))=some (h++[.cells (Al t) .live]):=by simp[ah,s35,qI,Al]
theorem Vh{h:H}{i:Nat}{t:T}(hi:h[i]?=some (.cells (Al t) .live)):aJ C.P h 34 (.ptr i 0)=some (.agg (Al t)):=by simp[aJ,hi,aY,a35,s35,Al]
theorem Bd{g:FuncId}(hb:dl C.P g=true) (hm:C.mode g=.strip){l:List Cl}{t:T}{v:AV}(hc:az C g [dV l,aQ (mh t)]=some v) (h:H):aj C h (.func g []) (some [dV l,.agg (Al t)])=some (v,h):=
 mf hb hm (args':=[dV l,aQ (mh t)]) (by simp only[Al];rw[bV];simp only[mh,aQ,faC,terms,aM,bM];rw[bV];rfl) rfl s_ hc
def GI(o:Fa->Cl->Bool) (l:List Cl) (f:Fa):Int × Int:=uy (nl l f) (ixF (o f) l 0) 0
theorem LC{t:T}(hz:sizes [t]<=60):smallT (mh t).terms:=⟨by simp[mh],λx a=>by simp only[mh,aS]at a;subst a;have:=EB (l:=[x]) (t:=x) s_;omega⟩
theorem Lp(l:List Cl) (t:T) (hl:l.length<=10000) (h1:∀c∈l,okC c/\(bS (bN c)).length+(bS [t]).length<=300) (hz:sizes [t]<=60):az C 8 [dV l,enc t]=some (.tuple [.int .i64 (GI jl l (mh t)).1,.int .i64 (GI jl l (mh t)).2]):=by
 refine bL func8 rfl λR u=>?_
 have fin:∀(st:PT) (h:H) (a e:Int),st.get 4=.int .i64 a->st.get 5=.int .i64 e->GI jl l (mh t)=(a,e)->R .ret st h:=λst h a e h1 m v=>u ⟨.tuple [.int .i64 a,.int .i64 e],by simp[ag,cO,gk,f8,h1,m],by rw[v];exact aU rfl rfl⟩
 have b:GI jl l (mh t)=uy (nl l (mh t)) (ixF (jl (mh t)) l 0) 0:=rfl;have w:∀h,mg C.P h 41 (enc t)=some (.ptr h.length 0,h++[.cells (enc t).cells .live]):=λh=>by rw[gx,aq]
 obtain⟨k,f⟩:∃g:H,g=[.cells (enc t).cells .live]:=⟨_,rfl⟩
 have x:k[0]?=some (.cells (enc t).cells .live):=by rw[f];rfl
 have d:k.length=1:=by rw[f];rfl
 have y:=sg t x;have n:=λh=>fO h t
 have b35:=T9 t;have r:=VF t k;obtain⟨m,i⟩:∃g,g=k++[.cells (Al t) .live]:=⟨_,rfl⟩
 have z:m[1]?=some (.cells (Al t) .live):=by rw[i,<-d];simp
 have s:=Vh z;rw[<-i,d]at r;have o:=Bd (g:=21) k_ rfl (PJ l (mh t) hl (λc A=>(h1 c A).1.okF) (LC hz));simp[go_sem,w];rw[<-f];simp[go_sem,y,n,b35,qv,am,d,r,s,o,show au (AV.isl [enc t] .full)=true from rfl,show au (AV.int .i64 1)=true from rfl];by_cases q:nl l (mh t)=0
 ·have j:=Bd (g:=22) k_ rfl (P4 l (mh t) o_ (Ri h1 q hz));rw[q]at b;generalize uy 0 (ixF (jl (mh t)) l 0) 0=p at j b;simp[go_sem,q,d,s,j];exact fin _ _ p.1 p.2 g_ g_ b
 simp[go_sem,q];exact fin _ _ 0 (nl l (mh t)) g_ g_ (by rw[b,uy,if_neg q])
end Go.VZ
namespace Go.VZ
open Go Go.V Go.Proofs Tryz Go.RowKit TL
theorem Nq{f:FuncId}{args:LA}{vs:Array Value}{w:World}(hb:dl C.P f=true) (hl:vs.size=args.length)
  (hr:∀(i:Nat) a v,args[i]?=some a->vs[i]?=some v->IRel (λ_ _=>True) w a v) (hg:kF (λ_ _=>True) w) (hc:az C f args=some (.bool true)) :
  Calls prog f vs w (λe w'=>e=.returned (.bool true)/\Below w.heap.size w w'):=by
 unfold az at hc;split at hc<;>try(cases hc;done)
 rename_i r b d;refine(ok.fn f args [] r b hb d w.heap.size (λ_ _=>True) [] w vs (.start hg) hl (λi a v g h=>.data (ny (hr i a v g h)))).mono ?_;rintro e w' ⟨v,rfl,σ',c,j,k⟩;have l:=iW (c.stiller (da b)) cM r (.bool true) v hc (k.step (.stiller c (da b)));cases l;exact⟨rfl,j.below⟩
section
variable {H:Type}{ec:TypeId × Value->H}{w:World}
end
end Go.VZ
namespace Go.VZ
open Go Go.V Go.Proofs Tryz TL
mutual
def bc(θ:T->T):T->T
 |.mk k n s l=>if k=1 then θ (.mk k n s l)else .mk k n s (JT θ l)
def JT(θ:T->T):Lq->Lq
 |[]=>[]
 |t::l=>bc θ t::JT θ l
end
theorem CO(θ:T->T):∀l,JT θ l=l.map (bc θ)
 |[]=>rfl
 |t::l=>by rw[JT,CO θ l];rfl
theorem qb(θ:T->T) (t:T):bc θ t=if t.kind=1 then θ t else .mk t.kind t.name t.sort (t.kids.map (bc θ)):=by cases t;rw[bc,CO];rfl
theorem ea{θ:T->T}{t:T}(h:t.kind=1):bc θ t=θ t:=by rw[qb,if_pos h]
theorem dz{θ:T->T}{t:T}(h:t.kind≠1):bc θ t=.mk t.kind t.name t.sort (t.kids.map (bc θ)):=by rw[qb,if_neg h]
theorem xN{θ:T->T}{x y:T}(hx:x.kind=1) (hθ:θ x=bc θ y):∀t:T,jI t->bc θ (iL x y t)=bc θ t:=by
 refine T.ind λt f b=>?_
 rw[uT];by_cases e:t.cmp x=0
 ·have g:=cmp_zero.1 e;subst g;rw[if_pos e,ea hx,hθ]
 rw[if_neg e];by_cases k:t.kind=1
 ·have c:=b t (dD t) k;rw[c,bM,<-c];congr 1
  cases t;rfl
 rw[dz (t:=.mk t.kind t.name t.sort (t.kids.map (iL x y))) k,dz k];simp only[T.kind,T.name,T.sort,T.kids,eG];congr 1
 exact bf λa d=>f a d (kI b d)
theorem Lk(θ:T->T) (hθ:∀x:T,0<(θ x).size):∀t:T,jI t->t.size<=(bc θ t).size:=by
 refine T.ind λt g e=>?_
 by_cases k:t.kind=1
 ·have i:=e t (dD t) k;have:=hθ t;rw[ea k,size_kids t,i,sizes];omega
 rw[dz k,size_kids t,size_kids (.mk t.kind t.name t.sort (t.kids.map (bc θ)))];have c:∀l:Lq,(∀a∈l,a.size<=(bc θ a).size)->sizes l<=sizes (l.map (bc θ)):=by
  intro l;induction l with
  |nil=>intro _;exact aP _
  |cons a l d=>
   intro h;rw[aM,sizes,sizes];have m:=h a s_;have n:=d λb j=>h b (by simp[j])
   omega
 have:=c t.kids λa f=>g a f (kI e f)
 change sizes t.kids+1<=sizes (t.kids.map (bc θ))+1;omega
theorem O5(θ:T->T):∀(t x:T),x.kind=1->jI t->x∈bm bD t->(θ x).size<=(bc θ t).size/\(t.kind≠1->(θ x).size<(bc θ t).size):=by
 refine T.ind λt f x d e c=>?_
 by_cases k:t.kind=1
 ·have g:=e t (dD t) k;rcases mem_walk.1 c with rfl|⟨a,b,_⟩
  ·rw[ea k];exact⟨aP _,λh=>absurd k h⟩
  rw[g]at b;simp at b
 rcases mem_walk.1 c with rfl|⟨a,b,c⟩
 ·exact absurd d k
 have i:=(f a b x d (kI e b) c).1;have j:(bc θ a).size<(bc θ t).size:=by rw[dz k];exact kid_size (t:=.mk t.kind t.name t.sort (t.kids.map (bc θ))) (df b)
 exact⟨o_,λ_=>o_⟩
def fS(θ:T->T):Prop:=(∀x:T,x.kind=1->x.sort≠0->(θ x).kind=2/\(θ x).sort=x.sort)/\∀x:T,0<(θ x).size
theorem xe{t:T}(h:gL t=0):t.kind=1\/t.kind=2\/t.kind=3:=by
 unfold gL kz at h;split at h
 ·cases h
 rename_i c;simp only[bz,bI,decide_eq_true_eq,not_or,not_and,Decidable.not_not]at c;by_cases a:t.kind=1
 ·exact .inl a
 by_cases b:t.kind=2
 ·exact .inr (.inl b)
 exact .inr (.inr (c.1.1.1.1 ⟨a,b⟩))
theorem Il{θ:T->T}(hs:fS θ){x t:T}(hx:x.kind=1) (ht:t.kind≠1) (hl:jI t) (h:θ x=bc θ t):Ai x t=.ok x t:=by
 unfold Ai;rw[if_neg,if_neg]
 ·intro d;have e:x∈bm bD t:=by simpa[occ]using d
  have:=(O5 θ t x hx hl e).2 ht;rw[h]at this;omega
 rintro⟨f,c⟩;have⟨a,b⟩:=hs.1 x hx f;rw[h,dz ht]at a b;simp only[T.kind,T.sort]at a b;rcases c with c|c
 ·exact c a
 exact c b
theorem HZ{θ:T->T}(hs:fS θ){a b:T}(ha:bA a=0) (hb:bA b=0) (hne:a≠b) (hal:fH a b=false) (h:bc θ a=bc θ b):∃x y,fB a b=.ok x y/\x.kind=1/\θ x=bc θ y:=by
 have q:=eD ha;have r:=eD hb;unfold fB;by_cases d:a.kind=1
 ·rw[if_pos d];by_cases c:b.kind=1
  ·rw[if_pos c];have e:θ a=θ b:=by rwa[ea d,ea c]at h
   split
   ·exact⟨b,a,rfl,c,by rw[ea d,e]⟩
   rename_i g;split
   ·rename_i f;exfalso;have⟨v,l⟩:=hs.1 a d f.2;have j:b.sort≠0:=λs=>g (.inr ⟨f.1,s⟩)
    have⟨w,t⟩:=hs.1 b c j;rw[e]at l;exact f.1 (l.symm.trans t)
   exact⟨a,b,rfl,d,by rw[ea c,e]⟩
  rw[if_neg c];have e:θ a=bc θ b:=by rwa[ea d]at h
  exact⟨a,b,Il hs d c r e,d,e⟩
 rw[if_neg d];by_cases c:b.kind=1
 ·rw[if_pos c];have e:θ b=bc θ a:=by rw[ea c]at h;exact h.symm
  exact⟨b,a,Il hs c d q e,c,e⟩
 exfalso;rw[dz d,dz c]at h;simp only[T.mk.injEq]at h;have⟨g,f,m,u⟩:=h;have i:a.kids.length=b.kids.length:=by simpa using congrArg List.length u
 have n:=eF (bg ha).1;have nb:=eF (bg hb).1;rcases xe n with k|k|k
 ·exact d k
 ·refine hne ?_;have o:=lH n (.inr k);have p:=lH nb (.inr (g.symm.trans k));cases a;cases b;simp only[T.kind,T.name,T.sort,T.kids]at g f m o p;subst g;subst f;subst m;subst o;subst p;rfl
 have:fH a b=true:=by unfold fH;rw[decide_eq_true k,decide_eq_true (g.symm.trans k),decide_eq_true f,decide_eq_true i];rfl
 rw[this]at hal;cases hal
theorem LF{θ:T->T}{a b:T}(hal:fH a b=true) (h:bc θ a=bc θ b):∀p∈mJ a b,bc θ p.1=bc θ p.2:=by
 unfold fH at hal;simp only[bI,decide_eq_true_eq]at hal;rw[dz (by rw[hal.1.1.1];decide),dz (by rw[hal.1.1.2];decide)]at h;simp only[T.mk.injEq]at h;have⟨_,_,_,d⟩:=h;unfold mJ;generalize a.kids=l at d;generalize b.kids=m at d;induction l generalizing m with
 |nil=>intro p c;simp at c
 |cons x l e=>
  cases m with
  |nil=>intro p c;simp at c
  |cons y m=>
   simp only[aM,ct]at d;intro p c;rw[gq]at c;rcases aV.1 c with rfl|c
   ·exact d.1
   exact e m d.2 p c
theorem ve:∀ {l:Lq},(∀k∈l,cz k=0)->jt l=0
 |[],_=>rfl
 |a::l,h=>by rw[jt,h a s_,thn,if_pos rfl];exact ve λk hk=>h k (by simp[hk])
theorem Gl{x y:T}(hy:cz y=0):∀t:T,cz t=0->cz (iL x y t)=0:=by
 refine T.ind λt f b=>?_
 rw[uT];split
 ·exact hy
 rw[fi]at b ⊢;have⟨g,h⟩:=thn_zero.1 b;have e:gL (.mk t.kind t.name t.sort (t.kids.map (iL x y)))=gL t:=by cases t;unfold gL kz;simp only[T.kind,T.name,T.sort,T.kids,ax];congr
 rw[e,g,thn,if_pos rfl];refine ve λk c=>?_
 change k∈t.kids.map (iL x y)at c;obtain⟨d,a,rfl⟩:=ae.1 c;exact f d a (jH h d a)
theorem Dw{t:T}(h1:cz t=0) (h2:t.size<=40):bA t=0:=by have:=(ti t).1;rw[bA,h1,thn,if_pos rfl,if_neg o_]
theorem GW{θ:T->T}(hs:fS θ){x y t:T}(hx:x.kind=1) (hxy:θ x=bc θ y) (hy:bA y=0) (ht:bA t=0) (hz:(bc θ t).size<=40):bA (iL x y t)=0:=by have a:=eD ht;have b:=G2 (x:=x) a (eD hy);refine Dw (Gl (bg hy).1 t (bg ht).1) ?_;have:=Lk θ hs.2 (iL x y t) b;rw[xN hx hxy t a]at this;omega
theorem DT{a b x y:T}(ha:bA a=0) (hb:bA b=0) (hne:a≠b) (h:fB a b=.ok x y):bA y=0:=by
 have⟨_,_,h⟩:=pS ha hb hne h;rcases h with⟨_,rfl⟩|⟨_,rfl⟩
 ·exact hb
 exact ha
theorem qy{θ:T->T}(hs:fS θ){U:Lq}{K:Nat}:∀(n:Nat) (ps s r:Lb) (e:Int),InvU U K ps s->(∀p∈ps,bc θ p.1=bc θ p.2/\(bc θ p.1).size<=40)->(∀b∈s,θ b.1=bc θ b.2/\(θ b.1).size<=40)->gg AZ n ps s=some (r,e)->e=0/\∀b∈r,θ b.1=bc θ b.2
 |0,[],s,r,e,_,_,hb,h=>by simp only[gg,aA,aE]at h;obtain⟨rfl,rfl⟩:=h;exact⟨rfl,λb d=>(hb b d).1⟩
 |n+1,[],s,r,e,_,_,hb,h=>by simp only[gg,aA,aE]at h;obtain⟨rfl,rfl⟩:=h;exact⟨rfl,λb d=>(hb b d).1⟩
 |0,_::_,_,_,_,_,_,_,h=>by simp[gg]at h
 |n+1,(a,b)::ps,s,r,e,hi,hp,hb,h=>by
  rw[gg]at h;have⟨g,i⟩:=hp (a,b) s_;have j:∀p∈ps,bc θ p.1=bc θ p.2/\(bc θ p.1).size<=40:=λp d=>hp p (by simp[d])
  have⟨w,z⟩:=hi.valid (a,b) s_;by_cases A:a.cmp b=0
  ·rw[if_pos A]at h;exact qy hs n ps s r e hi.skip j hb h
  rw[if_neg A]at h;have k:a≠b:=λe=>A (cmp_zero.2 e)
  by_cases m:fH a b=true
  ·rw[if_pos m]at h;refine qy hs n (mJ a b++ps) s r e hi.kids (λp d=>?_) hb h;rcases aK.1 d with d|d
   ·refine⟨LF m g p d,?_⟩;have I:=(wE d).1;have J:a.kind≠1:=by unfold fH at m;simp only[bI,decide_eq_true_eq]at m;rw[m.1.1.1];decide
    have:(bc θ p.1).size<(bc θ a).size:=by rw[dz J];exact kid_size (t:=.mk a.kind a.name a.sort (a.kids.map (bc θ))) (df I)
    dsimp only at i;omega
   exact j p d
  rw[if_neg m]at h;have⟨x,y,u,l,f⟩:=HZ hs w z k (by simpa using m) g;have B:=DT w z k u;have ok:okU x y ps s=true:=by
   unfold okU okP okS;simp only[bI,av,decide_eq_true_eq];refine⟨λp d=>?_,λc d=>?_⟩
   ·have⟨D,E⟩:=hi.valid p (by simp[d]);have⟨F,v⟩:=j p d;exact⟨GW hs l f B D v,GW hs l f B E (by rw[<-F];exact v)⟩
   have⟨F,v⟩:=hb c d;exact GW hs l f B (hi.bval c d).2 (by rw[<-F];exact v)
  rw[u]at h;dsimp only at h;rw[if_pos ok]at h;have G:(θ x).size<=40:=by
   have⟨_,_,L⟩:=pS w z k u;dsimp only at i g;rcases L with⟨rfl,_⟩|⟨rfl,_⟩
   ·rwa[ea l]at i
   rwa[g,ea l]at i
  refine qy hs n (mw x y ps) _ r e (hi.bind k u ok).1 (λp d=>?_) (λc d=>?_) h
  ·simp only[mw,ae]at d;obtain⟨q,o,rfl⟩:=d;have⟨D,E⟩:=hi.valid q (by simp[o]);dsimp only;rw[xN l f _ (eD D),xN l f _ (eD E)];exact j q o
  rcases aK.1 d with d|d
  ·simp only[ke,ae]at d;obtain⟨q,o,rfl⟩:=d;dsimp only;rw[xN l f _ (eD (hi.bval q o).2)];exact hb q o
  simp only[aS]at d;subst d;exact⟨f,G⟩
structure Ru where
 solved:Prop
 wants:Lq
 gives:T
mutual
inductive Der (S:Ru->Prop):T->Nat->Prop
 |mk {r:Ru}{n:Nat}:S r->DerL S r.wants n->Der S r.gives (n+1)
inductive DerL (S:Ru->Prop):Lq->Nat->Prop
 |nil:DerL S [] 0
 |cons {t:T}{l:Lq}{n m:Nat}:Der S t n->DerL S l m->DerL S (t::l) (n+m)
end
theorem DerL.append{S:Ru->Prop}:∀ {l m:Lq}{a b:Nat},DerL S l a->DerL S m b->DerL S (l++m) (a+b)
 |[],m,a,b,h1,h2=>by cases h1;rw[bu];exact h2
 |t::l,m,a,b,h1,h2=>by
  cases h1 with
  |cons h h1=>rw[gO];exact .cons h (h1.append h2)
theorem DerL.split{S:Ru->Prop}:∀ {l m:Lq}{a:Nat},DerL S (l++m) a->∃b c,DerL S l b/\DerL S m c/\a=b+c
 |[],m,a,h=>⟨0,a,.nil,h,o_⟩
 |t::l,m,a,h=>by
  cases h with
  |cons h h1=>obtain⟨b,c,k1,k2,rfl⟩:=h1.split;exact⟨_,c,.cons h k1,k2,o_⟩
theorem DerL.perm{S:Ru->Prop}{l m:Lq}(p:l.Perm m):∀ {a:Nat},DerL S l a->DerL S m a:=by
 induction p with
 |nil=>exact λh=>h
 |cons x p e=>
  intro a h;cases h with
  |cons h b=>exact .cons h (e b)
 |swap x y l=>
  intro a h;cases h with
  |cons h b=>
   cases b with
   |cons f g=>have:=DerL.cons f (DerL.cons h g);rwa[show ∀p q r:Nat,p+(q+r)=q+(p+r)from λp q r=>o_]at this
 |trans p q c d=>exact λh=>d (c h)
theorem DerL.mem{S:Ru->Prop}:∀ {l:Lq}{a:Nat}{t:T},DerL S l a->t∈l->∃b,b<=a/\Der S t b
 |x::l,a,t,h,hm=>by
  cases h with
  |cons h h1=>
   rcases aV.1 hm with rfl|hm
   ·exact⟨_,o_,h⟩
   have⟨b,hb,k⟩:=h1.mem hm;exact⟨b,o_,k⟩
def Sat(S:Ru->Prop):Prop:=∀r:Ru,S r->¬r.solved->∃a rest,r.wants.Perm (a::rest)/\∀q:Ru,S q->q.solved->q.gives=a ->
 (∃d more,S d/\d.gives=r.gives/\(q.wants++rest).Perm (d.wants++more))\/r.gives∈q.wants++rest
theorem GJ{S:Ru->Prop}(hs:Sat S):∀(n:Nat) (g:T),Der S g n->∃r m,S r/\r.solved/\r.gives=g/\DerL S r.wants m/\m+1<=n:=by
 intro n;induction n using Nat.strongRecOn with
 |_ n i=>
  intro g h;cases h with
  | @mk r k hr hk=>
   by_cases f:r.solved
   ·exact⟨r,k,hr,f,rfl,hk,aP _⟩
   have⟨a,t,v,w⟩:=hs r hr f;have j:=hk.perm v;cases j with
   | @cons _ _ n1 n2 h1 h2=>
    have⟨q,m,x,y,z,u,J⟩:=i n1 o_ a h1;rcases w q x y z with⟨d,more,A,B,D⟩|E
    ·have F:=(u.append h2).perm D;have⟨b,c,G,_,e⟩:=F.split;have:=i (b+1) o_ _ (Der.mk A G);rw[B]at this;have⟨l,o,p,s,a3,a4,a5⟩:=this;exact⟨l,o,p,s,a3,a4,o_⟩
    have⟨b,K,I⟩:=(u.append h2).mem E;have⟨l,o,p,s,a3,a4,a5⟩:=i b o_ _ I;exact⟨l,o,p,s,a3,a4,o_⟩
def OZ(S R:Ru->Prop):Prop:=∀r,R r->(∃d more,S d/\d.gives=r.gives/\r.wants.Perm (d.wants++more))\/r.gives∈r.wants
theorem HQ{S R:Ru->Prop}(hc:OZ S R):∀(n:Nat) (g:T),Der R g n->∃m,m<=n/\Der S g m:=by
 intro n;induction n using Nat.strongRecOn with
 |_ n p=>
  intro g h;cases h with
  | @mk r k hr hk=>
   rcases hc r hr with⟨d,more,s,u,v⟩|q
   ·have f:∀ {l:Lq}{b:Nat},DerL R l b->b<=k->∃c,c<=b/\DerL S l c:=by
     intro l;induction l with
     |nil=>intro b a _;cases a;exact⟨0,o_,.nil⟩
     |cons t l i=>
      intro b a w;cases a with
      | @cons _ _ n1 n2 h1 h2=>have⟨x,D,j⟩:=p n1 o_ t h1;have⟨y,E,o⟩:=i h2 o_;exact⟨x+y,o_,.cons j o⟩
    have j:=hk.perm v;have⟨b,c,o,_,e⟩:=j.split;have⟨z,F,A⟩:=f o o_;exact⟨z+1,o_,u▸Der.mk s A⟩
   have⟨b,a,B⟩:=hk.mem q;have⟨m,q,h⟩:=p b o_ _ B;exact⟨m,o_,h⟩
theorem Fk{θ:T->T}{l:Lb}(hl:∀b∈l,θ b.1=bc θ b.2):∀t:T,bc θ (cy l t)=bc θ t:=by
 refine T.ind λt c=>?_
 rw[fh];by_cases k:t.kind=1
 ·rw[if_pos k,ea k];rcases iF l t with e|⟨b,d,f,e⟩
  ·rw[e,ea k]
  have g:=cmp_zero.1 f;subst g;rw[e,<-hl b d]
 rw[if_neg k,dz (t:=.mk t.kind t.name t.sort (t.kids.map (cy l))) k,dz k];change T.mk t.kind t.name t.sort ((t.kids.map (cy l)).map (bc θ))=_;rw[eG];congr 1
 exact bf λa h=>c a h
def after(θ:T->T) (l:Lb):T->T:=λx=>bc θ (dp l x)
theorem yQ{θ:T->T}{l:Lb}:∀t:T,bc (after θ l) t=bc θ (cy l t):=by
 refine T.ind λt b=>?_
 rw[fh];by_cases k:t.kind=1
 ·rw[if_pos k,ea k];rfl
 rw[if_neg k,dz (t:=.mk t.kind t.name t.sort (t.kids.map (cy l))) k,dz k];change _=T.mk t.kind t.name t.sort ((t.kids.map (cy l)).map (bc θ));rw[eG];congr 1
 exact bf λa c=>b a c
def vH(l:Lb):Prop:=∀b∈l,b.1.kind=1/\(b.1.sort≠0->(b.2.kind=1\/b.2.kind=2)/\b.2.sort=b.1.sort)
theorem size_pos(t:T):0<t.size:=by rw[size_kids];omega
theorem CV{θ:T->T}{l:Lb}(hs:fS θ) (hl:vH l):fS (after θ l):=by
 refine⟨λx f c=>?_,λx=>size_pos _⟩;unfold after;rcases iF l x with e|⟨b,g,i,e⟩
 ·rw[e,ea f];exact hs.1 x f c
 have j:=cmp_zero.1 i;subst j;have⟨_,h⟩:=hl b g;have⟨a,d⟩:=h c;rw[e];rcases a with a|a
 ·rw[ea a];have:=hs.1 b.2 a (by rw[d];exact c);rwa[d]at this
 rw[dz (by rw[a];decide)];exact⟨a,d⟩
def bd(l:List Fa):Lq:=(l.filter λf=>decide (f.kind=1)).map λf=>f.terms.headD (.mk 0 ⟨#[]⟩ 0 [])
def dQ(f:Fa):T:=f.terms.headD (.mk 0 ⟨#[]⟩ 0 [])
theorem jQ(l m:List Fa):bd (l++m)=bd l++bd m:=by simp[bd]
theorem yu{l m:List Fa}(p:l.Perm m):(bd l).Perm (bd m):=(p.filter _).map _
def Lz(c:Cl) (θ:T->T):Ru:=⟨kc c=true,(bd c.body).map (bc θ),bc θ (dQ c.head)⟩
def vF(l:List Cl):Ru->Prop:=λr=>∃c∈l,∃θ,c.head.kind=1/\fS θ/\r=Lz c θ/\r.gives.size<=40/\∀w∈r.wants,w.size<=40
def ot(c:Cl):Prop:=∀f∈aN c,f.terms≠[]
theorem xz{l:Lb}{f:Fa}(h:f.terms≠[]):dQ (cD l f)=cy l (dQ f):=by
 unfold dQ cD;cases b:f.terms with
 |nil=>exact absurd b h
 |cons a m=>rfl
theorem wA{l:Lb}:∀ {b:List Fa},(∀f∈b,f.terms≠[])->bd (b.map (cD l))=(bd b).map (cy l)
 |[],_=>rfl
 |f::b,h=>by
  have ih:=wA (l:=l) (b:=b) λg a=>h g (by simp[a])
  have d:=xz (l:=l) (h f s_);unfold bd at ih ⊢;rw[aM,eC,eC];have c:(cD l f).kind=f.kind:=rfl;rw[c];split
  ·rw[aM,aM,aM,ih];congr 1
  exact ih
theorem G7{θ:T->T}{l:Lb}{c:Cl}(hc:ot c):(bd (fK l c).body).map (bc θ)=(bd c.body).map (bc (after θ l))/\bc θ (dQ (fK l c).head)=bc (after θ l) (dQ c.head):=by
 constructor
 ·change (bd (c.body.map (cD l))).map (bc θ)=_;rw[wA λf a=>hc f (by simp[aN,a]),eG];exact bf λt _=>(yQ t).symm
 change bc θ (dQ (cD l c.head))=_;rw[xz (hc c.head (by simp[aN])),<-yQ]
theorem Mu{θ:T->T}{l:Lb}{c:Cl}(hc:ot c) (hl:∀b∈l,θ b.1=bc θ b.2):(bd (fK l c).body).map (bc θ)=(bd c.body).map (bc θ)/\bc θ (dQ (fK l c).head)=bc θ (dQ c.head):=by
 constructor
 ·change (bd (c.body.map (cD l))).map (bc θ)=_;rw[wA λf a=>hc f (by simp[aN,a]),eG];exact bf λt _=>Fk hl t
 change bc θ (dQ (cD l c.head))=_;rw[xz (hc c.head (by simp[aN])),Fk hl]
mutual
def wd(s:Lb):T->T->Option (Lb)
 |.mk k n so l,t=>if k=1 then(match s.find? λb=>decide (b.1.cmp (.mk k n so l)=0)with
   |some b=>if b.2.cmp t=0 then some s else none
   |none=>if gm (.mk k n so l) t=true then some (s++[(.mk k n so l,t)])else none)
  else if k=t.kind/\n=t.name/\so=t.sort/\l.length=t.kids.length then nB s l t.kids else none
def nB(s:Lb):Lq->Lq->Option (Lb)
 |p::ps,ts=>match ts with
  |t::ts=>(match wd s p t with
   |some s1=>nB s1 ps ts
   |none=>none)
  |[]=>some s
 |[],_=>some s
end
theorem C4(s:Lb) (p t:T):wd s p t=if p.kind=1 then(match s.find? λb=>decide (b.1.cmp p=0)with
   |some b=>if b.2.cmp t=0 then some s else none
   |none=>if gm p t=true then some (s++[(p,t)])else none)
  else if p.kind=t.kind/\p.name=t.name/\p.sort=t.sort/\p.kids.length=t.kids.length then nB s p.kids t.kids else none:=by
 cases p;rw[wd];rfl
def bnd(s:Lb) (p:T):Prop:=∀v∈bm bD p,v.kind=1->∃b∈s,b.1=v
theorem E0{s:Lb}(m:Lb):∀ {v:T},(∃b∈s,b.1=v)->dp (s++m) v=dp s v:=by
 induction s with
 |nil=>rintro v ⟨b,c,_⟩;simp at c
 |cons a s d=>
  rintro v ⟨b,c,e⟩;rw[cV,dp,dp];split
  ·rfl
  rename_i h;refine d ⟨b,?_,e⟩;rcases aV.1 c with rfl|c
  ·exact absurd (cmp_zero.2 e) h
  exact c
theorem ET{s:Lb}(m:Lb):∀p:T,bnd s p->cy (s++m) p=cy s p:=by
 refine T.ind λp d b=>?_
 rw[fh,fh];by_cases k:p.kind=1
 ·rw[if_pos k,if_pos k,E0 m (b p (dD p) k)]
 rw[if_neg k,if_neg k];congr 1
 exact bf λa c=>d a c λv e f=>b v (mem_walk.2 (.inr ⟨a,c,e⟩)) f
theorem JP{s:Lb}(m:Lb){p:T}(h:bnd s p):bnd (s++m) p:=λv a c=>by have⟨b,d,e⟩:=h v a c;exact⟨b,aa _ d,e⟩
theorem wt:∀ {s:Lb}{p:T}{b:T × T},s.find? (λb=>decide (b.1.cmp p=0))=some b->dp s p=b.2/\b∈s/\b.1=p
 |a::s,p,b,h=>by
  rw[mI]at h;rw[dp];by_cases e:a.1.cmp p=0
  ·rw[decide_eq_true e]at h;simp only[aA]at h;subst h;rw[if_pos e];exact⟨rfl,s_,cmp_zero.1 e⟩
  rw[decide_eq_false e]at h;have⟨h1,h2,h3⟩:=wt h;rw[if_neg e];exact⟨h1,by simp[h2],h3⟩
theorem yD:∀ {s:Lb}{p:T},s.find? (λb=>decide (b.1.cmp p=0))=none->∀m,dp (s++(p,m)::[]) p=m
 |[],p,_,m=>by rw[cN,dp,if_pos (cmp_zero.2 rfl)]
 |a::s,p,h,m=>by
  rw[mI]at h;by_cases e:a.1.cmp p=0
  ·rw[decide_eq_true e]at h;cases h
  rw[decide_eq_false e]at h;rw[cV,dp,if_neg e];exact yD h m
structure Mat (s s':Lb) (p t:T):Prop where
 ext:∃m,s'=s++m
 put:cy s' p=t
 bound:bnd s' p
 fit:vH s->vH s'
structure Mats (s s':Lb) (ps ts:Lq):Prop where
 ext:∃m,s'=s++m
 put:ps.map (cy s')=ts
 bound:∀p∈ps,bnd s' p
 fit:vH s->vH s'
theorem Kg{x t:T}(h:gm x t=true) (hs:x.sort≠0):(t.kind=1\/t.kind=2)/\t.sort=x.sort:=by unfold gm at h;simp only[bz,bI,decide_eq_true_eq]at h;have:=xe (eF (bg h.1.1.2).1);have:=h.2.resolve_left hs;omega
theorem Ej{ps:Lq}(ih:∀p∈ps,∀(s s':Lb) (t:T),jI p->wd s p t=some s'->Mat s s' p t):∀(s s':Lb) (ts:Lq),(∀p∈ps,jI p)->ps.length=ts.length->nB s ps ts=some s'->Mats s s' ps ts:=by
 induction ps with
 |nil=>
  intro s s' ts _ d h;cases ts with
  |nil=>rw[nB]at h;simp only[aA]at h;subst h;exact⟨⟨[],s_⟩,rfl,s_,id⟩
  |cons t ts=>simp at d
 |cons p ps e=>
  intro s s' ts g d h;cases ts with
  |nil=>simp at d
  |cons t ts=>
   rw[nB]at h;split at h<;>try(cases h;done)
   rename_i i j;have a:=ih p s_ s i t (g p s_) j;have b:=e (λq c=>ih q (by simp[c])) i s' ts (λq c=>g q (by simp[c])) (by simpa using d) h;obtain⟨k,rfl⟩:=a.ext;obtain⟨f,rfl⟩:=b.ext;refine⟨⟨k++f,s_⟩,?_,?_,λl=>b.fit (a.fit l)⟩
   ·rw[aM,b.put,ET f p a.bound,a.put]
   intro q c;rcases aV.1 c with rfl|c
   ·exact JP f a.bound
   exact b.bound q c
theorem Pc:∀(p:T) (s s':Lb) (t:T),jI p->wd s p t=some s'->Mat s s' p t:=by
 refine T.ind λp o s s' t m h=>?_
 rw[C4]at h;by_cases k:p.kind=1
 ·have i:=m p (dD p) k;have c:∀v∈bm bD p,v=p:=λv f=>by
   rcases mem_walk.1 f with e|⟨a,n,_⟩
   ·exact e
   rw[i]at n;simp at n
  rw[if_pos k]at h;split at h
  ·rename_i b j;have⟨r,u,w⟩:=wt j;split at h<;>try(cases h;done)
   rename_i l;simp only[aA]at h;subst h;refine⟨⟨[],s_⟩,?_,λv f _=>⟨b,u,w.trans (c v f).symm⟩,id⟩;rw[fh,if_pos k,r];exact cmp_zero.1 l
  rename_i j;split at h<;>try(cases h;done)
  rename_i l;simp only[aA]at h;subst h;refine⟨⟨_,rfl⟩,?_,λv f _=>⟨(p,t),s_,(c v f).symm⟩,λx b d=>?_⟩
  ·rw[fh,if_pos k];exact yD j t
  rcases aK.1 d with d|d
  ·exact x b d
  simp only[aS]at d;subst d;exact⟨k,λy=>Kg l y⟩
 rw[if_neg k]at h;split at h<;>try(cases h;done)
 rename_i g;have⟨z,A,B,D⟩:=g;have a:=Ej o s s' t.kids (λq g=>kI m g) D h;refine⟨a.ext,?_,?_,a.fit⟩
 ·rw[fh,if_neg k,a.put,z,A,B];cases t;rfl
 intro v f i;rcases mem_walk.1 f with e|⟨q,g,d⟩
 ·subst e;exact absurd i k
 exact a.bound q g v d i
def tP(s:Lb) (f g:Fa):Option (Lb):=if f.kind=g.kind/\f.goal=g.goal/\f.terms.length=g.terms.length then nB s f.terms g.terms else none
def pi{α:Type}:List α->List (α × List α)
 |[]=>[]
 |x::l=>(x,l)::(pi l).map λp=>(p.1,x::p.2)
theorem vY{α:Type}:∀ {l:List α}{p:α × List α},p∈pi l->l.Perm (p.1::p.2)
 |x::l,p,h=>by
  rw[pi]at h;rcases aV.1 h with rfl|h
  ·exact .refl _
  obtain⟨q,hq,rfl⟩:=ae.1 h;exact((vY hq).cons x).trans (.swap q.1 x q.2)
def apB(s:Lb):List Fa->List Fa->Bool
 |[],_=>true
 |f::a,b=>(pi b).any λp=>match tP s f p.1 with
  |some t=>apB t a p.2
  |none=>false
def gD(a b:Cl):Bool:=decide (bY a=0)&&decide (bY b=0)&&(match tP [] a.head b.head with
 |some s=>apB s a.body b.body
 |none=>false)
def AS(f:Fa):Prop:=∀t∈f.terms,jI t
def T5(s:Lb) (f:Fa):Prop:=∀t∈f.terms,bnd s t
theorem Bn{s:Lb}(m:Lb){f:Fa}(h:T5 s f):cD (s++m) f=cD s f:=by
 unfold cD;congr 1
 exact bf λt a=>ET m t (h t a)
structure MatF (s s':Lb) (f g:Fa):Prop where
 ext:∃m,s'=s++m
 put:cD s' f=g
 bound:T5 s' f
 fit:vH s->vH s'
theorem IW{s s':Lb}{f g:Fa}(hf:AS f) (h:tP s f g=some s'):MatF s s' f g:=by
 unfold tP at h;split at h<;>try(cases h;done)
 rename_i b;have⟨c,d,e⟩:=b;have a:=Ej (ps:=f.terms) (λp _=>Pc p) s s' g.terms hf e h;refine⟨a.ext,?_,a.bound,a.fit⟩;unfold cD;rw[a.put,c,d]
theorem OF:∀(a b:List Fa) (s:Lb),(∀f∈a,AS f)->apB s a b=true->∃m more,b.Perm (a.map (cD (s++m))++more)/\(∀f∈a,T5 (s++m) f)/\(vH s->vH (s++m))
 |[],b,s,_,_=>⟨[],b,.refl _,s_,s_⟩
 |f::a,b,s,hl,h=>by
  rw[apB,dT]at h;have⟨p,hp,h⟩:=h;split at h<;>try(cases h;done)
  rename_i t l;have x:=IW (hl f s_) l;obtain⟨e,rfl⟩:=x.ext;have⟨c,more,i,j,k⟩:=OF a p.2 (s++e) (λg d=>hl g (by simp[d])) h;rw[List.append_assoc]at i j k;refine⟨e++c,more,?_,?_,λn=>k (x.fit n)⟩
  ·refine(vY hp).trans ?_;rw[aM,cV,<-List.append_assoc s e c,Bn c x.bound,x.put,List.append_assoc s e c];exact i.cons p.1
  intro g d;rcases aV.1 d with rfl|d
  ·intro u o;rw[<-List.append_assoc];exact JP c (x.bound u o)
  exact j g d
theorem AR{f:Fa}(h:eZ f=0):AS f:=λt a=>eD ((eS h).2.2 t a)
theorem pM{c:Cl}(h:bY c=0):∀f∈aN c,AS f:=λf a=>AR ((dH h).2 f a)
theorem fa{c:Cl}(h:bY c=0):ot c:=λf a=>(eS ((dH h).2 f a)).1
theorem ze{a b:Cl}(h:gD a b=true):∃σ more,vH σ/\cD σ a.head=b.head/\b.body.Perm (a.body.map (cD σ)++more):=by
 unfold gD at h;simp only[bI,decide_eq_true_eq]at h;have⟨⟨c,_⟩,h⟩:=h;split at h<;>try(cases h;done)
 rename_i s d;have x:=IW (pM c a.head (by simp[aN])) d;have⟨m,more,e,_,g⟩:=OF a.body b.body s (λf i=>pM c f (by simp[aN,i])) h;refine⟨s++m,more,g (x.fit λb j=>by simp at j),?_,e⟩;rw[Bn m x.bound,x.put]
theorem zf{a b:Cl}(h:gD a b=true){θ:T->T}(hs:fS θ):∃θ',fS θ'/\bc θ' (dQ a.head)=bc θ (dQ b.head)/\a.head.kind=b.head.kind/\∃more,((bd b.body).map (bc θ)).Perm ((bd a.body).map (bc θ')++more):=by
 have d:bY a=0:=by unfold gD at h;simp only[bI,decide_eq_true_eq]at h;exact h.1.1
 have⟨σ,more,e,c,f⟩:=ze h;have g:=fa d;have⟨i,j⟩:=G7 (θ:=θ) (l:=σ) g;refine⟨after θ σ,CV hs e,?_,by rw[<-c];rfl,(bd more).map (bc θ),?_⟩
 ·rw[<-j,<-c];rfl
 rw[<-i];have:=(yu f).map (bc θ);rw[jQ,List.map_append]at this;exact this
theorem Fl{θ θ2 ρ:T->T}:∀t:T,(∀v∈bm bD t,v.kind=1->bc θ2 (ρ v)=θ v)->bc θ2 (bc ρ t)=bc θ t:=by
 refine T.ind λt c h=>?_
 by_cases k:t.kind=1
 ·rw[ea k,ea k];exact h t (dD t) k
 rw[dz k,dz k,dz (t:=.mk t.kind t.name t.sort (t.kids.map (bc ρ))) k];change T.mk t.kind t.name t.sort ((t.kids.map (bc ρ)).map (bc θ2))=_;rw[eG];congr 1
 exact bf λa b=>c a b λv d e=>h v (mem_walk.2 (.inr ⟨a,b,d⟩)) e
theorem Bp(l:Lb):∀t:T,cy l t=bc (dp l) t:=by
 refine T.ind λt b=>?_
 rw[fh,qb];by_cases k:t.kind=1
 ·rw[if_pos k,if_pos k]
 rw[if_neg k,if_neg k];congr 1
 exact bf λa c=>b a c
def asg(L:Lb) (v:T):T:=match L.find? λb=>decide (b.1.cmp v=0)with
 |some b=>b.2
 |none=>.mk 2 v.name v.sort []
theorem vS{L:Lb}(h:∀b∈L,b.1.kind=1->b.1.sort≠0->b.2.kind=2/\b.2.sort=b.1.sort):fS (asg L):=by
 refine⟨λx c d=>?_,λx=>size_pos _⟩;unfold asg;split
 ·rename_i b a;have f:=jA a;have g:=pB a;have e:=cmp_zero.1 (of_decide_eq_true g);subst e;exact h b f c d
 exact⟨rfl,rfl⟩
theorem JQ{L:Lb}(hn:(L.map (·.1)).Nodup){b:T × T}(hb:b∈L):asg L b.1=b.2:=by
 induction L with
 |nil=>simp at hb
 |cons a L c=>
  rw[aM,gd]at hn;unfold asg;rw[mI];by_cases e:a.1.cmp b.1=0
  ·rw[decide_eq_true e];have d:=cmp_zero.1 e;rcases aV.1 hb with rfl|hb
   ·rfl
   exact absurd (ae.2 ⟨b,hb,d.symm⟩) hn.1
  rw[decide_eq_false e];rcases aV.1 hb with rfl|hb
  ·exact absurd (cmp_zero.2 rfl) e
  exact c hn.2 hb
theorem Rr{θ1 θ2 ρ1 ρ2:T->T}{V1 V2:Lq}(h1:fS θ1) (h2:fS θ2) (k1:∀v∈V1,v.kind=1/\(ρ1 v).kind=1/\(ρ1 v).sort=v.sort) (k2:∀v∈V2,v.kind=1/\(ρ2 v).kind=1/\(ρ2 v).sort=v.sort)
  (hn:(V1.map ρ1++V2.map ρ2).Nodup):∃θ,fS θ/\(∀t:T,(∀v∈bm bD t,v.kind=1->v∈V1)->bc θ (bc ρ1 t)=bc θ1 t)/\∀t:T,(∀v∈bm bD t,v.kind=1->v∈V2)->bc θ (bc ρ2 t)=bc θ2 t:=by
 obtain⟨L,g⟩:∃L,L=V1.map (λv=>(ρ1 v,θ1 v))++V2.map (λv=>(ρ2 v,θ2 v)):=⟨_,rfl⟩
 have i:(L.map (·.1)).Nodup:=by rw[g,List.map_append,eG,eG];exact hn
 have k:∀v∈V1,asg L (ρ1 v)=θ1 v:=λv a=>JQ i (b:=(ρ1 v,θ1 v)) (by rw[g];exact aa _ (ae.2 ⟨v,a,rfl⟩))
 have l:∀v∈V2,asg L (ρ2 v)=θ2 v:=λv a=>JQ i (b:=(ρ2 v,θ2 v)) (by rw[g];exact bk _ (ae.2 ⟨v,a,rfl⟩))
 refine⟨asg L,vS λb c d j=>?_,λt e=>Fl t λv a d=>?_,λt e=>Fl t λv a d=>?_⟩
 ·rw[g]at c;rcases aK.1 c with c|c
  ·obtain⟨v,a,rfl⟩:=ae.1 c;have⟨h,m,f⟩:=k1 v a;have:=h1.1 v h (by rw[<-f];exact j);exact⟨this.1,by rw[this.2,f]⟩
  obtain⟨v,a,rfl⟩:=ae.1 c;have⟨h,m,f⟩:=k2 v a;have:=h2.1 v h (by rw[<-f];exact j);exact⟨this.1,by rw[this.2,f]⟩
 ·rw[ea (k1 v (e v a d)).2.1];exact k v (e v a d)
 rw[ea (k2 v (e v a d)).2.1];exact l v (e v a d)
theorem PL{θ1 ρ:T->T}{V:Lq}(h1:fS θ1) (k:∀v∈V,v.kind=1/\(ρ v).kind=1/\(ρ v).sort=v.sort) (hn:(V.map ρ).Nodup):∃θ,fS θ/\∀t:T,(∀v∈bm bD t,v.kind=1->v∈V)->bc θ (bc ρ t)=bc θ1 t:=by have⟨θ,a,b,_⟩:=Rr (V2:=[]) (ρ2:=ρ) h1 h1 k s_ (by simpa using hn);exact⟨θ,a,b⟩
def cq(ρ:T->T) (f:Fa):Fa:=⟨f.kind,f.goal,f.terms.map (bc ρ)⟩
def il(ρ:T->T) (c:Cl):Cl:=⟨c.body.map (cq ρ),cq ρ c.head⟩
theorem yA{ρ:T->T}{f:Fa}(h:f.terms≠[]):dQ (cq ρ f)=bc ρ (dQ f):=by
 unfold dQ cq;cases b:f.terms with
 |nil=>exact absurd b h
 |cons a m=>rfl
theorem sZ{ρ:T->T}:∀ {b:List Fa},(∀f∈b,f.terms≠[])->bd (b.map (cq ρ))=(bd b).map (bc ρ)
 |[],_=>rfl
 |f::b,h=>by
  have ih:=sZ (ρ:=ρ) (b:=b) λg a=>h g (by simp[a])
  have d:=yA (ρ:=ρ) (h f s_);unfold bd at ih ⊢;rw[aM,eC,eC];have c:(cq ρ f).kind=f.kind:=rfl;rw[c];split
  ·rw[aM,aM,aM,ih];congr 1
  exact ih
def zX(V:Lq) (fs:List Fa):Prop:=∀f∈fs,∀t∈f.terms,∀v∈bm bD t,v.kind=1->v∈V
theorem rP{f:Fa}(h:f.terms≠[]):dQ f∈f.terms:=by
 unfold dQ;cases b:f.terms with
 |nil=>exact absurd b h
 |cons a m=>simp
theorem qD{fs:List Fa}(h:∀f∈fs,f.terms≠[]){t:T}(ht:t∈bd fs):∃f∈fs,t∈f.terms:=by obtain⟨f,b,rfl⟩:=ae.1 ht;have a:=(cE.1 b).1;exact⟨f,a,rP (h f a)⟩
theorem Hk{pre post:List Fa}{sel:Fa}(hk:sel.kind=1):(bd (pre++sel::post)).Perm (dQ sel::bd (pre++post)):=by
 have e:bd (sel::post)=dQ sel::bd post:=by unfold bd;rw[eC,if_pos (by simp[hk]),aM];rfl
 rw[jQ,jQ,e];exact lM
theorem Cf{ρ1 ρ2 θ1 θ2:T->T}{V1 V2:Lq}(s1:fS θ1) (s2:fS θ2) (k1:∀v∈V1,v.kind=1/\(ρ1 v).kind=1/\(ρ1 v).sort=v.sort) (k2:∀v∈V2,v.kind=1/\(ρ2 v).kind=1/\(ρ2 v).sort=v.sort) (hn:(V1.map ρ1++V2.map ρ2).Nodup)
  {c1 c2:Cl}(t1:ot c1) (t2:ot c2) (v1:zX V1 (aN c1)) (v2:zX V2 (aN c2)){sel:Fa}{pre post:List Fa}(hb:c2.body=pre++sel::post)
  (heq:bc θ1 (dQ c1.head)=bc θ2 (dQ sel)) (hz:(bc θ2 (dQ sel)).size<=40){U:Lq}{K n:Nat}{r:Lb}{e:Int}(hi:InvU U K [(bc ρ1 (dQ c1.head),bc ρ2 (dQ sel))] []) (hr:gg AZ n [(bc ρ1 (dQ c1.head),bc ρ2 (dQ sel))] []=some (r,e)) :
  e=0/\∀l:Lb,(∀b∈l,b∈r)->∃θ,fS θ/\(bd (fK l ⟨c1.body.map (cq ρ1)++(pre++post).map (cq ρ2),cq ρ2 c2.head⟩).body).map (bc θ)=(bd c1.body).map (bc θ1)++(bd (pre++post)).map (bc θ2) /\
   bc θ (dQ (fK l ⟨c1.body.map (cq ρ1)++(pre++post).map (cq ρ2),cq ρ2 c2.head⟩).head)=bc θ2 (dQ c2.head):=by
 have⟨θ,z,A,q⟩:=Rr s1 s2 k1 k2 hn;have i:sel∈aN c2:=by simp[aN,hb]
 have D:bc θ (bc ρ1 (dQ c1.head))=bc θ1 (dQ c1.head):=A _ λv c d=>v1 c1.head (by simp[aN]) _ (rP (t1 c1.head (by simp[aN]))) v c d
 have E:bc θ (bc ρ2 (dQ sel))=bc θ2 (dQ sel):=q _ λv c d=>v2 sel i _ (rP (t2 sel i)) v c d
 have k:=qy z n _ _ r e hi (λp B=>by simp only[aS]at B;subst B;dsimp only;rw[D,E,heq];exact⟨rfl,hz⟩) (λb hb=>by simp at hb) hr
 refine⟨k.1,λl F=>⟨θ,z,?_⟩⟩;have s:∀f∈c1.body,f.terms≠[]:=λf a=>t1 f (by simp[aN,a])
 have m:∀f∈pre++post,f∈aN c2:=λf a=>by
  simp only[aN,hb,aK,aV]at a ⊢;rcases a with a|a
  ·exact .inl (.inl a)
  exact .inl (.inr (.inr a))
 have u:∀f∈pre++post,f.terms≠[]:=λf a=>t2 f (m f a)
 have G:ot ⟨c1.body.map (cq ρ1)++(pre++post).map (cq ρ2),cq ρ2 c2.head⟩:=by
  intro f a;have w:∀(ρ:T->T) (g:Fa),g.terms≠[]->(cq ρ g).terms≠[]:=λρ g o h=>o (by simpa[cq]using h)
  simp only[aN,aK,ae,aS]at a;rcases a with(⟨g,o,rfl⟩|⟨g,o,rfl⟩)|rfl
  ·exact w _ g (s g o)
  ·exact w _ g (u g (aK.2 o))
  exact w _ _ (t2 c2.head (by simp[aN]))
 have⟨I,J⟩:=Mu (θ:=θ) G λb hb=>k.2 b (F b hb)
 refine⟨?_,?_⟩
 ·rw[I];change (bd (c1.body.map (cq ρ1)++(pre++post).map (cq ρ2))).map (bc θ)=_;rw[jQ,sZ s,sZ u,List.map_append,eG,eG];congr 1
  ·refine bf λt j=>?_
   have⟨f,a,x⟩:=qD s j;exact A t λv c d=>v1 f (by simp[aN,a]) t x v c d
  refine bf λt j=>?_
  have⟨f,a,x⟩:=qD u j;exact q t λv c d=>v2 f (m f a) t x v c d
 rw[J];change bc θ (dQ (cq ρ2 c2.head))=_;have y:c2.head∈aN c2:=by simp[aN]
 rw[yA (t2 _ y)];exact q _ λv c d=>v2 c2.head y _ (rP (t2 _ y)) v c d
def ii(c:Cl) (θ:T->T):Lq:=(bd c.body).map (bc θ)
def fu(c:Cl) (θ:T->T):T:=bc θ (dQ c.head)
def cov(d c:Cl):Prop:=d.head.kind=c.head.kind/\∀θ,fS θ->∃θ',fS θ'/\fu d θ'=fu c θ/\∃more,(ii c θ).Perm (ii d θ'++more)
theorem Nc(c:Cl):cov c c:=⟨rfl,λθ h=>⟨θ,h,rfl,[],s_⟩⟩
theorem lL{a b c:Cl}(h1:cov a b) (h2:cov b c):cov a c:=by refine⟨h1.1.trans h2.1,λθ h=>?_⟩;have⟨θ',d,e,m,f⟩:=h2.2 θ h;have⟨θ'',g,i,j,k⟩:=h1.2 θ' d;exact⟨θ'',g,i.trans e,j++m,f.trans (by rw[<-List.append_assoc];exact k.append_right m)⟩
theorem CC{a b:Cl}(h:gD a b=true):cov a b:=by have⟨_,_,_,c,_⟩:=zf h (vS (L:=[]) s_);refine⟨c,λθ d=>?_⟩;have⟨θ',e,f,_,g⟩:=zf h d;exact⟨θ',e,f,g⟩
theorem DP{d c:Cl}(hh:d.head=c.head){more:List Fa}(hp:c.body.Perm (d.body++more)):cov d c:=by refine⟨by rw[hh],λθ h=>⟨θ,h,by unfold fu;rw[hh],(bd more).map (bc θ),?_⟩⟩;have:=(yu hp).map (bc θ);rw[jQ,List.map_append]at this;exact this
theorem QP{c:Cl}{ρ:T->T}{V:Lq}(ht:ot c) (hv:zX V (aN c)) (k:∀v∈V,v.kind=1/\(ρ v).kind=1/\(ρ v).sort=v.sort) (hn:(V.map ρ).Nodup):cov (il ρ c) c:=by
 refine⟨rfl,λθ h=>?_⟩;have⟨θ',a,b⟩:=PL h k hn;have m:∀f∈c.body,f.terms≠[]:=λf d=>ht f (by simp[aN,d])
 have e:c.head∈aN c:=by simp[aN]
 refine⟨θ',a,?_,[],?_⟩
 ·unfold fu;change bc θ' (dQ (cq ρ c.head))=_;rw[yA (ht _ e)];exact b _ λv g i=>hv c.head e _ (rP (ht _ e)) v g i
 unfold ii;change ((bd c.body).map (bc θ)).Perm ((bd (c.body.map (cq ρ))).map (bc θ')++[]);rw[sZ m,eG,br];refine .of_eq (bf λt j=>?_);have⟨f,d,g⟩:=qD m j;exact(b t λv l i=>hv f (by simp[aN,d]) t g v l i).symm
theorem Jd{c:Cl}(hk:c.head.kind=1) (h:c.head∈c.body) (θ:T->T):fu c θ∈ii c θ:=
 ae.2 ⟨dQ c.head,ae.2 ⟨c.head,cE.2 ⟨h,by simp[hk]⟩,rfl⟩,rfl⟩
def had(S:List Cl) (gives:T) (wants:Lq):Prop:=(∃d∈S,d.head.kind=1/\∃θ,fS θ/\fu d θ=gives/\∃more,wants.Perm (ii d θ++more))\/gives∈wants
theorem M4{S:List Cl}{s c:Cl}(hk:c.head.kind=1) (h1:cov s c) (h2:s.head∈s.body\/∃d∈S,cov d s){θ:T->T}(hs:fS θ):had S (fu c θ) (ii c θ):=by
 have⟨θ',j,b,more,e⟩:=h1.2 θ hs;rcases h2 with h2|⟨d,f,h2⟩
 ·refine .inr ?_;have:=Jd (h1.1.trans hk) h2 θ';rw[b]at this;exact e.mem_iff.2 (aa _ this)
 have a:=lL h2 h1;have⟨θ'',g,h,m,i⟩:=a.2 θ hs;exact .inl ⟨d,f,a.1.trans hk,θ'',g,h,m,i⟩
theorem SV{S:List Cl}(hval:∀c∈S,bY c=0) (hres:∀c1∈S,∀c2∈S,kc c1=true->c1.head.kind=1->c2.head.kind=1->∀pre sel post,c2.body=pre++sel::post->gU sel=true->(∀f∈pre,gU f=false)->∀θ1 θ2,fS θ1->fS θ2->fu c1 θ1=bc θ2 (dQ sel)->(bc θ2 (dQ sel)).size<=40 ->
  had S (fu c2 θ2) (ii c1 θ1++(bd (pre++post)).map (bc θ2))):Sat (vF S):=by
 rintro r ⟨c2,k,θ2,o,I,rfl,J,D⟩ p;have j:¬kc c2=true:=p;have l:c2.body.any gU=true:=by unfold kc at j;rw[decide_eq_true (hval c2 k),kL]at j;simpa using j
 have first:∀b:List Fa,b.any gU=true->∃pre sel post,b=pre++sel::post/\gU sel=true/\∀f∈pre,gU f=false:=by
  intro b;induction b with
  |nil=>intro h;cases h
  |cons a b K=>
   intro h;by_cases e:gU a=true
   ·exact⟨[],a,b,rfl,e,s_⟩
   rw[mD,show gU a=false by simpa using e,gQ]at h;obtain⟨pre,sel,post,rfl,L,M⟩:=K h;exact⟨a::pre,sel,post,rfl,L,λf s=>by
    rcases aV.1 s with rfl|s
    ·simpa using e
    exact M f s⟩
 have⟨pre,sel,post,E,i,m⟩:=first c2.body l
 have N:sel.kind=1:=by unfold gU at i;simp only[bI,decide_eq_true_eq]at i;exact i.1
 have g:(Lz c2 θ2).wants.Perm (bc θ2 (dQ sel)::(bd (pre++post)).map (bc θ2)):=by change ((bd c2.body).map (bc θ2)).Perm _;rw[E];exact(Hk N).map (bc θ2)
 refine⟨_,_,g,?_⟩;rintro q ⟨c1,t,θ1,u,O,rfl,Q,v⟩ x y;have z:(bc θ2 (dQ sel)).size<=40:=D _ (g.mem_iff.2 s_);have:=hres c1 t c2 k x u o pre sel post E i m θ1 θ2 O I y z;rcases this with⟨d,U,A,θ,V,F,more,G⟩|h
 ·refine .inl ⟨Lz d θ,more,⟨d,U,θ,A,V,rfl,?_,λw B=>?_⟩,F,G⟩
  ·change (fu d θ).size<=40;rw[F];exact J
  have n:w∈ii c1 θ1++(bd (pre++post)).map (bc θ2):=G.mem_iff.2 (aa _ B);rcases aK.1 n with n|n
  ·exact v w n
  exact D w (g.mem_iff.2 (bP _ n))
 exact .inr h
theorem wu{α:Type}(p:α->Bool):∀l:List α,l.Perm (l.filter p++l.filter λa=>!p a)
 |[]=>.refl _
 |a::l=>by
  have ih:=wu p l;cases h:p a
  ·rw[eC,eC,h];simp only[aT,if_false,Bool.not_false,if_true];exact(ih.cons a).trans lM.symm
  rw[eC,eC,h];simp only[if_true,dC,aT,if_false,cV];exact ih.cons a
def pD{α:Type}(p:List α->α->Bool) (l:List α) (out:List α):List α:=l.foldl (λo a=>if p o a then o else o++[a]) out
theorem vh{α:Type}(p:List α->α->Bool):∀(l out:List α),∃more,(out++l).Perm (pD p l out++more)
 |[],out=>⟨[],by simp[pD]⟩
 |a::l,out=>by
  unfold pD;rw[dc];by_cases h:p out a=true
  ·rw[if_pos h];have⟨more,k⟩:=vh p l out;refine⟨a::more,?_⟩;exact lM.trans ((k.cons a).trans lM.symm)
  rw[if_neg h];have⟨more,k⟩:=vh p l (out++[a]);refine⟨more,?_⟩;rw[show out++a::l=(out++[a])++l by simp];exact k
def setF(l:List Fa):List Fa:=pD (λo a=>o.any λg=>decide (kV g a=0)) l []
theorem mX(l:List Fa):∃more,l.Perm (setF l++more):=by have:=vh (λo a=>o.any λg=>decide (kV g a=0)) l [];rwa[cN]at this
theorem Ix{c:Cl}:cov ⟨setF c.body,c.head⟩ c:=by have⟨more,h⟩:=mX c.body;exact DP rfl h
theorem HR{c:Cl}(p:Fa->Bool):cov ⟨c.body.filter p,c.head⟩ c:=DP rfl (wu p c.body)
theorem Nd{c:Cl}{b:List Fa}(h:c.body.Perm b):cov ⟨b,c.head⟩ c:=DP (more:=[]) rfl (by simpa using h)
def sn{α:Type}(gt:α->α->Bool) (a:α):List α->List α
 |[]=>[a]
 |b::l=>if(b::l).any (λx=>!gt x a)then b::sn gt a l else a::b::l
theorem xv{α:Type}(gt:α->α->Bool) (a:α):∀l:List α,(sn gt a l).Perm (a::l)
 |[]=>.refl _
 |b::l=>by
  rw[sn];split
  ·exact((xv gt a l).cons b).trans (.swap a b l)
  exact .refl _
theorem tG(l:Lb) (f:Fa):cD l f=cq (dp l) f:=by
 unfold cD cq;congr 1
 exact bf λt _=>Bp l t
theorem ER(l:Lb) (c:Cl):fK l c=il (dp l) c:=by
 unfold fK il;rw[tG];congr 1
 exact bf λf _=>tG l f
theorem CD{c:Cl}{l:Lb}(ht:ot c) (hb:zX (l.map (·.1)) (aN c)) (hk:∀b∈l,b.1.kind=1/\b.2.kind=1/\b.2.sort=b.1.sort) (h1:(l.map (·.1)).Nodup) (h2:(l.map (·.2)).Nodup):cov (fK l c) c:=by
 have d:∀ {m:Lb},(m.map (·.1)).Nodup->∀b∈m,dp m b.1=b.2:=by
  intro m;induction m with
  |nil=>intro _ b hb;simp at hb
  |cons a m h=>
   intro g b hb;rw[aM,gd]at g;rw[dp];by_cases e:a.1.cmp b.1=0
   ·rw[if_pos e];rcases aV.1 hb with rfl|hb
    ·rfl
    exact absurd (ae.2 ⟨b,hb,(cmp_zero.1 e).symm⟩) g.1
   rw[if_neg e];rcases aV.1 hb with rfl|hb
   ·exact absurd (cmp_zero.2 rfl) e
   exact h g.2 b hb
 rw[ER];refine QP ht hb (λv i=>?_) ?_
 ·obtain⟨b,f,rfl⟩:=ae.1 i;rw[d h1 b f];exact hk b f
 rw[eG];have e:l.map (dp l∘λx=>x.1)=l.map (·.2):=bf λb f=>d h1 b f
 rw[e];exact h2
def mG(l:List Fa):Prop:=∀f∈l,smallT f.terms
def ut(l:List Fa) (f:Fa):Bool:=l.any λg=>decide (kV g f=0)
def Zd(l:List Fa) (f:Fa) (n:Nat) (st:PT) (h:H):Prop:=∃k:Nat,n=l.length-k/\k<=l.length/\h[0]?=some (.cells (faC f) .live)/\st.get 0=bK l/\st.get 3=.ptr 0 0/\st.get 5=.int .i64 k/\ut (l.drop k) f=ut l f
theorem IZ{h:H}{i:Nat}{f:Fa}(hi:h[i]?=some (.cells (faC f) .live)):aJ C.P h 34 (.ptr i 0)=some (aQ f):=by simp[aJ,hi,aY,a35,s35,faC,aQ]
theorem Tf(l:List Fa) (f:Fa) (hl:l.length<4000000) (hv:mG l) (hf:smallT f.terms):az C 59 [bK l,aQ f]=some (.bool (ut l f)):=by
 refine bL func59 rfl λR t=>?_
 have fin:∀(st:PT) (h:H) (e:Bool),st.get 4=.bool e->ut l f=e->R .ret st h:=λst h e u v=>t ⟨.bool e,by simp[ag,cO,f59,u],by rw[v];exact aU rfl rfl⟩
 have c:=iu l;simp[go_sem,nI];refine bX (Zd l f) l.length ⟨0,rfl,aO _,rfl,g_,g_,g_,rfl⟩ ?_;rintro n st h ⟨k,rfl,x,p,m,q,o,d⟩;have r:=IZ p;by_cases a:k<l.length
 ·have b:(k:Int)<l.length:=o_;have g:aZ C.P 29 (bK l) (.int .i64 k)=some (.iptr (aQ l[k]) 0):=kD l k a .unk;have i:=ll l[k] h;have s:=yM l[k] f (hv _ (aG a)) hf;rw[aI a,ut,mD]at d;by_cases j:kV l[k] f=0
  ·simp[go_sem,m,q,o,c,b,g,r,i,s,j];exact fin _ _ true g_ (by rw[<-d];simp[j])
  have w:=wS k o_;simp[go_sem,m,q,o,c,b,g,r,i,s,j,-Int.natCast_add,w];exact⟨l.length-(k+1),o_,k+1,rfl,a,p,g_,g_,g_,by rw[<-d];simp[j,ut]⟩
 have:k=l.length:=o_;subst this;rw[bH]at d;simp[go_sem,m,o,c];exact fin _ _ false g_ (by rw[<-d];rfl)
theorem Hf(l:List Fa) (f:Fa) (x:Ext) (hl:l.length<4000000) (hv:mG l) (hf:smallT f.terms) (h:H):aj C h (.func 59 []) (some [.isl (l.map aQ) x,aQ f])=some (.bool (ut l f),h):=an (args':=[bK l,aQ f]) rfl (by simp[short];rfl) s_ (Tf l f hl hv hf)
theorem sH{α:Type}(p:List α->α->Bool) (a:α) (l o:List α):pD p (a::l) o=if p o a=true then pD p l o else pD p l (o++[a]):=by by_cases h:p o a=true<;>simp[pD,h]
def vE(l o:List Fa):List Fa:=pD (λo a=>o.any λg=>decide (kV g a=0)) l o
theorem xq(o:List Fa):vE [] o=o:=rfl
theorem xt{o:List Fa}{a:Fa}(l:List Fa) (h:ut o a=true):vE (a::l) o=vE l o:=by rw[vE,sH];exact if_pos h
theorem xr{o:List Fa}{a:Fa}(l:List Fa) (h:ut o a=false):vE (a::l) o=vE l (o++[a]):=by rw[vE,sH];exact if_neg (by simpa[ut]using h)
def W5(l:List Fa) (n:Nat) (st:PT) (h:H):Prop:=∃(k:Nat) (o:List Fa) (v:AV),n=l.length-k/\k<=l.length/\o.length<=k/\(∀f∈o,f∈l)/\st.get 0=bK l/\st.get 3=v/\st.get 4=.int .i64 k/\OwnR 34 h v (o.map aQ)/\vE (l.drop k) o=setF l
theorem SR(l:List Fa) (hl:l.length<4000000) (hv:mG l):az C 102 [bK l]=some (bK (setF l)):=by
 refine oV rfl func102 rfl k_ (by simp[f102]) λR y=>?_
 have c:=iu l;simp[go_sem];refine bX (W5 l) l.length ⟨0,[],.isl [] (.tok 1),rfl,aO _,aO _,s_,g_,g_,g_,.inr ⟨1,rfl,g_⟩,rfl⟩ ?_;rintro n st h ⟨k,o,v,rfl,G,I,t,u,g,w,p,d⟩;by_cases a:k<l.length
 ·have b:(k:Int)<l.length:=o_;have i:aZ C.P 29 (bK l) (.int .i64 k)=some (.iptr (aQ l[k]) 0):=kD l k a .unk;have j:=ll l[k];have⟨x,q⟩:=p.isl;have r:=λh=>Hf o l[k] x o_ (λf e=>hv f (t f e)) (hv _ (aG a)) h
  have z:=wS k o_;rw[aI a]at d;cases s:ut o l[k]with
  |true=>rw[xt _ s]at d;rw[s]at r;rw[q]at g;simp[go_sem,u,g,w,c,b,i,j,r,-Int.natCast_add,z];exact⟨l.length-(k+1),o_,k+1,o,v,rfl,a,o_,t,g_,by simp[go_sem,g,q],g_,p,d⟩
  |false=>
   rw[xr _ s]at d;rw[s]at r;have⟨A,J,B,D,E,F⟩:=nL (ys:=[l[k]]) (x:=.full) p (by simp;omega);rw[q]at g;have m:=B;rw[q,aM,bM]at m;simp[go_sem,u,g,w,c,b,i,j,r,eI,m,show au (aQ l[k])=true from rfl,-Int.natCast_add,z];refine⟨l.length-(k+1),o_,k+1,o++[l[k]],A,rfl,a,by simp;omega,λf e=>?_,g_,g_,g_,D,d⟩;rcases aK.1 e with e|e
   ·exact t f e
   rw[aS.1 e];exact aG a
 have:k=l.length:=o_;subst this;rw[bH,xq]at d;obtain⟨x,rfl⟩:=p.isl;simp[go_sem,u,g,w,c];rw[<-d]at y;exact y _ _ _ (.inr rfl) ⟨.isl (o.map aQ) x,by simp[ag,cO,f102,go_sem],aU rfl rfl⟩
theorem Q8(l:List Fa) (x:Ext) (hl:l.length<4000000) (hv:mG l) (h:H):aj C h (.func 102 []) (some [.isl (l.map aQ) x])=some (bK (setF l),h):=an (args':=[bK l]) rfl (by simp[short]) s_ (SR l hl hv)
def qL(c:Cl):Bool:=ut c.body c.head
theorem SI(c:Cl) (hl:c.body.length<4000000) (hv:mG (aN c)):az C 31 [ai c]=some (.bool (qL c)):=by
 refine bL func31 rfl λR b=>?_
 have a:([.cells (clC c) .live]:H)[0]?=some (.cells (clC c) .live):=rfl;have d:=jn a;have e:=lQ a;have g:=λh=>Hf c.body c.head .unk hl (λf i=>hv f (by simp[aN,i])) (hv _ (by simp[aN])) h
 have c3:∀h,aj C h (.func 59 []) (some [bK c.body,aQ c.head])=some (.bool (ut c.body c.head),h):=g;simp[go_sem,fk,d,e,c3];exact b ⟨.bool (qL c),by simp[ag,cO,f31,go_sem,qL],aU rfl rfl⟩
theorem DZ(c:Cl) (hl:c.body.length<4000000) (hv:mG (aN c)) (h:H):aj C h (.func 31 []) (some [ai c])=some (.bool (qL c),h):=an (oy c) (by simp[jF]) s_ (SI c hl hv)
theorem mC{C:Cfg}{f:FuncId}{args:LA}{fn:Func}{c:Code}{Q:AV->Prop}(hp:C.prim f args []=none) (hf:C.P.funcs[f]?=some fn) (hb:fn.body=some c) (hok:gi C f fn.ntmps false c=true) (hn:args.length<=fn.ntmps)
  (hw:∀R:Ex->PT->H->Prop,(∀e s h,(e=.normal\/e=.ret)->(∃v,Q v/\∃r,ag C.P s h fn.results.toList=some r/\eW (bo h) cM r=some v)->R e s h)->W C f R c [] (dP 0 args .leaf) []):∃v,az C f args=some v/\Q v:=by
 have⟨r,j,a,v,d,b⟩:=kA (Q:=λr h=>∃v,Q v/\eW (bo h) cM r=some v) hp hf hb hok hn λR g=>hw R λe s h i ⟨v,q,r,a,b⟩=>g e s h i ⟨r,a,v,q,b⟩
 exact⟨v,by unfold az;rw[a];exact b,d⟩
theorem Wl(h:H) (a:T × T) (l:Lb) (x:Ext) (hl:(a::l).length<=4000000):bi C.P false h 81 (.isl [] .full) (.isl ((a::l).map bT) x)=some (.isl ((a::l).map bT) (.tok h.length),h++[.tok (a::l).length 121]):=by
 have b:=mL (a::l);have c:((a::l).map bT).length*(112+1)<=35184372088832:=by simp only[ax];omega
 generalize e:(a::l).map bT=es at b c;have f:es≠[]:=by rw[<-e];simp
 have d:es.length=(a::l).length:=by rw[<-e];simp
 have g:iN 8 []=true:=rfl;simp only[gN,ed,u46,s86,b86,km,z86,b,g];cases es with
 |nil=>exact absurd rfl f
 |cons y i=>rw[<-d];simp only[bB,bu,cN];rw[if_neg s_,if_neg s_,if_neg (by simpa using c)]
theorem Wj(h:H) (x:Ext):bi C.P false h 81 (.isl [] .full) (.isl [] x)=some (.isl [] .full,h):=by have a:iN 8 []=true:=rfl;simp only[gN,ed,u46,s86,b86,km,z86,a];rfl
theorem ZR{h:H}{i:Nat}(l:Lb) (f:T × T) (hi:h[i]?=some (.tok l.length 121)) (hl:l.length<=4000000):bi C.P false h 81 (.isl (l.map bT) (.tok i)) (.isl [bT f] .full)=some (.isl ((l++[f]).map bT) (.tok i),h.set i (.tok (l.length+1) 121)):=by have b:=mL l;have a:=mL [f];simp only[aM,bM]at a;simp only[gN,ed,u46,s86,b86,km,z86,b,a,ax,aL,bB,hi];rw[if_neg s_,if_neg s_,if_neg (by simp;omega),if_pos ⟨trivial,trivial⟩];simp
theorem zJ(x y:Operand) (a b:ByteArray):jU C.P .neq 9 x y (.str a) (.str b)=some (.bool (!decide (a=b))):=by
 have e:dA C.P (do eqGuard BinOp.neq 9 x y (.string a) (.string b);binOp .neq 9 (.string a) (.string b))=some (.bool (!(a.toList==b.toList))):=by simp[eqGuard,binOp,Op.stringOp];try rfl
 simp only[jU,fI,cn,e,fR,eX];congr 2
 have:a.toList=b.toList↔a=b:=by have c:a.toList=a.data.toList:=ByteArray.toList_eq a;have d:b.toList=b.data.toList:=ByteArray.toList_eq b;rw[c,d];exact name_inj
 by_cases h:a=b
 ·subst h;simp
 have f:¬a.toList=b.toList:=λe=>h (this.1 e)
 simp[h,f]
def Xx(s:Lb) (o:Option (Lb)) (K:Nat) (v:AV):Prop:=∃r:Lb,v=.tuple [binds r,.bool o.isSome]/\(∀s',o=some s'->r=s')/\small r/\r.length<=s.length+K
def UZ(p:T):Prop:=∀(s:Lb) (t:T),p.size<4000000->t.size<4000000->small s->s.length+p.size<4000000->∃v,az C 109 [binds s,enc p,enc t]=some v/\Xx s (wd s p t) p.size v
def UX(s:Lb) (p t:T) (n:Nat) (st:PT) (h:H):Prop:=∃(k:Nat) (cur:Lb),n=p.kids.length-k/\k<=p.kids.length/\h[0]?=some (.cells (enc p).cells .live)/\h[1]?=some (.cells (enc t).cells .live)/\st.get 0=binds cur/\st.get 4=.ptr 0 0/\st.get 5=.ptr 1 0/\st.get 10=.int .i64 k/\small cur/\cur.length+sizes (p.kids.drop k)<=s.length+sizes p.kids/\nB cur (p.kids.drop k) (t.kids.drop k)=nB s p.kids t.kids
theorem yd(h:H) (t u:T):cP h cM [enc t,enc u]=[]:=(dM (h:=h) (l:=[enc t,enc u]) (l':=[enc t,enc u]) (by rw[bV t,bV u];rfl) (by simp[bF]) cM (by simp[cM])).2
theorem yc(h:H) (b:T × T):cP h cM [bT b]=[]:=(dM (h:=h) (l:=[bT b]) (l':=[bT b]) rfl rfl cM (by simp[cM])).2
theorem CI(h:H):cQ C.P h 81 0 []=some (.isl [] .full,h):=cY u46 s86 z86 rfl o_ rfl rfl rfl s_ rfl
theorem Ao(l:Lb) (t u:T):iT [binds l,enc t,enc u]=some [binds l,enc t,enc u]:=by rw[bV t,bV u];rfl
def C7(p t:T):H:=[.cells (enc p).cells .live,.cells (enc t).cells .live,.tok 0 121]
def UY(s:Lb) (p t:T) (n:Nat) (st:PT) (h:H):Prop:=∃k:Nat,n=s.length-k/\k<=s.length/\h=C7 p t/\st.get 0=binds s/\st.get 4=.ptr 0 0/\st.get 5=.ptr 1 0/\st.get 8=.int .i64 k/\(s.drop k).find? (λb=>decide (b.1.cmp p=0))=s.find? (λb=>decide (b.1.cmp p=0))
theorem Mb(p:T) (ih:∀k∈p.kids,UZ k):UZ p:=by
 intro s t hp ht hs hl;refine mC rfl func109 rfl k_ (by simp[f109]) λR hR=>?_
 have fin:∀(st:PT) (h:H) (r:Lb) (x:Ext) (b:Bool),st.get 6=.isl (r.map bT) x->st.get 7=.bool b->b=(wd s p t).isSome->(∀s',wd s p t=some s'->r=s')->small r->r.length<=s.length+p.size->R .ret st h:=λst h r x b h6 h7 hb h1 h2 h3=>hR _ _ _ (.inr rfl) ⟨.tuple [binds r,.bool b],⟨r,by rw[hb],h1,h2,h3⟩,.tuple [.isl (r.map bT) x,.bool b],by simp[ag,gk,cO,f109,h6,h7],du rfl rfl s_⟩
 have hsp:=size_pos p;have hsz:=size_kids p;have hmt:=C4 s p t;have bx:∀h x,mg C.P h 41 (enc x)=some (.ptr h.length 0,h++[.cells (enc x).cells .live]):=λh x=>by rw[gx,aq]
 have m0:(C7 p t)[0]?=some (.cells (tc p) .live):=by rw[C7,aq];rfl
 have m1:(C7 p t)[1]?=some (.cells (tc t) .live):=by rw[C7,aq t];rfl
 have⟨a0,a1,a2,a3',a4⟩:=ji m0;have⟨b0,b1,b2,b3',b4⟩:=ji m1;simp[go_sem,bx];rw[<-C7];by_cases k1:p.kind=1
 ·rw[if_pos k1]at hmt;simp[go_sem,a0,k1];refine bX (UY s p t) s.length ⟨0,rfl,aO _,rfl,g_,g_,g_,g_,rfl⟩ ?_;rintro n st h ⟨k,rfl,hk,rfl,g0,g4,g5,g8,hd⟩;have hln:=sF s;by_cases hlt:k<s.length
  ·have hlt':(k:Int)<s.length:=o_;have hix:aZ C.P 81 (binds s) (.int .i64 k)=some (.iptr (bT s[k]) 0):=yk s k hlt .unk;have hsm:=hs _ (aG hlt);have c1:=nH s[k].1 p hsm.1 hp;have c2:=nH s[k].2 t hsm.2 ht;rw[aI hlt,mI]at hd;by_cases q:s[k].1.cmp p=0
   ·simp only[q,decide_true]at hd;rw[<-hd]at hmt;dsimp only at hmt;simp[go_sem,g0,g4,g5,g8,hln,hlt',hix,ki,nC,a4,b4,c1,c2,q];exact fin _ _ s .unk (decide (s[k].2.cmp t=0)) (by simp[go_sem,binds]) g_ (by rw[hmt];split<;>simp_all) (λs' e=>by rw[hmt]at e;split at e<;>simp_all) hs o_
   simp only[q,decide_false]at hd;have w2:=wS k o_;simp[go_sem,g0,g4,g8,hln,hlt',hix,ki,a4,c1,q,-Int.natCast_add,w2];exact⟨s.length-(k+1),o_,k+1,rfl,hlt,rfl,g_,g_,g_,g_,hd⟩
  have:k=s.length:=o_;subst this;rw[bH,List.find?_nil]at hd;rw[<-hd]at hmt;dsimp only at hmt;simp[go_sem,g0,g8,hln];refine ic 7 _ (λst h=>(∃x,st.get 6=.isl ((s++[(p,t)]).map bT) x)/\st.get 7=.bool (gm p t)) (by rw[gM];decide) k_ ?_ ?_
  rotate_left
  ·rintro st h ⟨⟨x,g6⟩,g7⟩
   simp[go_sem]
   refine fin _ _ (s++[(p,t)]) x (gm p t) (by simp[go_sem,g6]) (by simp[go_sem,g7]) (by rw[hmt];split<;>simp_all) (λs' e=>by rw[hmt]at e;split at e<;>simp_all) (λb hb=>?_) (by simp;omega)
   rcases aK.1 hb with hb|hb
   ·exact hs b hb
   rw[aS.1 hb];exact⟨hp,ht⟩
  show MX C 109 _ 3 _ 0 _ _ _ _;have nte:∀b:T × T,au (bT b)=true:=λ_=>rfl
  have hbld:=tz p t;have ntp:=dZ p;have ntt:=dZ t;generalize hH0:C7 p t++List.replicate _ VObj.void=H0;have pl:Pl (C7 p t) H0 13:=hH0▸Pl.mk' _ 13;have hlen:H0.length=16:=pl.len;clear hH0;have p0:=pl.get m0;have p1:=pl.get m1;have⟨_,_,_,_,q0⟩:=ji p0;have⟨_,_,_,_,q1⟩:=ji p1;clear a0 a1 a2 a3' a4 b0 b1 b2 b3' b4;refine gH (parts:=[]) [] (.isl [] .full) rfl rfl (CI _) (pl.isV (i:=0) d_) ?_;refine bE (binds s) rfl rfl (pl.isV (i:=1) d_) (by simp[opN,go_sem,g0]) (MW _ _ _) ?_;cases s with
  |nil=>
   refine dq (.isl [] .full) (binds []) _ H0 H0 (by simp[go_sem];rfl) g_ (by rw[wrC];exact Wj H0 .unk) o_ rfl (pl.isV (i:=2) d_) (og _ _) ?_;refine cR (.ptr 0 0) (enc p) g_ q0 (dW s_) (pl.isV (i:=3) d_) (eN _ _ _) ?_;refine cR (.ptr 1 0) (enc t) g_ q1 (dW s_) (pl.isV (i:=4) d_) (eN _ _ _) ?_;refine bE (bT (p,t)) rfl rfl (pl.isV (i:=5) d_) (by simp[opN,fT,go_sem,ntp,ntt,hbld]) (VW _ _ _) ?_;refine gH (parts:=[(0,.tmp 40)]) [(0,bT (p,t))] (.isl [bT (p,t)] .full) (mN g_ rfl) (yc _ _) (fN _ _) (pl.isV (i:=6) d_) ?_;refine dq (.isl [] .full) (.isl [bT (p,t)] .full) _ _ _ (by simp[go_sem];rfl) (by simp[go_sem];rfl) (by rw[wrC];exact Wl H0 (p,t) [] .full s_) s_ rfl (pl.isV (i:=7) d_) (jK o_) ?_;have v8:∀i,i<13->i≠7->dE (H0.set (3+7) (VObj.mv H0.length (3+7) (.tok 1 121)))[3+i]?=true:=λi hi hn=>dg (pl.isV (i:=i) hi) o_
   have z0:∀y,(H0.set (3+7) y)[0]?=some (.cells (tc p) .live):=λy=>by rw[aC s_];exact p0
   have z1:∀y,(H0.set (3+7) y)[1]?=some (.cells (tc t) .live):=λy=>by rw[aC s_];exact p1
   refine cR (.ptr 0 0) (enc p) g_ (ji (z0 _)).2.2.2.2 (dW s_) (v8 8 d_ d_) (eN _ _ _) ?_;refine cR (.ptr 1 0) (enc t) g_ (ji (z1 _)).2.2.2.2 (dW s_) (v8 9 d_ d_) (eN _ _ _) ?_;refine uG (args:=[.tmp 43,.tmp 44]) [enc p,enc t] (.bool (gm p t)) k_ (.inl rfl) g_ (yd _ _ _) (JG p t hp ht _) (v8 10 d_ d_) ?_;refine bE (.isl [bT (p,t)] (.tok 10)) rfl rfl (v8 11 d_ d_) (by simp[opN,go_sem,AV.mv,hlen]) (by simp[AV.mv,hlen]) ?_;refine bE (.bool (gm p t)) rfl rfl (v8 12 d_ d_) (by simp[opN,go_sem,AV.mv]) rfl ?_;exact⟨k_,⟨_,by simp[go_sem];rfl⟩,g_⟩
  |cons a l=>
   have hc:=Wl H0 a l .unk (by simp at hl ⊢;omega);refine dq (.isl [] .full) (binds (a::l)) _ _ _ (by simp[go_sem];rfl) g_ (by rw[wrC];exact hc) s_ rfl (pl.isV (i:=2) d_) (jK o_) ?_;rw[show(AV.isl ((a::l).map bT) (.tok H0.length)).mv H0.length (3+2)=.isl ((a::l).map bT) (.tok 5) by simp[AV.mv]];obtain⟨H1,eH1⟩:∃g,g=H0.set (3+2) (VObj.mv H0.length (3+2) (.tok (a::l).length 121)):=⟨_,rfl⟩
   have hH1:H1[5]?=some (.tok (a::l).length 121):=by rw[eH1];simp[hlen,VObj.mv]
   have hlen1:H1.length=16:=by rw[eH1];simp[hlen]
   have hv:∀i,i<13->i≠2->dE H1[3+i]?=true:=λi hi hn=>by rw[eH1];exact dg (pl.isV hi) o_
   have z0:H1[0]?=some (.cells (tc p) .live):=by rw[eH1,aC s_];exact p0
   have z1:H1[1]?=some (.cells (tc t) .live):=by rw[eH1,aC s_];exact p1
   rw[<-eH1];refine cR (.ptr 0 0) (enc p) g_ (ji z0).2.2.2.2 (dW s_) (hv 3 d_ d_) (eN _ _ _) ?_;refine cR (.ptr 1 0) (enc t) g_ (ji z1).2.2.2.2 (dW s_) (hv 4 d_ d_) (eN _ _ _) ?_;refine bE (bT (p,t)) rfl rfl (hv 5 d_ d_) (by simp[opN,fT,go_sem,ntp,ntt,hbld]) (VW _ _ _) ?_;refine gH (parts:=[(0,.tmp 40)]) [(0,bT (p,t))] (.isl [bT (p,t)] .full) (mN g_ rfl) (yc _ _) (fN _ _) (hv 6 d_ d_) ?_;refine dq (.isl ((a::l).map bT) (.tok 5)) (.isl [bT (p,t)] .full) _ _ _ g_ (by simp[go_sem];rfl) (by rw[wrC];exact ZR (a::l) (p,t) hH1 (by simp at hl ⊢;omega)) s_ (by simp[cF,gZ]) (hv 7 d_ d_) (oD s_) ?_;have v8:∀y,∀i,i<13->i≠2->dE (H1.set 5 y)[3+i]?=true:=λy i hi hn=>dg (hv i hi hn) o_
   have y0:∀y,(H1.set 5 y)[0]?=some (.cells (tc p) .live):=λy=>by rw[aC s_];exact z0
   have y1:∀y,(H1.set 5 y)[1]?=some (.cells (tc t) .live):=λy=>by rw[aC s_];exact z1
   refine cR (.ptr 0 0) (enc p) g_ (ji (y0 _)).2.2.2.2 (dW s_) (v8 _ 8 d_ d_) (eN _ _ _) ?_;refine cR (.ptr 1 0) (enc t) g_ (ji (y1 _)).2.2.2.2 (dW s_) (v8 _ 9 d_ d_) (eN _ _ _) ?_;refine uG (args:=[.tmp 43,.tmp 44]) [enc p,enc t] (.bool (gm p t)) k_ (.inl rfl) g_ (yd _ _ _) (JG p t hp ht _) (v8 _ 10 d_ d_) ?_;refine bE (.isl ((a::l++[(p,t)]).map bT) (.tok 5)) rfl rfl (v8 _ 11 d_ d_) (by simp[opN,go_sem,AV.mv,hlen1]) (by simp[AV.mv,hlen1]) ?_;refine bE (.bool (gm p t)) rfl rfl (v8 _ 12 d_ d_) (by simp[opN,go_sem,AV.mv]) rfl ?_;exact⟨by simp[it,cF,gZ];kernel_rfl,⟨_,by simp[go_sem];rfl⟩,g_⟩
 rw[if_neg k1]at hmt;unfold C7 at a0 a1 a2 a3' b0 b1 b2 b3' ⊢;by_cases q1:p.kind=t.kind
 rotate_left
 ·rw[if_neg (λe=>q1 e.1)]at hmt;simp[go_sem,a0,b0,k1,q1];exact fin _ _ s .unk false (by simp[go_sem,binds]) g_ (by rw[hmt];rfl) (λs' e=>by rw[hmt]at e;cases e) hs o_
 have k1t:¬t.kind=1:=q1▸k1;by_cases q2:p.name=t.name
 rotate_left
 ·rw[if_neg (λe=>q2 e.2.1)]at hmt;simp[go_sem,a0,b0,a1,b1,zJ,k1t,q1,q2];exact fin _ _ s .unk false (by simp[go_sem,binds]) g_ (by rw[hmt];rfl) (λs' e=>by rw[hmt]at e;cases e) hs o_
 by_cases q3:p.sort=t.sort
 rotate_left
 ·rw[if_neg (λe=>q3 e.2.2.1)]at hmt;simp[go_sem,a0,b0,a1,b1,a2,b2,zJ,k1t,q1,q2,q3];exact fin _ _ s .unk false (by simp[go_sem,binds]) g_ (by rw[hmt];rfl) (λs' e=>by rw[hmt]at e;cases e) hs o_
 by_cases q4:p.kids.length=t.kids.length
 rotate_left
 ·rw[if_neg (λe=>q4 e.2.2.2)]at hmt;have q4':¬(p.kids.length:Int)=t.kids.length:=o_;simp[go_sem,a0,b0,a1,b1,a2,b2,a3',b3',fq,zJ,k1t,q1,q2,q3,q4'];exact fin _ _ s .unk false (by simp[go_sem,binds]) g_ (by rw[hmt];rfl) (λs' e=>by rw[hmt]at e;cases e) hs o_
 have q4':(p.kids.length:Int)=t.kids.length:=o_;rw[if_pos ⟨q1,q2,q3,q4⟩]at hmt;have hlk:=len_sizes p.kids;simp[go_sem,a0,b0,a1,b1,a2,b2,a3',b3',fq,zJ,k1t,q1,q2,q3,q4'];refine bX (UX s p t) p.kids.length ⟨0,s,rfl,aO _,rfl,rfl,g_,g_,g_,g_,hs,s_,rfl⟩ ?_;clear a0 a1 a2 a3' a4 b0 b1 b2 b3' b4 m0 m1;rintro n st h ⟨k,cur,rfl,hk,m0,m1,g0,g4,g5,g10,hsc,hcl,hd⟩;rw[aq]at m0 m1;have⟨_,_,_,a3',_⟩:=ji m0;have⟨_,_,_,b3',_⟩:=ji m1;by_cases hlt:k<p.kids.length
 ·have hlt':(k:Int)<p.kids.length:=o_;have hltb:k<t.kids.length:=o_;have hix:=lu p.kids k hlt .unk;have hiy:=lu t.kids k hltb .unk;have w2:=wS k o_;have hd0:=hd;rw[aI hlt,aI hltb,nB]at hd;rw[aI hlt,sizes]at hcl;have z1:=kid_size (aG hlt);have z2:=kid_size (aG hltb);obtain⟨v,hv,r,rfl,hr1,hr2,hr3⟩:=ih _ (aG hlt) cur t.kids[k] o_ o_ hsc o_;have c1:∀h,aj C h (.func 109 []) (some [binds cur,enc p.kids[k],enc t.kids[k]])=some (.tuple [binds r,.bool (wd cur p.kids[k] t.kids[k]).isSome],h):=λh=>an (Ao _ _ _) (by simp[el,bF]) s_ hv
  cases hm:wd cur p.kids[k] t.kids[k]with
  |none=>rw[hm]at hd c1;simp only[gn]at c1;dsimp only at hd;simp[go_sem,g0,g4,g5,g10,a3',b3',fq,hlt',hix,hiy,ee,c1];exact fin _ _ r .unk false (by simp[go_sem,binds]) g_ (by rw[hmt,<-hd];rfl) (λs' e=>by rw[hmt,<-hd]at e;cases e) hr2 o_
  |some s1=>have e1:=hr1 _ hm;subst e1;rw[hm]at hd c1;simp only[mR]at c1;dsimp only at hd;simp[go_sem,g0,g4,g5,g10,a3',b3',fq,hlt',hix,hiy,ee,c1,-Int.natCast_add,w2];exact⟨p.kids.length-(k+1),o_,k+1,r,rfl,hlt,by rw[aq];exact m0,by rw[aq];exact m1,g_,g_,g_,g_,hr2,o_,hd⟩
 have:k=p.kids.length:=o_;subst this;rw[bH,nB]at hd;simp[go_sem,g0,g4,g10,a3',fq];exact fin _ _ cur .unk true (by simp[go_sem,binds]) g_ (by rw[hmt,<-hd];rfl) (λs' e=>by rw[hmt,<-hd]at e;simpa using e) hsc o_
theorem C3(p:T):UZ p:=by
 induction p using T.ind with
 |_ p a=>exact Mb p a
theorem D9(b:List Fa) (y:Ext){k:Nat}(hk:k<=b.length):∃x,fF C.P 29 (.isl (b.map aQ) y) none (some (.int .i64 k)) none=some (.isl ((b.take k).map aQ) x)/\∀t,x=.tok t->y=.tok t:=by
 have a:=gS b;by_cases e:k=b.length
 ·subst e;exact⟨y,by simp[fF,u33,s35,mB,qC,a],λ_ h=>h⟩
 refine⟨if y=.full/\k=b.length then .full else .unk,?_,λt h=>by simp[e]at h⟩;simp[fF,u33,s35,mB,qC,a,hk,e,List.map_take]
theorem D8(b:List Fa) (y:Ext){k:Nat}(hk:k<=b.length):∃x,fF C.P 29 (.isl (b.map aQ) y) (some (.int .i64 k)) none none=some (.isl ((b.drop k).map aQ) x)/\∀t,x=.tok t->y=.tok t:=by
 have a:=gS b;by_cases e:k=0
 ·subst e;exact⟨y,by simp[fF,u33,s35,mB,qC,a],λ_ h=>h⟩
 by_cases c:y=.full
 ·subst c;refine⟨.full,?_,λt h=>by cases h⟩;simp[fF,u33,s35,mB,qC,a,hk,e,List.map_drop,bJ]
 refine⟨.unk,?_,λt h=>by cases h⟩;simp[fF,u33,s35,mB,qC,a,hk,e,c,List.map_drop,bJ]
def Za(s:Lb) (f g:Fa) (n:Nat) (st:PT) (h:H):Prop:=∃(k:Nat) (cur:Lb),n=f.terms.length-k/\k<=f.terms.length/\h[0]?=some (.cells (faC f) .live)/\h[1]?=some (.cells (faC g) .live)/\st.get 0=binds cur/\st.get 4=.ptr 0 0/\st.get 5=.ptr 1 0/\st.get 9=.int .i64 k/\small cur/\cur.length+sizes (f.terms.drop k)<=s.length+sizes f.terms/\nB cur (f.terms.drop k) (g.terms.drop k)=nB s f.terms g.terms
theorem In(s:Lb) (f g:Fa) (hf:smallT f.terms) (hg:smallT g.terms) (hs:small s) (hl:s.length+sizes f.terms<4000000):∃v,az C 63 [binds s,aQ f,aQ g]=some v/\Xx s (tP s f g) (sizes f.terms) v:=by
 refine mC rfl func63 rfl k_ (by simp[f63]) λR hR=>?_
 have fin:∀(st:PT) (h:H) (r:Lb) (x:Ext) (b:Bool),st.get 6=.isl (r.map bT) x->st.get 7=.bool b->b=(tP s f g).isSome->(∀p,tP s f g=some p->r=p)->small r->r.length<=s.length+sizes f.terms->R .ret st h:=λst h r x b h6 h7 hb h1 h2 h3=>hR _ _ _ (.inr rfl) ⟨.tuple [binds r,.bool b],⟨r,by rw[hb],h1,h2,h3⟩,.tuple [.isl (r.map bT) x,.bool b],by simp[ag,gk,cO,f63,h6,h7],du rfl rfl s_⟩
 have a:tP s f g=if f.kind=g.kind/\f.goal=g.goal/\f.terms.length=g.terms.length then nB s f.terms g.terms else none:=rfl
 obtain⟨M,l⟩:∃M:H,M=[.cells (faC f) .live,.cells (faC g) .live,.tok 0 121]:=⟨_,rfl⟩
 have q:M[0]?=some (.cells (faC f) .live):=by rw[l];rfl
 have t:M[1]?=some (.cells (faC g) .live):=by rw[l];rfl
 have y:=rK q;have z:=rK t;have D:=vC q;have E:=vC t;have m:=mY q;have u:=mY t;have F:=dX f.terms;have X:=dX g.terms;have q':=hf.1;have q0:=hg.1;rw[l]at y z D E m u;simp[go_sem,nI];by_cases A:f.kind=g.kind
 rotate_left
 ·rw[if_neg (λe=>A e.1)]at a;simp[go_sem,y,z,A];exact fin _ _ s .unk false (by simp[go_sem,binds]) g_ (by rw[a];rfl) (λp e=>by rw[a]at e;cases e) hs o_
 by_cases G:f.goal=g.goal
 rotate_left
 ·rw[if_neg (λe=>G e.2.1)]at a;simp[go_sem,y,z,D,E,A,G];exact fin _ _ s .unk false (by simp[go_sem,binds]) g_ (by rw[a];rfl) (λp e=>by rw[a]at e;cases e) hs o_
 by_cases Y:f.terms.length=g.terms.length
 rotate_left
 ·rw[if_neg (λe=>Y e.2.2)]at a;have w:¬(f.terms.length:Int)=g.terms.length:=o_;simp[go_sem,y,z,D,E,m,u,F,X,A,G,w];exact fin _ _ s .unk false (by simp[go_sem,binds]) g_ (by rw[a];rfl) (λp e=>by rw[a]at e;cases e) hs o_
 have w:(f.terms.length:Int)=g.terms.length:=o_;rw[if_pos ⟨A,G,Y⟩]at a;simp[go_sem,y,z,D,E,m,u,F,X,A,G,w];refine bX (Za s f g) f.terms.length ⟨0,s,rfl,aO _,rfl,rfl,g_,g_,g_,g_,hs,s_,rfl⟩ ?_;clear y z D E m u q t l;rintro n st h ⟨k,c,rfl,hk,q,t,N,O,Z,Q,I,S,d⟩;have m:=mY q;have u:=mY t;by_cases i:k<f.terms.length
 ·have o:(k:Int)<f.terms.length:=o_;have j:k<g.terms.length:=o_;have J:=dh f.terms k i;have K:=dh g.terms k j;have w2:=wS k o_;rw[aI i,aI j,nB]at d;rw[aI i,sizes]at S;obtain⟨v,hv,r,rfl,U,L,q3⟩:=C3 f.terms[k] c g.terms[k] (hf.2 _ (aG i)) (hg.2 _ (aG j)) I o_;have B:∀h,aj C h (.func 109 []) (some [binds c,enc f.terms[k],enc g.terms[k]])=some (.tuple [binds r,.bool (wd c f.terms[k] g.terms[k]).isSome],h):=λh=>an (Ao _ _ _) (by simp[el,bF]) s_ hv
  cases V:wd c f.terms[k] g.terms[k]with
  |none=>rw[V]at d B;simp only[gn]at B;dsimp only at d;simp[go_sem,N,O,Z,Q,m,u,F,o,J,K,ee,B];exact fin _ _ r .unk false (by simp[go_sem,binds]) g_ (by rw[a,<-d];rfl) (λp e=>by rw[a,<-d]at e;cases e) L o_
  |some s1=>have e1:=U _ V;subst e1;rw[V]at d B;simp only[mR]at B;dsimp only at d;simp[go_sem,N,O,Z,Q,m,u,F,o,J,K,ee,B,-Int.natCast_add,w2];exact⟨f.terms.length-(k+1),o_,k+1,r,rfl,i,q,t,g_,g_,g_,g_,L,o_,d⟩
 have:k=f.terms.length:=o_;subst this;rw[bH,nB]at d;simp[go_sem,N,O,Q,m,F];exact fin _ _ c .unk true (by simp[go_sem,binds]) g_ (by rw[a,<-d];rfl) (λp e=>by rw[a,<-d]at e;simpa using e) I o_
theorem uU{α:Type}:∀l:List α,(pi l).length=l.length
 |[]=>rfl
 |x::l=>by simp[pi,uU l]
theorem Bt{α:Type}:∀(l:List α) (k:Nat) (h:k<l.length),(pi l)[k]'(by rw[uU];exact h)=(l[k],l.take k++l.drop (k+1))
 |x::l,0,_=>by simp[pi]
 |x::l,k+1,h=>by have:=Bt l k (by simpa using h);simp[pi,this]
def vT(l:List Fa):Nat:=(l.map λf=>sizes f.terms).sum
def ZZ(s:Lb) (a b:List Fa) (f:Fa) (i:Nat) (n:Nat) (st:PT) (_h:H):Prop:=∃k:Nat,n=b.length-k/\k<=b.length/\st.get 0=binds s/\st.get 1=bK a/\st.get 2=bK b/\st.get 3=.int .i64 i/\st.get 9=.int .i64 k/\apB s (a.drop i) b=((pi b).drop k).any λp=>match tP s f p.1 with
  |some t=>apB t (a.drop (i+1)) p.2
  |none=>false
theorem Wd(h:H) (xs ys:List Fa) (x y:Ext) (hl:xs.length+ys.length<4000000):∃v1 h1 v2 h2 z,bi C.P false h 29 (.isl [] .full) (.isl (xs.map aQ) x)=some (v1,h1)/\bi C.P false h1 29 v1 (.isl (ys.map aQ) y)=some (v2,h2)/\v2=.isl ((xs++ys).map aQ) z/\(v1=.isl (xs.map aQ) .full\/∃id,v1=.isl (xs.map aQ) (.tok id)):=by have⟨v1,h1,b,a,_,_⟩:=nL (h:=h) (v:=.isl [] .full) (xs:=[]) (ys:=xs) (x:=x) (.inl rfl) (by simp;omega);have⟨v2,h2,c,d,_,_⟩:=nL (ys:=ys) (x:=y) a (by simp;omega);have⟨z,f⟩:=d.isl;exact⟨v1,h1,v2,h2,z,b,c,f,a.imp id λ⟨i,e,_⟩=>⟨i,e⟩⟩
theorem RI(a:List Fa) (ha:mG a) (hal:a.length<1000000):∀(m i:Nat) (s:Lb) (b:List Fa),i+m=a.length->mG b->b.length<1000000->small s->s.length+vT (a.drop i)<4000000->az C 64 [binds s,bK a,bK b,.int .i64 i]=some (.bool (apB s (a.drop i) b)):=by
 intro m;induction m with
 |zero=>
  intro i s b hi Y q' hs hl;refine oV rfl func64 rfl k_ (by simp[f64]) λR hR=>?_
  have fin:∀(st:PT) (h:H) (e:Bool),st.get 8=.bool e->apB s (a.drop i) b=e->R .ret st h:=λst h e Z he=>hR _ _ _ (.inr rfl) ⟨.bool e,by simp[ag,cO,f64,Z],by rw[he];exact aU rfl rfl⟩
  have x:=iu a;have e:(i:Int)=a.length:=o_;simp[go_sem,x,e];exact fin _ _ true g_ (by rw[iO o_,apB])
 |succ m ih=>
  intro i s b hi Y q' hs hl;refine oV rfl func64 rfl k_ (by simp[f64]) λR hR=>?_
  have fin:∀(st:PT) (h:H) (e:Bool),st.get 8=.bool e->apB s (a.drop i) b=e->R .ret st h:=λst h e Z he=>hR _ _ _ (.inr rfl) ⟨.bool e,by simp[ag,cO,f64,Z],by rw[he];exact aU rfl rfl⟩
  have x:=iu a;have o:=iu b;have e:¬(i:Int)=a.length:=o_;have y:i<a.length:=o_;have A:=aI y;have q:aZ C.P 29 (bK a) (.int .i64 i)=some (.iptr (aQ a[i]) 0):=kD a i y .unk;have u:=ll a[i];have M:=ha _ (aG y);generalize hf:a[i]=f at A q u M;have q0:apB s (a.drop i) b=(pi b).any λp=>match tP s f p.1 with
    |some t=>apB t (a.drop (i+1)) p.2
    |none=>false:=by rw[A,apB]<;>rfl
  rw[A]at hl;simp only[vT,aM,iS]at hl;simp[go_sem,x,e];refine bX (ZZ s a b f i) b.length ⟨0,rfl,aO _,g_,g_,g_,g_,g_,q0⟩ ?_;rintro n st h ⟨k,rfl,hk,g0,N,K,O,L,c⟩;by_cases d:k<b.length
  ·have j:(k:Int)<b.length:=o_;have B:aZ C.P 29 (bK b) (.int .i64 k)=some (.iptr (aQ b[k]) 0):=kD b k d .unk;have D:=ll b[k];have w2:=wS k o_;have w3:=wS i o_;rw[aI (l:=pi b) (i:=k) (by rw[uU];exact d),mD,Bt b k d]at c;dsimp only at c;have q1:=Y _ (aG d);obtain⟨v,hv,r,rfl,q2,q3,q4⟩:=In s f b[k] M q1 hs o_;have E:∀h,aj C h (.func 63 []) (some [binds s,aQ f,aQ b[k]])=some (.tuple [binds r,.bool (tP s f b[k]).isSome],h):=λh=>an (args':=[binds s,aQ f,aQ b[k]]) rfl (by simp[el];exact⟨rfl,rfl⟩) s_ hv
   cases hm:tP s f b[k]with
   |none=>rw[hm]at c E;simp only[gn]at E;simp only[gQ]at c;simp[go_sem,g0,N,K,O,L,o,j,B,q,u,D,E,-Int.natCast_add,w2];exact⟨b.length-(k+1),o_,k+1,rfl,d,g_,g_,g_,g_,g_,c⟩
   |some s1=>
    have e1:=q2 _ hm;subst e1;rw[hm]at c E;simp only[mR]at E;dsimp only at c;have⟨x1,F,_⟩:=D9 b .unk hk;have⟨x2,G,_⟩:=D8 b .unk (k:=k+1) d;obtain⟨v1,h1,v2,Z,z,Q,I,rfl,S⟩:=Wd h (b.take k) (b.drop (k+1)) x1 x2 (by simp;omega);have J:mG (b.take k++b.drop (k+1)):=λg U=>by
     rcases aK.1 U with U|U
     ·exact Y g (dF U)
     exact Y g (dY U)
    have V:=ih (i+1) r (b.take k++b.drop (k+1)) o_ J (by simp;omega) q3 (by simp only[vT];omega);have X:∀h,aj C h (.func 64 []) (some [binds r,bK a,.isl ((b.take k++b.drop (k+1)).map aQ) z,.int .i64 ((i+1:Nat):Int)])=some (.bool (apB r (a.drop (i+1)) (b.take k++b.drop (k+1))),h):=λh=>an (args':=[binds r,bK a,bK (b.take k++b.drop (k+1)),.int .i64 ((i+1:Nat):Int)]) rfl (by simp[el];exact⟨rfl,rfl,rfl⟩) s_ V
    change fF C.P 29 (bK b) none _ none=_ at F;change fF C.P 29 (bK b) _ none none=_ at G;generalize q5:(b.take k++b.drop (k+1))=rest at I X c;cases w:apB r (a.drop (i+1)) rest with
    |true=>rw[w]at X c;simp[go_sem,g0,N,K,O,L,o,j,B,q,u,D,E];refine eQ 8 _ (by simp[gM]) rfl ?_;simp[go_sem,N,K,O,L,oG,F,G,Q,I,X,-Int.natCast_add,-List.map_take,-List.map_drop,w2,w3];refine⟨?_,fin _ _ true g_ (by rw[c];rfl)⟩;rcases S with rfl|⟨id,rfl⟩<;>simp[go_sem,ff,fL,fP,iC,dy,cF]
    |false=>rw[w]at X c;simp only[gQ]at c;simp[go_sem,g0,N,K,O,L,o,j,B,q,u,D,E];refine eQ 8 _ (by simp[gM]) rfl ?_;simp[go_sem,N,K,O,L,oG,F,G,Q,I,X,-Int.natCast_add,-List.map_take,-List.map_drop,w2,w3];refine⟨?_,b.length-(k+1),o_,k+1,rfl,d,g_,g_,g_,g_,g_,c⟩;rcases S with rfl|⟨id,rfl⟩<;>simp[go_sem,ff,fL,fP,iC,dy,cF]
  have:k=b.length:=o_;subst this;rw[show(pi b).drop b.length=[]from iO (by rw[uU];exact aP _),List.any_nil]at c;simp[go_sem,K,L,o];exact fin _ _ false g_ c
def nT{α:Type}(cmp:α->α->Int) (c:α):List α->List α
 |[]=>[c]
 |a::l=>if cmp c a<=0 then(if cmp c a<0 then c::a::l else a::l)else a::nT cmp c l
theorem rN{α:Type}{cmp:α->α->Int}{c x:α}:∀ {l:List α},x∈nT cmp c l->x=c\/x∈l
 |[],h=>by simpa[nT]using h
 |a::l,h=>by
  rw[nT]at h;split at h
  ·split at h
   ·simpa using h
   exact .inr h
  rcases aV.1 h with h|h
  ·exact .inr (by simp[h])
  exact(rN h).imp id λh=>by simp[h]
theorem Aa{α:Type}{cmp:α->α->Int}{c x:α}:∀ {l:List α},x∈l->x∈nT cmp c l
 |a::l,h=>by
  rw[nT];split
  ·split
   ·simp[aV.1 h]
   exact h
  rcases aV.1 h with h|h
  ·simp[h]
  simp[Aa h]
theorem Ab{α:Type}{cmp:α->α->Int}{c:α}(hz:∀a,cmp c a=0->a=c):∀ {l:List α},c∈nT cmp c l
 |[]=>by simp[nT]
 |a::l=>by
  rw[nT];split
  ·split
   ·simp
   rw[hz a o_];simp
  simp[Ab hz]
theorem wk{α:Type}{cmp:α->α->Int}{c:α}:∀ {l:List α},(nT cmp c l).length<=l.length+1
 |[]=>by simp[nT]
 |a::l=>by
  have:=wk (cmp:=cmp) (c:=c) (l:=l);rw[nT];split
  ·split<;>simp
  simp only[aL];omega
theorem nM{h:H}{v:AV}{xs ys:List Cl}{x:Ext}(o:OwnR 39 h v (xs.map ai)) (hl:xs.length+ys.length<=100000000000) :
  ∃v' h',bi C.P false h 24 v (.isl (ys.map ai) x)=some (v',h')/\OwnR 39 h' v' ((xs++ys).map ai)/\Keep h h' (cG v)/\(cG v'=cG v\/cG v=none/\cG v'=some h.length):=by
 have:=mQ (x:=x) u22 s37 b37 z37 rfl o (pf xs) (pf ys) (by simp only[ax];omega);rwa[<-List.map_append]at this
theorem oi(h:H) (c:Cl):cQ C.P h 24 1 [(0,ai c)]=some (.isl [ai c] .full,h):=cY u22 s37 z37 rfl o_ rfl rfl rfl s_ rfl
def smallC(c:Cl):Prop:=c.body.length<4000000/\mG (aN c)
def sl:List Fa->List Fa->Int
 |a::l,b::m=>thn (kV a b) (sl l m)
 |_,_=>0
def rS(a b:Cl):Int:=thn (sgn a.body.length b.body.length) (thn (kV a.head b.head) (sl a.body b.body))
theorem zP{a b:Fa}(h:kV a b=0):a=b:=by have:=(Ki a b).1 h;simp only[GL,bI,decide_eq_true_eq]at this;have⟨⟨c,d⟩,e⟩:=this;cases a;cases b;simp_all
theorem E7:∀ {a b:List Fa},a.length=b.length->sl a b=0->a=b
 |[],[],_,_=>rfl
 |a::l,b::m,hl,h=>by rw[sl,thn_zero]at h;rw[zP h.1,E7 (by simpa using hl) h.2]
theorem I1{a b:Cl}(h:rS a b=0):a=b:=by simp only[rS,thn_zero,sgn_zero]at h;have⟨e,c,d⟩:=h;have:=E7 o_ d;have:=zP c;cases a;cases b;simp_all
def Zb(a b:Cl) (n:Nat) (st:PT) (h:H):Prop:=∃k:Nat,n=a.body.length-k/\k<=a.body.length/\h[0]?=some (.cells (clC a) .live)/\h[1]?=some (.cells (clC b) .live)/\st.get 2=.ptr 0 0/\st.get 3=.ptr 1 0/\st.get 7=.int .i64 k/\sl (a.body.drop k) (b.body.drop k)=sl a.body b.body
theorem WM(a b:Cl) (ha:smallC a) (hb:smallC b):az C 62 [ai a,ai b]=some (.int .i64 (rS a b)):=by
 refine bL func62 rfl λR M=>?_
 have fin:∀(st:PT) (h:H) (e:Int),st.get 4=.int .i64 e->rS a b=e->R .ret st h:=λst h e N O=>M ⟨.int .i64 e,by simp[ag,cO,f62,N],by rw[O];exact aU rfl rfl⟩
 obtain⟨F,d⟩:∃g:H,g=[.cells (clC a) .live,.cells (clC b) .live]:=⟨_,rfl⟩
 have l:F[0]?=some (.cells (clC a) .live):=by rw[d];rfl
 have m:F[1]?=some (.cells (clC b) .live):=by rw[d];rfl
 have f:=jn l;have o:=jn m;have y:=lQ l;have z:=lQ m;have c:=iu a.body;have p:=iu b.body;have A:=xJ a.body.length b.body.length;have G:=yM a.head b.head (ha.2 _ (by simp[aN])) (hb.2 _ (by simp[aN]));have s:rS a b=thn (sgn a.body.length b.body.length) (thn (kV a.head b.head) (sl a.body b.body)):=rfl;simp[go_sem,fk];rw[<-d];clear d;by_cases r:sgn (a.body.length:Int) b.body.length=0
 rotate_left
 ·simp[go_sem,f,o,c,p,A,r];exact fin _ _ (sgn (a.body.length:Int) b.body.length) g_ (by rw[s,thn,if_neg r])
 have B:rS a b=thn (kV a.head b.head) (sl a.body b.body):=by rw[s,thn,if_pos r]
 rw[B]at fin;by_cases w:kV a.head b.head=0
 rotate_left
 ·simp[go_sem,f,o,c,p,A,r,y,z,G,w];exact fin _ _ (kV a.head b.head) g_ (by rw[thn,if_neg w])
 rw[show thn (kV a.head b.head) (sl a.body b.body)=sl a.body b.body by rw[thn,if_pos w]]at fin;have I:a.body.length=b.body.length:=by have:=sgn_zero.1 r;omega
 simp[go_sem,f,o,c,p,A,r,y,z,G,w];refine bX (Zb a b) a.body.length ⟨0,rfl,aO _,l,m,g_,g_,g_,rfl⟩ ?_;clear l m f o y z;rintro n st h ⟨k,rfl,U,l,m,D,J,E,t⟩;have f:=jn l;have o:=jn m;by_cases q:k<a.body.length
 ·have i:(k:Int)<a.body.length:=o_;have j:k<b.body.length:=o_;have Q:=ha.1;have u:aZ C.P 29 (bK a.body) (.int .i64 k)=some (.iptr (aQ a.body[k]) 0):=kD a.body k q .unk;have v:aZ C.P 29 (bK b.body) (.int .i64 k)=some (.iptr (aQ b.body[k]) 0):=kD b.body k j .unk;have K:=ll a.body[k] h;have L:=ll b.body[k] h;have c3:=yM a.body[k] b.body[k] (ha.2 _ (by simp[aN])) (hb.2 _ (by simp[aN]));rw[aI q,aI j,sl]at t;by_cases x:kV a.body[k] b.body[k]=0
  ·have S:=wS k o_;simp[go_sem,D,J,E,f,o,c,i,u,v,K,L,c3,x,-Int.natCast_add,S];exact⟨a.body.length-(k+1),o_,k+1,rfl,q,l,m,g_,g_,g_,by rw[<-t,x];simp[thn]⟩
  simp[go_sem,D,J,E,f,o,c,i,u,v,K,L,c3,x];exact fin _ _ (kV a.body[k] b.body[k]) g_ (by rw[<-t,thn,if_neg x])
 have:k=a.body.length:=o_;subst this;rw[bH]at t;simp[go_sem,D,E,f,c];exact fin _ _ 0 g_ (by rw[<-t];simp[sl])
theorem QZ(a b:Cl) (ha:smallC a) (hb:smallC b) (h:H):aj C h (.func 62 []) (some [ai a,ai b])=some (.int .i64 (rS a b),h):=an (args':=[ai a,ai b]) rfl rfl s_ (WM a b ha hb)
def Ze(l:List Fa) (c:Fa) (n:Nat) (st:PT) (h:H):Prop:=∃(k:Nat) (o:List Fa) (d:Bool) (v:AV),n=l.length-k/\k<=l.length/\o.length<=2*k+2/\h[0]?=some (.cells (faC c) .live)/\st.get 0=bK l/\st.get 3=.ptr 0 0/\st.get 5=v/\st.get 6=.bool d/\st.get 7=.int .i64 k/\OwnR 34 h v (o.map aQ)/\nT kV c l=o++(if d=true then l.drop k else nT kV c (l.drop k))
theorem Vy(l:List Fa) (c:Fa) (hl:l.length<4000000) (hv:∀x∈l,(λf=>smallT f.terms) x) (hc:(λf=>smallT f.terms) c):az C 40 [bK l,aQ c]=some (bK (nT kV c l)):=by
 refine bL func40 rfl λR hR=>?_
 have i:=iu l;simp[go_sem,nI];refine bX (Ze l c) l.length ⟨0,[],false,.isl [] (.tok 2),rfl,aO _,aO _,rfl,g_,g_,g_,g_,g_,.inr ⟨2,rfl,g_⟩,rfl⟩ ?_;rintro n st h ⟨k,o,d,v,rfl,hk,ho,K,w,D,r,y,z,A,e⟩;have E:=IZ K;have F:=bn A K;by_cases a:k<l.length
 ·have g:(k:Int)<l.length:=o_;have m:aZ C.P 29 (bK l) (.int .i64 k)=some (.iptr (aQ l[k]) 0):=kD l k a .unk;have L:=ll l[k];have M:=yM c l[k] hc (hv _ (aG a));have N:=wS k o_;have nt:=show au (aQ l[k])=true from rfl;have Q:=show au (aQ c)=true from rfl;rw[aI a]at e;have⟨x,B⟩:=A.isl;rw[B]at r;have⟨S,h',ha,U,V,q0⟩:=nL (ys:=[l[k]]) (x:=.full) A (by simp;omega);have u:=V.get K F;have p:=ha;rw[B,aM,bM]at p;cases d with
  |true=>rw[if_pos rfl]at e;simp[go_sem,w,D,r,y,z,i,g,m,E,L,M,eI,p,nt,-Int.natCast_add,N];exact⟨l.length-(k+1),o_,k+1,o++[l[k]],true,S,rfl,a,by simp;omega,u,g_,g_,g_,g_,g_,U,by rw[e];simp⟩
  |false=>
   rw[if_neg d_,nT]at e;by_cases G:kV c l[k]<=0
   ·rw[if_pos G]at e;by_cases O:kV c l[k]<0
    ·rw[if_pos O]at e;have⟨v2,h2,X,j,s,I⟩:=nL (ys:=[c]) (x:=.full) A (by simp;omega);have m2:=s.get K F;have⟨x2,q⟩:=j.isl;have⟨v3,h3,Y,Z,J,q'⟩:=nL (ys:=[l[k]]) (x:=.full) j (by simp;omega);have m3:=J.get m2 (bn j m2);have b:=X;rw[B,aM,bM]at b;have t:=Y;rw[q,aM,bM]at t;rw[q]at b;simp[go_sem,w,D,r,y,z,i,g,m,E,L,M,eI,b,t,nt,Q,G,O,-Int.natCast_add,-List.map_append,N];exact⟨l.length-(k+1),o_,k+1,o++[c]++[l[k]],true,v3,rfl,a,by simp;omega,m3,g_,g_,g_,g_,g_,Z,by rw[e];simp⟩
    rw[if_neg O]at e;simp[go_sem,w,D,r,y,z,i,g,m,E,L,M,eI,p,nt,G,O,-Int.natCast_add,N];exact⟨l.length-(k+1),o_,k+1,o++[l[k]],true,S,rfl,a,by simp;omega,u,g_,g_,g_,g_,g_,U,by rw[e];simp⟩
   rw[if_neg G]at e;simp[go_sem,w,D,r,y,z,i,g,m,E,L,M,eI,p,nt,G,-Int.natCast_add,N];exact⟨l.length-(k+1),o_,k+1,o++[l[k]],false,S,rfl,a,by simp;omega,u,g_,g_,g_,g_,g_,U,by rw[e];simp⟩
 have:k=l.length:=o_;subst this;rw[bH]at e;have⟨x,B⟩:=A.isl;rw[B]at r;cases d with
 |true=>simp[go_sem,w,r,y,z,i];exact hR ⟨.isl (o.map aQ) x,by simp[ag,cO,f40,go_sem],by rw[e];simp;exact aU rfl rfl⟩
 |false=>have⟨v2,h2,X,j,s,I⟩:=nL (ys:=[c]) (x:=.full) A (by simp;omega);have⟨x2,q⟩:=j.isl;have b:=X;rw[B,aM,bM]at b;rw[q]at b;simp[go_sem,w,D,r,y,z,i,E,eI,b,show au (aQ c)=true from rfl,-List.map_append];exact hR ⟨.isl ((o++[c]).map aQ) x2,by simp[ag,cO,f40,go_sem],by rw[e];exact aU rfl rfl⟩
theorem Tr(l:List Fa) (c:Fa) (x:Ext) (hl:l.length<4000000) (hv:∀x∈l,(λf=>smallT f.terms) x) (hc:(λf=>smallT f.terms) c) (h:H):aj C h (.func 40 []) (some [.isl (l.map aQ) x,aQ c])=some (bK (nT kV c l),h):=an (args':=[bK l,aQ c]) rfl (by simp[short];rfl) s_ (Vy l c hl hv hc)
def Zf(l:List Cl) (c:Cl) (n:Nat) (st:PT) (h:H):Prop:=∃(k:Nat) (o:List Cl) (d:Bool) (v:AV),n=l.length-k/\k<=l.length/\o.length<=2*k+2/\h[0]?=some (.cells (clC c) .live)/\st.get 0=dV l/\st.get 3=.ptr 0 0/\st.get 5=v/\st.get 6=.bool d/\st.get 7=.int .i64 k/\OwnR 39 h v (o.map ai)/\nT rS c l=o++(if d=true then l.drop k else nT rS c (l.drop k))
theorem Vz(l:List Cl) (c:Cl) (hl:l.length<4000000) (hv:∀x∈l,smallC x) (hc:smallC c):az C 32 [dV l,ai c]=some (dV (nT rS c l)):=by
 refine bL func32 rfl λR Z=>?_
 have g:=sG l;simp[go_sem,fk];refine bX (Zf l c) l.length ⟨0,[],false,.isl [] (.tok 2),rfl,aO _,aO _,rfl,g_,g_,g_,g_,g_,.inr ⟨2,rfl,g_⟩,rfl⟩ ?_;rintro n st h ⟨k,o,d,v,rfl,hk,ho,J,u,B,q,w,y,z,e⟩;have D:=jJ J;have E:=bn z J;by_cases a:k<l.length
 ·have f:(k:Int)<l.length:=o_;have j:aZ C.P 24 (dV l) (.int .i64 k)=some (.iptr (ai l[k]) 0):=vG l k a;have K:=sh l[k];have L:=QZ c l[k] hc (hv _ (aG a));have M:=wS k o_;have nt:=show au (ai l[k])=true from rfl;have O:=show au (ai c)=true from rfl;rw[aI a]at e;have⟨x,A⟩:=z.isl;rw[A]at q;have⟨Q,h',ha,S,U,q0⟩:=nM (ys:=[l[k]]) (x:=.full) z (by simp;omega);have t:=U.get J E;have m:=ha;rw[A,aM,bM]at m;cases d with
  |true=>rw[if_pos rfl]at e;simp[go_sem,u,B,q,w,y,g,f,j,D,K,L,oi,m,nt,-Int.natCast_add,M];exact⟨l.length-(k+1),o_,k+1,o++[l[k]],true,Q,rfl,a,by simp;omega,t,g_,g_,g_,g_,g_,S,by rw[e];simp⟩
  |false=>
   rw[if_neg d_,nT]at e;by_cases F:rS c l[k]<=0
   ·rw[if_pos F]at e;by_cases N:rS c l[k]<0
    ·rw[if_pos N]at e;have⟨v2,h2,V,i,r,G⟩:=nM (ys:=[c]) (x:=.full) z (by simp;omega);have m2:=r.get J E;have⟨x2,p⟩:=i.isl;have⟨v3,h3,X,Y,I,q'⟩:=nM (ys:=[l[k]]) (x:=.full) i (by simp;omega);have m3:=I.get m2 (bn i m2);have b:=V;rw[A,aM,bM]at b;have s:=X;rw[p,aM,bM]at s;rw[p]at b;simp[go_sem,u,B,q,w,y,g,f,j,D,K,L,oi,b,s,nt,O,F,N,-Int.natCast_add,-List.map_append,M];exact⟨l.length-(k+1),o_,k+1,o++[c]++[l[k]],true,v3,rfl,a,by simp;omega,m3,g_,g_,g_,g_,g_,Y,by rw[e];simp⟩
    rw[if_neg N]at e;simp[go_sem,u,B,q,w,y,g,f,j,D,K,L,oi,m,nt,F,N,-Int.natCast_add,M];exact⟨l.length-(k+1),o_,k+1,o++[l[k]],true,Q,rfl,a,by simp;omega,t,g_,g_,g_,g_,g_,S,by rw[e];simp⟩
   rw[if_neg F]at e;simp[go_sem,u,B,q,w,y,g,f,j,D,K,L,oi,m,nt,F,-Int.natCast_add,M];exact⟨l.length-(k+1),o_,k+1,o++[l[k]],false,Q,rfl,a,by simp;omega,t,g_,g_,g_,g_,g_,S,by rw[e];simp⟩
 have:k=l.length:=o_;subst this;rw[bH]at e;have⟨x,A⟩:=z.isl;rw[A]at q;cases d with
 |true=>simp[go_sem,u,q,w,y,g];exact Z ⟨.isl (o.map ai) x,by simp[ag,cO,f32,go_sem],by rw[e];simp;exact aU rfl rfl⟩
 |false=>have⟨v2,h2,V,i,r,G⟩:=nM (ys:=[c]) (x:=.full) z (by simp;omega);have⟨x2,p⟩:=i.isl;have b:=V;rw[A,aM,bM]at b;rw[p]at b;simp[go_sem,u,B,q,w,y,g,D,oi,b,show au (ai c)=true from rfl,-List.map_append];exact Z ⟨.isl ((o++[c]).map ai) x2,by simp[ag,cO,f32,go_sem],by rw[e];exact aU rfl rfl⟩
theorem N2(l:List Cl) (c:Cl) (x:Ext) (hl:l.length<4000000) (hv:∀x∈l,smallC x) (hc:smallC c) (h:H):aj C h (.func 32 []) (some [.isl (l.map ai) x,ai c])=some (dV (nT rS c l),h):=an (args':=[dV l,ai c]) rfl (by simp[short];rfl) s_ (Vz l c hl hv hc)
def agr(s:Lb) (τ:T->T):Prop:=∀b∈s,dp s b.1=τ b.1
theorem M8{s:Lb}{p:T}(h:s.find? (λb=>decide (b.1.cmp p=0))=none):∀b∈s,b.1≠p:=λb a e=>by have:=List.find?_eq_none.1 h b a;exact this (by simp[cmp_zero.2 e])
theorem AM{τ:T->T}{ps:Lq}(ih:∀p∈ps,∀(s:Lb),agr s τ->(∀v∈bm bD p,v.kind=1->gm v (τ v)=true)->∃s',wd s p (bc τ p)=some s'/\agr s' τ):∀(s:Lb),agr s τ->(∀p∈ps,∀v∈bm bD p,v.kind=1->gm v (τ v)=true)->∃s',nB s ps (ps.map (bc τ))=some s'/\agr s' τ:=by
 induction ps with
 |nil=>intro s a _;exact⟨s,by rw[nB],a⟩
 |cons p ps b=>
  intro s a d;have⟨e,f,g⟩:=ih p s_ s a (d p s_);have⟨h,i,j⟩:=b (λq c=>ih q (by simp[c])) e g λq c=>d q (by simp[c])
  refine⟨h,?_,j⟩;rw[aM,nB,f];exact i
theorem KP{τ:T->T}:∀(p:T) (s:Lb),agr s τ->(∀v∈bm bD p,v.kind=1->gm v (τ v)=true)->∃s',wd s p (bc τ p)=some s'/\agr s' τ:=by
 refine T.ind λp i s d g=>?_
 rw[C4];by_cases k:p.kind=1
 ·rw[if_pos k,ea k];cases h:s.find? λb=>decide (b.1.cmp p=0)with
  |some b=>have⟨j,l,m⟩:=wt h;have:=d b l;rw[m,j]at this;refine⟨s,?_,d⟩;dsimp only;rw[if_pos (cmp_zero.2 this)]
  |none=>
   refine⟨s++[(p,τ p)],?_,?_⟩
   ·dsimp only;rw[if_pos (g p (dD p) k)]
   intro b c;rcases aK.1 c with c|c
   ·rw[E0 _ ⟨b,c,rfl⟩];exact d b c
   simp only[aS]at c;subst c;exact yD h _
 rw[if_neg k,dz k];simp only[T.kind,T.name,T.sort,T.kids];rw[if_pos (by cases p;simp)];have⟨s',e,a⟩:=AM (ps:=p.kids) (λq f s'=>i q f s') s d λq f v n o=>g v (mem_walk.2 (.inr ⟨q,f,n⟩)) o
 refine⟨s',?_,a⟩;cases p;exact e
theorem Bz{τ:T->T}{s:Lb}{f:Fa}(hs:agr s τ) (hf:∀t∈f.terms,∀v∈bm bD t,v.kind=1->gm v (τ v)=true):∃s',tP s f (cq τ f)=some s'/\agr s' τ:=by unfold tP;rw[if_pos ⟨rfl,rfl,by simp[cq]⟩];exact AM (λp _=>KP p) s hs hf
theorem Bs{α:Type}:∀ {l:List α}{a:α},a∈l->∃r,(a,r)∈pi l
 |x::l,a,h=>by
  rw[pi];rcases aV.1 h with rfl|h
  ·exact⟨l,s_⟩
  have⟨r,hr⟩:=Bs h;exact⟨x::r,bP _ (ae.2 ⟨(a,r),hr,rfl⟩)⟩
theorem Fo{τ:T->T}:∀(a b:List Fa) (s:Lb) (more:List Fa),agr s τ->(∀f∈a,∀t∈f.terms,∀v∈bm bD t,v.kind=1->gm v (τ v)=true)->b.Perm (a.map (cq τ)++more)->apB s a b=true
 |[],_,_,_,_,_,_=>by rw[apB]
 |f::a,b,s,more,hs,hf,hp=>by rw[apB,dT];have hm:cq τ f∈b:=hp.mem_iff.2 s_;have⟨r,d⟩:=Bs hm;have⟨i,e,c⟩:=Bz hs (hf f s_);refine⟨(cq τ f,r),d,?_⟩;dsimp only;rw[e];dsimp only;have h:=(vY d).symm.trans hp;rw[aM,cV]at h;exact Fo a r i more c (λg j=>hf g (by simp[j])) h.cons_inv
theorem F8{τ:T->T}{a b:Cl}{more:List Fa}(ha:bY a=0) (hb:bY b=0) (hf:∀f∈aN a,∀t∈f.terms,∀v∈bm bD t,v.kind=1->gm v (τ v)=true) (hh:cq τ a.head=b.head) (hp:b.body.Perm (a.body.map (cq τ)++more)):gD a b=true:=by unfold gD;rw[decide_eq_true ha,decide_eq_true hb,<-hh];have⟨s,e,c⟩:=Bz (s:=[]) (τ:=τ) (f:=a.head) (by intro b hb;simp at hb) (hf a.head (by simp[aN]));rw[e];exact Fo a.body b.body s more c (λf d=>hf f (by simp[aN,d])) hp
theorem LS{τ:T->T}:∀(t v:T),jI t->v∈bm bD t->v.kind=1->τ v∈bm bD (bc τ t):=by
 refine T.ind λt d v b e c=>?_
 rcases mem_walk.1 e with rfl|⟨q,a,f⟩
 ·rw[ea c];exact dD _
 by_cases k:t.kind=1
 ·rw[b t (dD t) k]at a;simp at a
 rw[dz k];exact mem_walk.2 (.inr ⟨bc τ q,df a,d q a v (kI b a) f c⟩)
theorem rU:∀(t v:T),bA t=0->v∈bm bD t->bA v=0:=by
 refine T.ind λt c v a d=>?_
 rcases mem_walk.1 d with rfl|⟨q,b,e⟩
 ·exact a
 exact c q b v (xS a b) e
theorem Ek{ρ:T->T}{l:Lb}(f:Fa):cq (λv=>bc ρ (dp l v)) f=cq ρ (cD l f):=by
 unfold cq cD;congr 1
 rw[eG];exact bf λt _=>yQ t
theorem Bm{l m:Lb}(f:Fa):cD m (cD l f)=cq (λv=>cy m (dp l v)) f:=by
 have e:(λv=>cy m (dp l v))=λv=>bc (dp m) (dp l v):=funext λv=>Bp m _
 rw[e,Ek,<-tG]
theorem sv{a b c:Cl}(h1:gD a b=true) (h2:gD b c=true):gD a c=true:=by
 have⟨σ,D,E,F,G⟩:=ze h1;have⟨υ,r,I,J,K⟩:=ze h2;have s:bY a=0:=by unfold gD at h1;simp only[bI,decide_eq_true_eq]at h1;exact h1.1.1
 have u:bY c=0:=by unfold gD at h2;simp only[bI,decide_eq_true_eq]at h2;exact h2.1.2
 have x:cq (λv=>cy υ (dp σ v)) a.head=c.head:=by rw[<-Bm,F,J]
 have y:c.body.Perm (a.body.map (cq λv=>cy υ (dp σ v))++(D.map (cD υ)++r)):=by
  refine K.trans ?_;rw[<-List.append_assoc];refine List.Perm.append_right r ?_;have:=G.map (cD υ);rw[List.map_append,eG]at this;refine this.trans (.of_eq ?_);congr 1
  exact bf λf _=>Bm f
 refine F8 s u (λf g t z v A h=>?_) x y;have i:cq (λv=>cy υ (dp σ v)) f∈aN c:=by
  simp only[aN,aK,aS]at g ⊢;rcases g with g|rfl
  ·exact .inl (y.mem_iff.2 (aa _ (ae.2 ⟨f,g,rfl⟩)))
  exact .inr x
 have B:=(eS ((dH s).2 f g)).2.2 t z;have tc:bA (bc (λv=>cy υ (dp σ v)) t)=0:=(eS ((dH u).2 _ i)).2.2 _ (ae.2 ⟨t,z,rfl⟩);have L:=rU t v B A;have M:=rU _ _ tc (LS t v (eD B) A h);unfold gm;rw[decide_eq_true L,decide_eq_true M,decide_eq_true h];by_cases j:v.sort=0
 ·rw[decide_eq_true j];rfl
 have k:((cy υ (dp σ v)).kind=1\/(cy υ (dp σ v)).kind=2)/\(cy υ (dp σ v)).sort=v.sort:=by
  have N:((dp σ v).kind=1\/(dp σ v).kind=2)/\(dp σ v).sort=v.sort:=by
   rcases iF σ v with e|⟨b,l,m,e⟩
   ·rw[e];exact⟨.inl h,rfl⟩
   have n:=cmp_zero.1 m;subst n;rw[e];exact(E b l).2 j
  have⟨o,d⟩:=N;generalize dp σ v=w at o d;rw[fh];by_cases p:w.kind=1
  ·rw[if_pos p];rcases iF υ w with e|⟨b,l,m,e⟩
   ·rw[e];exact⟨.inl p,d⟩
   have n:=cmp_zero.1 m;subst n;rw[e,<-d];exact(I b l).2 (by rw[d];exact j)
  rw[if_neg p];exact⟨o,d⟩
 have⟨o,d⟩:=k;have q:(cy υ (dp σ v)).kind≠3:=o_;rw[decide_eq_true q,decide_eq_true d];simp
def se(l:List Cl) (i:Nat):Bool:=(List.range l.length).all λk=>match l[k]?,l[i]? with
 |some d,some c=>decide (k=i) || !gD d c||(decide (i<k)&&gD c d)
 |_,_=>true
def KB(l:List Cl) (k i:Nat):Prop:=∃d c,l[k]?=some d/\l[i]?=some c/\k≠i/\gD d c=true/\¬(i<k/\gD c d=true)
theorem PR{l:List Cl}{i:Nat}(h:se l i=false):∃k,k<l.length/\KB l k i:=by
 unfold se at h;rw[kT]at h;have⟨k,b,h⟩:=h;have a:=dR.1 b;refine⟨k,a,?_⟩;split at h
 ·rename_i d c e f;refine⟨d,c,e,f,?_⟩;simp only[bz,bI,decide_eq_true_eq,cL,not_or]at h;exact⟨h.1.1,by simpa using h.1.2,h.2⟩
 exact absurd rfl h
theorem Gg{l:List Cl}{a b c:Nat}(h1:KB l a b) (h2:KB l b c):KB l a c:=by
 have⟨x,y,m,q,u,d,n⟩:=h1;have⟨v,z,o,f,w,g,p⟩:=h2;rw[q]at o;cases o;have i:a≠c:=by
  intro e;subst e;rw[m]at f;cases f;have r:¬b<a:=λh=>n ⟨h,g⟩
  have s:¬a<b:=λh=>p ⟨h,d⟩
  omega
 refine⟨x,z,m,f,i,sv d g,λ⟨h,t⟩=>?_⟩;have j:=sv t d;have k:=sv g t;have r:¬b<a:=λh=>n ⟨h,k⟩
 have s:¬c<b:=λh=>p ⟨h,j⟩
 omega
theorem ye{l:List Cl}{a:Nat}(h:KB l a a):False:=by have⟨_,_,_,_,n,_⟩:=h;exact n rfl
theorem yV{l:List Cl}:∀(n:Nat) (i:Nat) (c:Cl) (W:List Nat),l[i]?=some c->W.Nodup->(∀w∈W,w<l.length/\KB l i w)->l.length<=W.length+n->∃(j:Nat) (d:Cl),l[j]?=some d/\se l j=true/\cov d c
 |0,i,c,W,hi,hn,hW,hl=>by
  exfalso;have hil:=(aB.1 hi).1;have hin:i∉W:=λh=>ye (hW i h).2
  have h1:(i::W).Nodup:=gd.2 ⟨hin,hn⟩;have h3:=xd (m:=List.range l.length) h1 λw hw=>by
   rcases aV.1 hw with rfl|hw
   ·exact dR.2 hil
   exact dR.2 (hW w hw).1
  rw[List.length_range,aL]at h3;omega
 |n+1,i,c,W,hi,hn,hW,hl=>by
  by_cases hs:se l i=true
  ·exact⟨i,c,hi,hs,Nc c⟩
  ·obtain⟨k,hk,ho⟩:=PR (by simpa using hs)
   have hil:=(aB.1 hi).1
   have hin:i∉W:=λh=>ye (hW i h).2
   have hk':l[k]?=some l[k]:=aF hk;have⟨j,d,a1,a2,a3⟩:=yV n k l[k] (i::W) hk' (gd.2 ⟨hin,hn⟩) (λw hw=>by
    rcases aV.1 hw with rfl|hw
    ·exact⟨hil,ho⟩
    exact⟨(hW w hw).1,Gg ho (hW w hw).2⟩) (by rw[aL];omega)
   have⟨x,y,e1,e2,_,t,_⟩:=ho;rw[hk']at e1;rw[hi]at e2;cases e1;cases e2;exact⟨j,d,a1,a2,lL a3 (CC t)⟩
theorem Ci{l:List Cl}{c:Cl}(h:c∈l):∃(j:Nat) (d:Cl),l[j]?=some d/\se l j=true/\cov d c:=by have⟨i,a⟩:=nc.1 h;exact yV l.length i c [] a List.nodup_nil s_ s_
theorem smallC.okF{c:Cl}(h:smallC c):Go.VZ.okF (aN c):=λf a=>⟨(h.2 f a).2,(h.2 f a).1⟩
theorem gY{c:Cl}(h:bY c=0):c.body.length<=12/\∀f∈aN c,f.terms.length<=8/\sizes f.terms<=3200/\smallT f.terms:=by
 have⟨i,j⟩:=dH h;refine⟨i,λf k=>?_⟩;have⟨a,b,d⟩:=eS (j f k);have g:∀t∈f.terms,t.size<=400:=λt e=>(bg (d t e)).2.1
 have:=mn (n:=400) g;exact⟨b,o_,o_,λt e=>by have:=g t e;omega⟩
theorem gR{c:Cl}(h:bY c=0):smallC c:=⟨by have:=(gY h).1;omega,λf a=>((gY h).2 f a).2.2⟩
theorem Jo{l:List Fa}{n:Nat}(h:∀f∈l,sizes f.terms<=n):vT l<=n*l.length:=by
 induction l with
 |nil=>simp[vT]
 |cons a l b=>
  have e:=h a s_;have c:=b λf d=>h f (by simp[d])
  simp only[vT,aM,iS,aL]at c ⊢;rw[qd];omega
theorem F9(a b:Cl):gD a b=(decide (bY a=0)&&decide (bY b=0)&&(match tP [] a.head b.head with
 |some s=>apB s a.body b.body
 |none=>false)):=rfl
theorem Ow(a b:Cl) (ha:smallC a) (hb:smallC b):az C 33 [ai a,ai b]=some (.bool (gD a b)):=by
 refine bL func33 rfl λR J=>?_
 have fin:∀(st:PT) (h:H) (e:Bool),st.get 4=.bool e->gD a b=e->R .ret st h:=λst h e K L=>J ⟨.bool e,by simp[ag,cO,f33,K],by rw[L];exact aU rfl rfl⟩
 obtain⟨D,d⟩:∃g:H,g=[.cells (clC a) .live,.cells (clC b) .live]:=⟨_,rfl⟩
 have o:D[0]?=some (.cells (clC a) .live):=by rw[d];rfl
 have p:D[1]?=some (.cells (clC b) .live):=by rw[d];rfl
 have k:=jJ o;have l:=jJ p;have q:=lQ o;have s:=lQ p;have E:=jn o;have F:=jn p;rw[d]at k l q s E F;have n:=qB a ha.okF;have t:=qB b hb.okF;have c:=F9 a b;simp[go_sem,fk];by_cases i:bY a=0
 rotate_left
 ·simp[go_sem,k,l,n,i];exact fin _ _ false g_ (by rw[c];simp[i])
 by_cases j:bY b=0
 rotate_left
 ·simp[go_sem,k,l,n,t,i,j];exact fin _ _ false g_ (by rw[c];simp[j])
 have⟨S,u⟩:=gY i;have⟨U,G⟩:=gY j;have w:=u a.head (by simp[aN]);obtain⟨v,M,r,rfl,y,z,A⟩:=In [] a.head b.head w.2.2 (G b.head (by simp[aN])).2.2 (λb hb=>by simp at hb) (by simp;omega);have c3:∀h x,aj C h (.func 63 []) (some [.isl [] x,aQ a.head,aQ b.head])=some (.tuple [binds r,.bool (tP [] a.head b.head).isSome],h):=λh x=>an (args':=[binds [],aQ a.head,aQ b.head]) rfl (by simp[short];exact⟨rfl,rfl⟩) s_ M
 simp only[i,j,decide_true,kL]at c;cases B:tP [] a.head b.head with
 |none=>rw[B]at c3 c;simp only[gn]at c3;simp[go_sem,k,l,n,t,i,j,q,s,c3];exact fin _ _ false g_ c
 |some V=>
  have N:=y _ B;subst N;rw[B]at c3 c;simp only[mR]at c3;dsimp only at c;have O:vT a.body<=3200*a.body.length:=Jo λf m=>(u f (by simp[aN,m])).2.1
  simp only[bB]at A;have I:=RI a.body (λf m=>(u f (by simp[aN,m])).2.2) o_ a.body.length 0 r b.body o_ (λf m=>(G f (by simp[aN,m])).2.2) o_ z (by simp only[eH];omega);rw[eH]at I;have Q:∀h,aj C h (.func 64 []) (some [binds r,bK a.body,bK b.body,.int .i64 0])=some (.bool (apB r a.body b.body),h):=λh=>an (args':=[binds r,bK a.body,bK b.body,.int .i64 0]) rfl (by simp[el];exact⟨rfl,rfl,rfl⟩) s_ I
  simp[go_sem,k,l,n,t,i,j,q,s,c3,E,F,Q];exact fin _ _ _ g_ c
theorem DX(a b:Cl) (ha:smallC a) (hb:smallC b) (h:H):aj C h (.func 33 []) (some [ai a,ai b])=some (.bool (gD a b),h):=an (args':=[ai a,ai b]) rfl rfl s_ (Ow a b ha hb)
def tX(l:List Cl):Int:=if 60<l.length then 3 else iG l
def Zh(l:List Cl) (n:Nat) (st:PT) (_h:H):Prop:=∃k:Nat,n=l.length-k/\k<=l.length/\st.get 0=dV l/\st.get 3=.int .i64 k/\iG (l.drop k)=iG l
theorem Px(l:List Cl) (hl:l.length<4000000) (hv:∀c∈l,smallC c):az C 15 [dV l]=some (.int .i64 (tX l)):=by
 refine bL func15 rfl λR hR=>?_
 have fin:∀(st:PT) (h:H) (e:Int),st.get 2=.int .i64 e->tX l=e->R .ret st h:=λst h e h2 he=>hR ⟨.int .i64 e,by simp[ag,cO,f15,h2],by rw[he];exact aU rfl rfl⟩
 have hln:=sG l;by_cases h60:60<l.length
 ·have h60':(60:Int)<l.length:=o_;simp[go_sem,hln,h60'];exact fin _ _ 3 g_ (by rw[tX,if_pos h60])
 have h60':¬(60:Int)<l.length:=o_;rw[show tX l=iG l by rw[tX,if_neg h60]]at fin;simp[go_sem,hln,h60'];refine bX (Zh l) l.length ⟨0,rfl,aO _,g_,g_,rfl⟩ ?_;rintro n st h ⟨k,rfl,hk,g0,g3,hd⟩;by_cases hlt:k<l.length
 ·have hlt':(k:Int)<l.length:=o_;have hix:aZ C.P 24 (dV l) (.int .i64 k)=some (.iptr (ai l[k]) 0):=vG l k hlt;have li:=sh l[k];have c2:=qB l[k] (hv _ (aG hlt)).okF;rw[aI hlt,iG]at hd;by_cases hz:bY l[k]=0
  ·rw[if_pos hz]at hd
   have w2:IntKind.i64.wrap ((k:Int)+1)=((k+1:Nat):Int):=by rw[ay (by omega)];omega
   simp[go_sem,g0,g3,hln,hlt',hix,li,c2,hz,-Int.natCast_add,w2]
   exact⟨l.length-(k+1),by omega,k+1,rfl,hlt,by simp[go_sem,g0],by simp[go_sem],hd⟩
  rw[if_neg hz]at hd;simp[go_sem,g0,g3,hln,hlt',hix,li,c2,hz];exact fin _ _ (bY l[k]) g_ hd.symm
 have:k=l.length:=o_;subst this;rw[bH,iG]at hd;simp[go_sem,g0,g3,hln];exact fin _ _ 0 g_ hd.symm
theorem JI(l:List Cl) (x:Ext) (hl:l.length<4000000) (hv:∀c∈l,smallC c) (h:H):aj C h (.func 15 []) (some [.isl (l.map ai) x])=some (.int .i64 (tX l),h):=an (args':=[dV l]) rfl (by simp[short]) s_ (Px l hl hv)
structure SimR (smp:Cl->Cl) (c:Cl):Prop where
 run:az C 30 [ai c]=some (ai (smp c))
 small:smallC (smp c)
theorem SimR.call{smp:Cl->Cl}{c:Cl}(r:SimR smp c) (h:H):aj C h (.func 30 []) (some [ai c])=some (ai (smp c),h):=an (oy c) (by simp[jF]) s_ r.run
theorem Re{h:H}(c:Cl):ah C.P (h++[.cells dU .live]) 39 (.ptr h.length 0) (ai c)=some (h++[.cells (clC c) .live]):=by simp[ah,s37,dU,ai,clC,faC]
def gA(smp:Cl->Cl) (l:List Cl) (c:Cl):Bool:=qL (smp c)||l.any λd=>gD d (smp c)
def Zg(l:List Cl) (s:Cl) (n:Nat) (st:PT) (h:H):Prop:=∃k:Nat,n=l.length-k/\k<=l.length/\h[1]?=some (.cells (clC s) .live)/\st.get 0=dV l/\st.get 5=.ptr 1 0/\st.get 6=.int .i64 k/\((l.drop k).any λd=>gD d s)=l.any λd=>gD d s
theorem Kx{smp:Cl->Cl}(l:List Cl) (c:Cl) (hl:l.length<4000000) (hv:∀c∈l,smallC c) (hs:SimR smp c):az C 18 [dV l,ai c]=some (.bool (gA smp l c)):=by
 refine bL func18 rfl λR hR=>?_
 have fin:∀(st:PT) (h:H) (e:Bool),st.get 4=.bool e->gA smp l c=e->R .ret st h:=λst h e h2 he=>hR ⟨.bool e,by simp[ag,cO,f18,h2],by rw[he];exact aU rfl rfl⟩
 have hln:=sG l;have l0:aJ C.P [.cells (clC c) .live] 39 (.ptr 0 0)=some (ai c):=jJ rfl;have c1:=hs.call;have e1:ah C.P [.cells (clC c) .live,.cells dU .live] 39 (.ptr 1 0) (ai (smp c))=some [.cells (clC c) .live,.cells (clC (smp c)) .live]:=Re (h:=[.cells (clC c) .live]) (smp c);have l1:aJ C.P [.cells (clC c) .live,.cells (clC (smp c)) .live] 39 (.ptr 1 0)=some (ai (smp c)):=jJ rfl;have c2:=DZ (smp c) hs.small.1 hs.small.2;have hss:=hs.small;have hcov:gA smp l c=(qL (smp c)||l.any λd=>gD d (smp c)):=rfl;generalize smp c=s at *;cases q:qL s with
 |true=>rw[q]at c2 hcov;simp[go_sem,fk,l0,c1,om,am,e1,l1,c2];exact fin _ _ true g_ (by rw[hcov];rfl)
 |false=>
  rw[q,gQ]at hcov;rw[q]at c2;simp[go_sem,fk,l0,c1,om,am,e1,l1,c2];refine bX (Zg l s) l.length ⟨0,rfl,aO _,rfl,g_,g_,g_,rfl⟩ ?_;clear l0 e1 l1;rintro n st h ⟨k,rfl,hk,m1,g0,g5,g6,hd⟩;have l1:=jJ m1;by_cases hlt:k<l.length
  ·have hlt':(k:Int)<l.length:=o_;have hix:aZ C.P 24 (dV l) (.int .i64 k)=some (.iptr (ai l[k]) 0):=vG l k hlt;have li:=sh l[k];have c3:=DX l[k] s (hv _ (aG hlt)) hss;rw[aI hlt,mD]at hd;cases hz:gD l[k] s with
   |true=>rw[hz]at hd c3;simp[go_sem,g0,g5,g6,hln,hlt',hix,li,l1,c3];exact fin _ _ true g_ (by rw[hcov,<-hd];rfl)
   |false=>
    rw[hz,gQ]at hd
    rw[hz]at c3
    have w2:IntKind.i64.wrap ((k:Int)+1)=((k+1:Nat):Int):=by rw[ay (by omega)];omega
    simp[go_sem,g0,g5,g6,hln,hlt',hix,li,l1,c3,-Int.natCast_add,w2]
    exact⟨l.length-(k+1),by omega,k+1,rfl,hlt,m1,by simp[go_sem,g0],by simp[go_sem,g5],by simp[go_sem],hd⟩
  have:k=l.length:=o_;subst this;rw[bH,List.any_nil]at hd;simp[go_sem,g0,g6,hln];exact fin _ _ false g_ (by rw[hcov,<-hd])
theorem Tv{smp:Cl->Cl}(l:List Cl) (c:Cl) (x:Ext) (hl:l.length<4000000) (hv:∀c∈l,smallC c) (hs:SimR smp c) (h:H):aj C h (.func 18 []) (some [.isl (l.map ai) x,ai c])=some (.bool (gA smp l c),h):=an (args':=[dV l,ai c]) rfl (by simp[short];rfl) s_ (Kx l c hl hv hs)
def stC(l:List Cl) (i k:Nat):Bool:=match l[k]?,l[i]? with
 |some d,some c=>decide (k=i) || !gD d c||(decide (i<k)&&gD c d)
 |_,_=>true
theorem Jg(l:List Cl) (i:Nat):se l i=(List.range l.length).all (stC l i):=rfl
theorem SM{l:List Cl}{i k:Nat}(hi:i<l.length) (hk:k<l.length):stC l i k=(decide (k=i) || !gD l[k] l[i]||(decide (i<k)&&gD l[i] l[k])):=by unfold stC;rw[aF hk,aF hi]
def BV(smp:Cl->Cl) (o:List Cl) (c:Cl):List Cl:=if qL (smp c)=true then o else nT rS (smp c) o
def RK(smp:Cl->Cl) (l:List Cl):List Cl:=l.foldl (BV smp) []
def aAG(smp:Cl->Cl) (l:List Cl) (n:Nat) (st:PT) (_h:H):Prop:=∃(k:Nat) (o:List Cl) (x:Ext),n=l.length-k/\k<=l.length/\o.length<=k/\(∀c∈o,smallC c)/\st.get 0=dV l/\st.get 3=.isl (o.map ai) x/\st.get 4=.int .i64 k/\(l.drop k).foldl (BV smp) o=RK smp l
def Z7(all:List Cl) (n:Nat) (st:PT) (h:H):Prop:=∃(i:Nat) (o:List Cl) (x:Ext) (v:AV),n=all.length-i/\i<=all.length/\o.length<=i/\(∀d,d∈o↔∃j,j<i/\all[j]?=some d/\se all j=true)/\st.get 3=.isl (all.map ai) x/\st.get 6=v/\OwnR 39 h v (o.map ai)/\st.get 7=.int .i64 i
def Z2(all:List Cl) (i:Nat) (x:Ext) (v:AV) (h0:H) (n:Nat) (st:PT) (h:H):Prop:=∃(k:Nat) (b:Bool),n=all.length-k/\k<=all.length/\h=h0/\st.get 3=.isl (all.map ai) x/\st.get 6=v/\st.get 7=.int .i64 i/\st.get 8=.bool b/\st.get 9=.int .i64 k/\b=(List.range k).all (stC all i)
def BW(smp:Cl->Cl) (l out:List Cl):Prop:=(∀d,d∈out↔∃j,(RK smp l)[j]?=some d/\se (RK smp l) j=true)/\out.length<=l.length
theorem uo{p:Nat->Bool}{k:Nat}:(List.range (k+1)).all p=((List.range k).all p&&p k):=by simp[List.range_succ]
theorem L5{smp:Cl->Cl}(l:List Cl) (hl:l.length<1000000) (hs:∀c∈l,SimR smp c):∃v,az C 16 [dV l]=some v/\∃out,v=dV out/\BW smp l out:=by
 refine mC rfl func16 rfl k_ (by simp[f16]) λR hR=>?_
 have e:=sG l;simp[go_sem];refine bX (aAG smp l) l.length ⟨0,[],.tok 1,rfl,aO _,aO _,s_,g_,g_,g_,rfl⟩ ?_;rintro n st h ⟨k,o,x,rfl,hk,ho,s,g0,t,g4,G⟩;by_cases a:k<l.length
 ·have r:(k:Int)<l.length:=o_;have U:aZ C.P 24 (dV l) (.int .i64 k)=some (.iptr (ai l[k]) 0):=vG l k a;have li:=sh l[k];have w:=hs _ (aG a);have I:=w.call;have S:=DZ (smp l[k]) w.small.1 w.small.2;have K:=wS k o_;have e1:=λh=>Re (h:=h) (smp l[k])
  have V:∀h:H,aJ C.P (h++[.cells (clC (smp l[k])) .live]) 39 (.ptr h.length 0)=some (ai (smp l[k])):=λh=>jJ s_
  rw[aI a,dc]at G;cases q:qL (smp l[k])with
  |true=>rw[q]at S;rw[BV,if_pos q]at G;simp[go_sem,g0,g4,e,r,U,li,I,om,am,e1,V,S,-Int.natCast_add,K];exact⟨l.length-(k+1),o_,k+1,o,x,rfl,a,o_,s,g_,g_,g_,G⟩
  |false=>
   rw[q]at S;rw[BV,if_neg (by simp[q])]at G;have c3:=N2 o (smp l[k]) x o_ s w.small;simp[go_sem,g0,t,g4,e,r,U,li,I,om,am,e1,V,S,c3,-Int.natCast_add,K];refine⟨l.length-(k+1),o_,k+1,nT rS (smp l[k]) o,.unk,rfl,a,by have:=wk (cmp:=rS) (c:=smp l[k]) (l:=o);omega,λc hc=>?_,g_,by simp[go_sem,dV],g_,G⟩;rcases rN hc with rfl|hc
   ·exact w.small
   exact s c hc
 have:k=l.length:=o_;subst this;rw[bH,List.foldl_nil]at G;have hq:∀out:List Cl,(∀d,d∈out↔∃j,o[j]?=some d/\se o j=true)->out.length<=l.length->BW smp l out:=λout J m=>⟨by rw[<-G];exact J,m⟩
 simp[go_sem,g0,g4,e];clear G g0 g4 e;refine bX (Z7 o) o.length ⟨0,[],x,.isl [] (.tok h.length),rfl,aO _,aO _,s_,g_,g_,.inr ⟨h.length,rfl,s_⟩,g_⟩ ?_;clear t;rintro n st h ⟨i,out,x,v,rfl,hi,q5,u,t,g6,X,z⟩;have e:=IY o x;by_cases a:i<o.length
 ·have r:(i:Int)<o.length:=o_;have K:=wS i o_;have D:aZ C.P 24 (.isl (o.map ai) x) (.int .i64 i)=some (.iptr (ai o[i]) 0):=by simp[aZ,u22,s37,ai,clC,faC,am,a]
  have E:=sh o[i];simp[go_sem,t,z,e,r];refine bX (Z2 o i x v h) o.length ⟨0,true,rfl,aO _,rfl,g_,g_,g_,g_,g_,rfl⟩ ?_;clear t g6 z;rintro n st h' ⟨k,b,rfl,hk,rfl,t,g6,z,L,M,N⟩;have A:∀f:k<o.length,aZ C.P 24 (.isl (o.map ai) x) (.int .i64 k)=some (.iptr (ai o[k]) 0):=λf=>by simp[aZ,u22,s37,ai,clC,faC,am,f]
  by_cases f:k<o.length
  ·have g:(k:Int)<o.length:=o_;have A:=A f;have w3:=wS k o_;have O:=sh o[k];have F:=SM a f;have I:=DX o[k] o[i] (s _ (aG f)) (s _ (aG a));have S:=DX o[i] o[k] (s _ (aG a)) (s _ (aG f));cases b with
   |true=>
    by_cases q1:k=i
    ·have B:(k:Int)=i:=o_;simp[go_sem,t,z,L,M,e,r,B,-Int.natCast_add,K];exact⟨o.length-(k+1),o_,k+1,true,rfl,f,rfl,g_,g_,g_,g_,by simp[go_sem,q1],by rw[uo,<-N,F];simp[q1]⟩
    have B:¬(k:Int)=i:=o_;cases Y:gD o[k] o[i]with
    |false=>rw[Y]at I;simp[go_sem,t,z,L,M,e,g,B,A,D,O,E,I,-Int.natCast_add,w3];exact⟨o.length-(k+1),o_,k+1,true,rfl,f,rfl,g_,g_,g_,g_,g_,by rw[uo,<-N,F];simp[Y]⟩
    |true=>
     rw[Y]at I;by_cases q3:i<k
     ·have Q:(i:Int)<k:=o_;simp[go_sem,t,z,L,M,e,g,B,Q,A,D,O,E,I,S,-Int.natCast_add,w3];exact⟨o.length-(k+1),o_,k+1,gD o[i] o[k],rfl,f,rfl,g_,g_,g_,g_,g_,by rw[uo,<-N,F];simp[q1,Y,q3]⟩
     have Q:¬(i:Int)<k:=o_;simp[go_sem,t,z,L,M,e,g,B,Q,A,D,O,E,I,-Int.natCast_add,w3];exact⟨o.length-(k+1),o_,k+1,false,rfl,f,rfl,g_,g_,g_,g_,g_,by rw[uo,<-N,F];simp[q1,Y,q3]⟩
   |false=>
    have q':se o i=false:=by rw[Jg];rw[eq_comm,kT]at N;have⟨j,hj,q0⟩:=N;exact kT.2 ⟨j,by simp at hj ⊢;omega,q0⟩
    simp[go_sem,t,z,L,M,e,g,-Int.natCast_add,K];refine⟨o.length-(i+1),o_,i+1,out,x,v,rfl,a,o_,λd=>?_,g_,g_,X,g_⟩;rw[u d];exact⟨λ⟨j,J,m,p⟩=>⟨j,o_,m,p⟩,λ⟨j,J,m,p⟩=>⟨j,(by rcases fj j i with h|h;exact h;rw[show j=i by omega,q']at p;cases p),m,p⟩⟩
  have q4:k=o.length:=o_;have g:¬(k:Int)<o.length:=o_;have Z:b=se o i:=by rw[N,q4];rfl
  cases b with
  |false=>simp[go_sem,t,z,L,M,e,g,-Int.natCast_add,K];refine⟨o.length-(i+1),o_,i+1,out,x,v,rfl,a,o_,λd=>?_,g_,g_,X,g_⟩;rw[u d];exact⟨λ⟨j,J,m,p⟩=>⟨j,o_,m,p⟩,λ⟨j,J,m,p⟩=>⟨j,(by rcases fj j i with h|h;exact h;rw[show j=i by omega,<-Z]at p;cases p),m,p⟩⟩
  |true=>
   obtain⟨y,rfl⟩:=X.isl;have⟨v',m,ha,hw,q6,q7⟩:=nM (ys:=[o[i]]) (x:=.full) X (by simp;omega);rw[aM,bM]at ha;simp[go_sem,t,g6,z,L,M,e,g,D,E,oi,ha,show au (ai o[i])=true from rfl,-Int.natCast_add,-List.map_append,K];refine⟨o.length-(i+1),o_,i+1,out++[o[i]],x,v',rfl,a,by simp;omega,λd=>?_,g_,g_,hw,g_⟩;rw[aK,u d,aS];constructor
   ·rintro(⟨j,J,m,p⟩|rfl)
    ·exact⟨j,o_,m,p⟩
    exact⟨i,o_,aF a,Z.symm⟩
   rintro⟨j,J,m,p⟩;rcases fj j i with h|h
   ·exact .inl ⟨j,h,m,p⟩
   have:j=i:=o_;subst this;rw[aF a]at m;exact .inr (Option.some.inj m).symm
 have:i=o.length:=o_;subst this;obtain⟨y,rfl⟩:=X.isl;simp[go_sem,t,g6,z,e];refine hR _ _ _ (.inr rfl) ⟨dV out,⟨out,rfl,hq out (λd=>?_) o_⟩,.isl (out.map ai) y,by simp[ag,cO,f16,go_sem],aU rfl rfl⟩;rw[u d];exact⟨λ⟨j,J,m,p⟩=>⟨j,m,p⟩,λ⟨j,m,p⟩=>⟨j,(aB.1 m).1,m,p⟩⟩
theorem N3{smp:Cl->Cl}(l:List Cl) (x:Ext) (hl:l.length<1000000) (hs:∀c∈l,SimR smp c):∃out,BW smp l out/\∀h,aj C h (.func 16 []) (some [.isl (l.map ai) x])=some (dV out,h):=by obtain⟨v,a,out,rfl,b⟩:=L5 l hl hs;exact⟨out,b,λh=>an (args':=[dV l]) rfl (by simp[short]) s_ a⟩
def Cs(c:Cl) (x:T):Nat:=(aN c).countP λf=>decide (x∈bS f.terms)
def Zc(c:Cl) (x:T) (n:Nat) (st:PT) (h:H):Prop:=∃k:Nat,n=(aN c).length-k/\k<=(aN c).length/\h[1]?=some (.cells (tc x) .live)/\st.get 3=.ptr 1 0/\st.get 5=.int .i64 (((aN c).take k).countP λf=>decide (x∈bS f.terms))/\(∃y,st.get 6=.isl ((aN c).map aQ) y)/\st.get 7=.int .i64 k
theorem Ic(f:Fa) (h:H):aJ C.P h 32 (.iptr (aQ f) 2)=some (terms f.terms):=by simp[aJ,aY,a23,s23,aQ,faC,am,terms]
theorem MM(c:Cl) (x:T) (hb:c.body.length<=10000) (hv:∀f∈aN c,smallT f.terms/\sizes f.terms<4000000) (hx:x.size<4000000):az C 60 [ai c,enc x]=some (.int .i64 (Cs c x)):=by
 refine bL func60 rfl λR Z=>?_
 have bx:∀h x,mg C.P h 41 (enc x)=some (.ptr h.length 0,h++[.cells (tc x) .live]):=λh x=>by rw[gx];rfl
 simp[go_sem,fk,bx];refine ic 2 _ (λst h=>st.get 3=.ptr 1 0/\st.get 5=.int .i64 0/\(∃y,st.get 6=.isl ((aN c).map aQ) y)/\h[1]?=some (.cells (tc x) .live)) (by rw[gM];decide) k_ ?_ ?_
 rotate_left
 ·rintro st h ⟨E,u,v,w⟩;have q':(aN c).length<=10001:=by simp[aN];omega
  simp[go_sem];refine bX (Zc c x) (aN c).length ⟨0,rfl,aO _,w,g_,g_,by simpa[go_sem]using v,g_⟩ ?_;clear E u v w;rintro n st h ⟨k,rfl,hk,w,E,u,⟨y,v⟩,F⟩;have j:fG C.P 29 (.isl ((aN c).map aQ) y)=some (.int .i64 (aN c).length):=by simp[Eo]
  have U:=(ji w).2.2.2.2;by_cases o:k<(aN c).length
  ·have s:(k:Int)<(aN c).length:=o_;have z:aZ C.P 29 (.isl ((aN c).map aQ) y) (.int .i64 k)=some (.iptr (aQ (aN c)[k]) 0):=kD (aN c) k o y;have V:=wS k o_;have⟨A,G⟩:=hv _ (aG o);have lt:=Ic (aN c)[k];have I:=He (aN c)[k].terms .unk A.2 G;change ∀h,aj C h (.func 35 []) (some [terms (aN c)[k].terms])=_ at I;have J:∀t∈bS (aN c)[k].terms,t.size<4000000:=pF A.2;have K:(bS (aN c)[k].terms).length<4000000:=by have:=F5 (aN c)[k].terms;omega
   have X:∀h,aj C h (.func 101 []) (some [terms (bS (aN c)[k].terms),enc x])=some (.bool (decide (x∈bS (aN c)[k].terms)),h):=λh=>an (args':=[terms (bS (aN c)[k].terms),enc x]) (by rw[bV x];rfl) (by simp[tC,bF]) s_ (M2 _ x J hx K)
   have p:((aN c).take (k+1)).countP (λf=>decide (x∈bS f.terms))=((aN c).take k).countP (λf=>decide (x∈bS f.terms))+if x∈bS (aN c)[k].terms then 1 else 0:=by rw[<-aW o,List.countP_append];simp[List.countP_cons]
   have L:((aN c).take k).countP (λf=>decide (x∈bS f.terms))<=10001:=cJ (List.countP_le_length) (by simp;omega);generalize ((aN c).take k).countP (λf=>decide (x∈bS f.terms))=m at u p L;have w3:=wS m o_;by_cases q:x∈bS (aN c)[k].terms
   ·rw[if_pos q]at p;simp[go_sem,E,u,v,F,j,s,z,sL,lt,U,I,X,q,-Int.natCast_add,V,w3];exact⟨(aN c).length-(k+1),o_,k+1,rfl,o,w,g_,by simp[go_sem,p],⟨y,g_⟩,g_⟩
   rw[if_neg q]at p;simp[go_sem,E,v,F,j,s,z,sL,lt,U,I,X,q,-Int.natCast_add,V];exact⟨(aN c).length-(k+1),o_,k+1,rfl,o,w,g_,by simp[go_sem,u,p],⟨y,g_⟩,g_⟩
  have:k=(aN c).length:=o_;subst this;rw[ak]at u;simp[go_sem,u,v,F,j];exact Z ⟨.int .i64 (Cs c x),by simp[ag,cO,f60,go_sem,Cs],aU rfl rfl⟩
 show MX C 60 _ 2 _ 0 _ _ _ _;generalize B:[VObj.cells (clC c) .live,VObj.cells (tc x) .live]++List.replicate _ VObj.void=H0;have b:Pl [.cells (clC c) .live,.cells (tc x) .live] H0 9:=B▸Pl.mk' _ 9;have d:=b.len;clear B;have M:H0[0]?=some (.cells (clC c) .live):=b.get rfl;have Y:H0[1]?=some (.cells (tc x) .live):=b.get rfl;have q0:=jn M;have q1:=lQ M;simp only[aL,bB,bu,Nat.reduceAdd]at d b;refine gH (parts:=[]) [] (.isl [] .full) rfl rfl (oG _) (b.isV (i:=0) d_) ?_;refine bE (.ptr 0 0) rfl rfl (b.isV (i:=1) d_) (by simp[opN,go_sem]) (oM o_) ?_;refine cR (.ptr 0 0) (bK c.body) g_ q0 (dW s_) (b.isV (i:=2) d_) rfl ?_;rcases c with⟨body,head⟩
 cases body with
 |nil=>
  refine dq (.isl [] .full) (bK []) _ H0 H0 (by simp[go_sem];rfl) g_ (by rw[wrC];exact Hp H0 .unk) o_ rfl (b.isV (i:=3) d_) (og _ _) ?_;refine bE (.ptr 0 1) rfl rfl (b.isV (i:=4) d_) (by simp[opN,go_sem]) (oM o_) ?_;refine cR (.ptr 0 1) (aQ head) g_ q1 (dW s_) (b.isV (i:=5) d_) rfl ?_;refine gH (parts:=[(0,.tmp 13)]) [(0,aQ head)] (.isl [aQ head] .full) (mN g_ rfl) (kH _ _) (eI _ _) (b.isV (i:=6) d_) ?_;refine dq (.isl [] .full) (.isl [aQ head] .full) _ _ _ (by simp[go_sem];rfl) (by simp[go_sem];rfl) (by rw[wrC];exact Fm H0 head [] .full s_) s_ rfl (b.isV (i:=7) d_) (jK o_) ?_;refine bE (.isl [aQ head] (.tok 9)) rfl rfl ?_ (by simp[opN,go_sem,AV.mv]) (by simp[AV.mv,d]) ?_
  ·rw[aC s_];exact b.isV (i:=8) d_
  exact⟨k_,g_,g_,⟨_,by simp[go_sem,aN];rfl⟩,by rw[aC s_];exact Y⟩
 |cons a l=>
  have hc:=Fm H0 a l .unk hb;refine dq (.isl [] .full) (bK (a::l)) _ _ _ (by simp[go_sem];rfl) g_ (by rw[wrC];exact hc) s_ rfl (b.isV (i:=3) d_) (jK o_) ?_;rw[show(AV.isl ((a::l).map aQ) (.tok H0.length)).mv H0.length (2+3)=.isl ((a::l).map aQ) (.tok 5) by simp[AV.mv]];obtain⟨D,e⟩:∃g,g=H0.set (2+3) (VObj.mv H0.length (2+3) (.tok (a::l).length 34)):=⟨_,rfl⟩
  have N:D[5]?=some (.tok (a::l).length 34):=by rw[e];simp[d,VObj.mv]
  have r:D.length=11:=by rw[e];simp[d]
  have hv:∀i,i<9->i≠3->dE D[2+i]?=true:=λi hi hn=>by rw[e];exact dg (b.isV hi) o_
  have O:D[0]?=some (.cells (clC ⟨a::l,head⟩) .live):=by rw[e,aC s_];exact M
  have Q:D[1]?=some (.cells (tc x) .live):=by rw[e,aC s_];exact Y
  have S:=lQ O;rw[<-e];refine bE (.ptr 0 1) rfl rfl (hv 4 d_ d_) (by simp[opN,go_sem]) (oM o_) ?_;refine cR (.ptr 0 1) (aQ head) g_ S (dW s_) (hv 5 d_ d_) rfl ?_;refine gH (parts:=[(0,.tmp 13)]) [(0,aQ head)] (.isl [aQ head] .full) (mN g_ rfl) (kH _ _) (eI _ _) (hv 6 d_ d_) ?_;refine dq (.isl ((a::l).map aQ) (.tok 5)) (.isl [aQ head] .full) _ _ _ g_ (by simp[go_sem];rfl) (by rw[wrC];exact WZ (a::l) head N hb) s_ (by simp[cF,gZ]) (hv 7 d_ d_) (oD s_) ?_;refine bE (.isl ((a::l++[head]).map aQ) (.tok 5)) rfl rfl ?_ (by simp[opN,go_sem,AV.mv,r]) (by simp[AV.mv,r]) ?_
  ·rw[aC s_];exact hv 8 d_ d_
  refine⟨by simp[it,cF,gZ];kernel_rfl,g_,g_,⟨_,by simp[go_sem,aN];rfl⟩,?_⟩;rw[aC s_];exact Q
end Go.VZ
