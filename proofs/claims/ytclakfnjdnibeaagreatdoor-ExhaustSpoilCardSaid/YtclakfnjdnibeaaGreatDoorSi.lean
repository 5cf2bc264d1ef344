/- A part of the proof. -/
import Derived.Test.YtclakfnjdnibeaaGreatDoorSh
set_option maxHeartbeats 16000000
set_option maxRecDepth 16000
namespace Go.VZ
open Go Go.V Go.Proofs Tryz TL
def ZV(x y:T) (l:Lb) (m:Nat) (st:PT) (h:H):Prop:=∃(k:Nat) (v:AV) (o:Lb) (d:Bool),m=l.length-k/\k<=l.length/\o.length<=k+d.toNat/\h[0]?=some (.cells (enc x).cells .live)/\h[1]?=some (.cells (enc y).cells .live)/\st.get 0=binds l/\st.get 4=.ptr 0 0/\st.get 5=.ptr 1 0/\st.get 7=v/\st.get 8=.bool d/\st.get 9=.int .i64 k /\
 OwnR 84 h v (o.map bS)/\kI (x,y) l=(if d=true then o++l.drop k else o++kI (x,y) (l.drop k))
theorem Sg(x y:T) (l:Lb) (hx:x.size<4000000) (hy:y.size<4000000) (hs:small l) (hl:l.length<4000000) (hne:x.cmp y≠0):az C 135 [binds l,enc x,enc y]=some (binds (kI (x,y) l)):=by
 refine ay func135 rfl λR Z=>?_
 have t:aW C.P [.cells (enc x).cells .live,.cells (enc y).cells .live,.tok 0 84] 39 (.ptr 0 0)=some (enc x):=gi rfl;have D:aW C.P [.cells (enc x).cells .live,.cells (enc y).cells .live,.tok 0 84] 39 (.ptr 1 0)=some (enc y):=gi rfl;have cs:=lr x y hx hy;simp[go_sem,jt,t,D,cs,hne];refine bL (ZV x y l) l.length ⟨0,.isl [] (.tok 3),[],false,rfl,aN _,s_,rfl,rfl,g_,g_,g_,g_,g_,g_,.inr ⟨3,rfl,rfl⟩,s_⟩ ?_;clear t D;rintro m M h ⟨k,v,o,d,rfl,hk,u,j,n,E,N,V,F,G,I,b,c⟩;have t:=gi j;have D:=gi n;have q':d.toNat<=1:=by cases d<;>decide
 by_cases a:k<l.length
 ·have e:(k:Int)<l.length:=o_;have w:bH C.P 45 (binds l) (.int .i64 k)=some (.iptr (bS l[k]) 0):=sS l k a _;have hb:=hs _ (aF a);have O:=wS k o_;have z:=aI a;have s:=sM x l[k].1 hx hb.1;have X:=kH l[k];have⟨Y,h1,A,J,p,q0⟩:=lQ (ys:=[l[k]]) (x:=.full) b (by simp only[aG,aQ];omega);simp only[aS,bD]at A;cases d
  ·by_cases q:x.cmp l[k].1<0
   ·have⟨v2,h2,f,g,i,Q⟩:=lQ (ys:=[(x,y)]) (x:=.full) b (by simp only[aG,aQ];omega);have⟨v3,h3,K,S,L,q1⟩:=lQ (ys:=[l[k]]) (x:=.full) g (by simp only[aG,aQ,aL];omega);simp only[aS,bD]at f K;have U:=yf x y;simp[go_sem,E,N,V,F,G,I,xV,e,w,py,t,D,X,s,q,U,pE,ft,f,K,G8,-Int.natCast_add,O];refine⟨l.length-(k+1),o_,k+1,v3,_,true,rfl,a,?_,L.get (i.get j (cM b j)) (cM g (i.get j (cM b j))),L.get (i.get n (cM b n)) (cM g (i.get n (cM b n))),g_,g_,g_,g_,g_,g_,S,?_⟩
    ·simp at u ⊢;omega
    rw[c,z];simp[kI,q]
   simp[go_sem,E,N,F,G,I,xV,e,w,py,t,X,s,q,pE,ft,A,G8,-Int.natCast_add,O];refine⟨l.length-(k+1),o_,k+1,Y,_,false,rfl,a,by simp at u ⊢;omega,p.get j (cM b j),p.get n (cM b n),g_,g_,g_,g_,g_,g_,J,?_⟩;rw[c,z];simp[kI,q]
  simp[go_sem,E,N,F,G,I,xV,e,w,t,pE,ft,A,G8,-Int.natCast_add,O];refine⟨l.length-(k+1),o_,k+1,Y,_,true,rfl,a,by simp at u ⊢;omega,p.get j (cM b j),p.get n (cM b n),g_,g_,g_,g_,g_,g_,J,?_⟩;rw[c,z];simp
 have:k=l.length:=o_;subst this;have fin:∀(M:PT) (h:H) (r:Lb) (B:Ext),M.get 6=.isl (r.map bS) B->kI (x,y) l=r->R .ret M h:=λM h r B h6 he=>by refine Z ⟨.isl (r.map bS) B,by simp[aY,cC,f135,h6],?_⟩;rw[he];exact aK rfl rfl
 cases d
 ·have⟨v2,h2,f,g,i,Q⟩:=lQ (ys:=[(x,y)]) (x:=.full) b (by simp only[aG,aQ];omega);simp only[aS,bD]at f;obtain⟨B,rfl⟩:=g.isl;have U:=yf x y;simp[go_sem,E,N,V,F,G,I,xV,t,D,U,pE,ft,f];exact fin _ _ (o++[(x,y)]) B g_ (by rw[c];simp[kI])
 obtain⟨B,rfl⟩:=b.isl;simp[go_sem,E,F,G,I,xV];exact fin _ _ o B g_ (by rw[c];simp)
theorem SN(x y:T) (l:Lb) (e:Ext) (hx:x.size<4000000) (hy:y.size<4000000) (hs:small l) (hl:l.length<4000000) (hne:x.cmp y≠0) (h:H):ak C h (.func 135 []) (some [.isl (l.map bS) e,enc x,enc y])=some (binds (kI (x,y) l),h):=
 aX (args':=[binds l,enc x,enc y]) (by rw[bE x,bE y];rfl) (by simp[aq];rfl) s_ (Sg x y l hx hy hs hl hne)
theorem Se(x y:T) (l:Lb) (hx:x.size<4000000) (hy:y.size<4000000) (he:x.cmp y=0):az C 135 [binds l,enc x,enc y]=some (binds l):=by
 refine ay func135 rfl λR a=>?_
 have b:aW C.P [.cells (enc x).cells .live,.cells (enc y).cells .live,.tok 0 84] 39 (.ptr 0 0)=some (enc x):=gi rfl;have c:aW C.P [.cells (enc x).cells .live,.cells (enc y).cells .live,.tok 0 84] 39 (.ptr 1 0)=some (enc y):=gi rfl;have d:=lr x y hx hy;simp[go_sem,jt,b,c,d,he];exact a ⟨binds l,by simp[aY,cC,f135,go_sem],aK rfl rfl⟩
theorem Fl(b:T × T) (l:Lb) (e:Ext) (hx:b.1.size<4000000) (hy:b.2.size<4000000) (hs:small l) (hl:l.length<4000000) (h:H):ak C h (.func 135 []) (some [.isl (l.map bS) e,enc b.1,enc b.2])=some (binds (mu l b),h):=by
 have⟨x,y⟩:=b;by_cases a:x.cmp y=0
 ·rw[mu,if_pos a];exact aX (args':=[binds l,enc x,enc y]) (by rw[bE x,bE y];rfl) (by simp[aq];rfl) s_ (Se x y l hx hy a)
 rw[mu,if_neg a];exact SN x y l e hx hy hs hl a h
theorem Fw{l:Lb}{b:T × T}(hs:small l) (hb:b.1.size<4000000/\b.2.size<4000000):small (mu l b):=by
 unfold mu;split
 ·exact hs
 intro c a;rcases ac.1 ((mH b l).mem_iff.1 a)with a|a
 ·exact hs c a
 rw[bJ.1 a];exact hb
theorem Ly(l:Lb) (b:T × T):(mu l b).length<=l.length+1:=by
 unfold mu;split
 ·omega
 rw[Nm];omega
def ZC(s:Lb) (v:T) (m:Nat) (st:PT) (h:H):Prop:=∃k:Nat,m=s.length-k/\k<=s.length/\st.get 0=binds s/\st.get 3=.ptr 0 0/\st.get 5=.int .i64 k/\h=[.cells (enc v).cells .live]/\inS (s.drop k) v=inS s v
theorem PE(s:Lb) (v:T) (hs:small s) (hl:s.length<1000000) (hv:v.size<4000000):az C 136 [binds s,enc v]=some (.bool (inS s v)):=by
 refine ay func136 rfl λR i=>?_
 have f:fB C.P 45 (.isl (s.map bS) .unk)=some (.int .i64 s.length):=by rw[mW,aU]
 simp[go_sem];refine bL (ZC s v) s.length ⟨0,rfl,aN _,g_,g_,g_,by simp[au],rfl⟩ ?_;rintro m o h ⟨k,rfl,p,c,j,g,rfl,d⟩;simp only[binds]at c;by_cases a:k<s.length
 ·have b:(k:Int)<s.length:=o_;have e:=sS s k a .unk;have n:=wS k o_;have l:=lr s[k].1 v (hs _ (aF a)).1 hv;rw[aI a,inS,qa]at d;by_cases z:s[k].1.cmp v=0
  ·simp[go_sem,c,j,g,f,b,e,kH,l,z];exact i ⟨.bool true,by simp[aY,cC,f136,go_sem],by rw[<-d];simp only[z,decide_true,Bool.true_or];exact aK rfl rfl⟩
  simp[go_sem,c,j,g,f,b,e,kH,l,z,-Int.natCast_add,n];exact⟨s.length-(k+1),o_,k+1,rfl,a,by simp[go_sem,c,binds],g_,g_,rfl,by rw[<-d];simp[inS,z]⟩
 have:k=s.length:=o_;subst this;rw[ae]at d;simp[go_sem,c,g,f];exact i ⟨.bool false,by simp[aY,cC,f136,go_sem],by rw[<-d];exact aK rfl rfl⟩
theorem Ln(s:Lb) (x:Ext) (v:T) (hs:small s) (hl:s.length<1000000) (hv:v.size<4000000) (h:H):ak C h (.func 136 []) (some [.isl (s.map bS) x,enc v])=some (.bool (inS s v),h):=aX (args':=[binds s,enc v]) (by rw[bE];rfl) (by rw[bE];rfl) s_ (PE s v hs hl hv)
theorem tX{o:Lb}:∀ {l:Lb},small o->small l->small (l.foldl mu o)
 |[],h,_=>h
 |b::l,h,hl=>tX (l:=l) (Fw h (hl b s_)) λc hc=>hl c (by simp[hc])
theorem xe:∀(l o:Lb),(l.foldl mu o).length<=o.length+l.length
 |[],o=>s_
 |b::l,o=>by have h1:=xe l (mu o b);have a:=Ly o b;rw[gG,aG];omega
def oP(r:Lb × Int):AV:=.tuple [binds r.1,.int .i64 r.2]
def yy(s u:Lb) (k:Nat):Lb:=((s.take k).map λb=>(b.1,dK u b.2)).foldl mu []
def vZ(s u:Lb) (k:Nat):Lb:=(((s.map λb=>(b.1,dK u b.2))++(u.take k).filter λb=>!inS s b.1)).foldl mu []
def aBl(s u:Lb) (m:Nat) (st:PT) (_h:H):Prop:=∃(k:Nat) (x:Ext),m=s.length-k/\k<=s.length/\st.get 0=binds s/\st.get 1=binds u/\st.get 9=.int .i64 k/\st.get 8=.isl ((yy s u k).map bS) x/\mZ u ((s.drop k).map (·.2))=mZ u (s.map (·.2))/\∀b∈s.take k,(dK u b.2).size<=400
def aBk(s u:Lb) (m:Nat) (st:PT) (_h:H):Prop:=∃(k:Nat) (x:Ext),m=u.length-k/\k<=u.length/\st.get 0=binds s/\st.get 1=binds u/\st.get 12=.int .i64 k/\st.get 8=.isl ((vZ s u k).map bS) x
theorem LN(s u:Lb) (hs:small s) (hu:small u) (hsl:s.length<1000000) (hul:u.length<1000000):az C 90 [binds s,binds u]=some (oP (eI s u)):=by
 refine ay func90 rfl λR Z=>?_
 have I:∀(w:PT) (h:H) (e:Int) (x:Ext),w.get 4=.isl [] x->w.get 5=.int .i64 e->eI s u=([],e)->R .ret w h:=λw h e x h4 h5 he=>Z ⟨.tuple [.isl [] x,.int .i64 e],by
  simp[aY,dx,cC,f90,h4,h5],by rw[he];exact dF rfl rfl s_⟩
 have J:=Dk s hs;have Q:=Dk u hu;simp only[binds]at J Q;have S:fB C.P 45 (.isl (s.map bS) .unk)=some (.int .i64 s.length):=by rw[mW,aU]
 have K:fB C.P 45 (.isl (u.map bS) .unk)=some (.int .i64 u.length):=by rw[mW,aU]
 by_cases t:mR s=0
 ·by_cases y:mR u=0
  ·have⟨_,s1,U⟩:=sk t;have⟨_,u1,u2⟩:=sk y;simp[go_sem,binds,J,Q,t,y];refine bL (aBl s u) s.length ⟨0,_,rfl,aN _,by simp[go_sem,binds],by simp[go_sem,binds],g_,by simp[go_sem,yy];rfl,rfl,s_⟩ ?_;rintro m w h ⟨k,x,rfl,hk,i,g,L,n,l,M⟩;simp only[binds]at i g;have o:small (yy s u k):=tX (by intro b d;cases d) λb d=>by obtain⟨c,E,rfl⟩:=bV.1 d;have:=U c (bW E);have:=M c E;exact⟨by dsimp only;omega,by dsimp only;omega⟩
   have v:=xe ((s.take k).map λb=>(b.1,dK u b.2)) [];simp only[aU,ag,aQ]at v;by_cases a:k<s.length
   ·have f:(k:Int)<s.length:=o_;have j:=sS s k a .unk;have N:=wS k o_;have V:=U _ (aF a);have O:=H9 u s[k].2 hu o_ hul;simp only[binds]at O;rw[aI a,aS,mZ]at l;by_cases z:BW u s[k].2=0
    ·rw[if_neg (by simp[z])]at l;rw[PP z]at O;have hp:=(cz (ub z).1).2.1;have B:=Fl (s[k].1,dK u s[k].2) (yy s u k) x (by dsimp only;omega) (by dsimp only;omega) o (by unfold yy;omega);rw[show mu (yy s u k) (s[k].1,dK u s[k].2)=yy s u (k+1) by rw[yy,yy,aJ a,br,List.foldl_append];rfl]at B;dsimp only at B;generalize X:yy s u (k+1)=A at *;generalize Y:dK u s[k].2=p at *;simp[go_sem,i,g,n,L,S,f,j,kH,nI,O,iC,lE,aV,B,-Int.natCast_add,N];exact⟨s.length-(k+1),o_,k+1,.unk,rfl,a,by simp[go_sem,i,binds],by simp[go_sem,g,binds],g_,by rw[X];simp[go_sem,binds],l,λb d=>by
      rw[aJ a,ac,bJ]at d;rcases d with d|rfl
      ·exact M b d
      rw[Y];exact hp⟩
    rw[if_pos z]at l;have D:¬(fZ u s[k].2).2=0:=z;simp[go_sem,i,g,L,S,f,j,nI,O,iC,lE,aV,D];exact I _ _ (fZ u s[k].2).2 (.tok (h.length+1)) g_ g_ (by
     have:mZ u (s.map (·.2))=(fZ u s[k].2).2:=l.symm;rw[eI,if_neg (by simp[t]),if_neg (by simp[y]),if_pos (by rw[this];exact D),this])
   have:k=s.length:=o_;subst this;rw[ae]at l;rw[ah]at M;have l:mZ u (s.map (·.2))=0:=l.symm;have F:eI s u=if 200<(lO s u).length then([],3)else(lO s u,0):=by rw[eI,if_neg (by simp[t]),if_neg (by simp[y]),if_neg (by simp[l])]
   have G:yy s u s.length=vZ s u 0:=by simp[yy,vZ]
   rw[G]at n;simp[go_sem,i,L,S];refine bL (aBk s u) u.length ⟨0,x,rfl,aN _,by simp[go_sem,i,binds],by simp[go_sem,g,binds],g_,g_⟩ ?_;clear i g n L l a hk o v G;rintro m w h ⟨k,x,rfl,hk,i,g,q,n⟩;simp only[binds]at i g;have o:small (vZ s u k):=tX (by intro b d;cases d) λb d=>by
    rcases ac.1 d with d|d
    ·obtain⟨c,E,rfl⟩:=bV.1 d;have:=U c E;have:=M c E;exact⟨by dsimp only;omega,by dsimp only;omega⟩
    have:=u2 b (bW (cO.1 d).1);exact⟨o_,o_⟩
   have v:(vZ s u k).length<=s.length+u.length:=by have h1:=xe ((s.map λb=>(b.1,dK u b.2))++(u.take k).filter λb=>!inS s b.1) [];have h2:=dA (λb:T × T=>!inS s b.1) (u.take k);simp only[aL,aU,aQ,ag]at h1 h2;unfold vZ;omega
   by_cases a:k<u.length
   ·have f:(k:Int)<u.length:=o_;have j:=sS u k a .unk;have N:=wS k o_;have V:=u2 _ (aF a);have B:=Ln s .unk u[k].1 hs hsl o_;have r:vZ s u (k+1)=if inS s u[k].1=true then vZ s u k else mu (vZ s u k) u[k]:=by
     rw[vZ,vZ,aJ a,iP,<-List.append_assoc,List.foldl_append];by_cases d:inS s u[k].1=true
     ·simp[d]
     simp[d]
    cases z:inS s u[k].1 with
    |true=>rw[z,if_pos rfl]at r;simp[go_sem,i,g,q,K,f,j,kH,B,z,-Int.natCast_add,N];exact⟨u.length-(k+1),o_,k+1,x,rfl,a,by simp[go_sem,i,binds],by simp[go_sem,g,binds],g_,by rw[r];simp[go_sem,n]⟩
    |false=>rw[z,if_neg s_]at r;have cc:=Fl u[k] (vZ s u k) x o_ o_ o o_;rw[<-r]at cc;generalize X:vZ s u (k+1)=A at *;simp[go_sem,i,g,n,q,K,f,j,kH,nI,B,z,cc,-Int.natCast_add,N];exact⟨u.length-(k+1),o_,k+1,.unk,rfl,a,by simp[go_sem,i,binds],by simp[go_sem,g,binds],g_,by rw[X];simp[go_sem,binds]⟩
   have:k=u.length:=o_;subst this;have hC:vZ s u u.length=lO s u:=by rw[vZ,ah];rfl
   rw[hC]at n;have lc:fB C.P 45 (.isl ((lO s u).map bS) x)=some (.int .i64 (lO s u).length):=by rw[mW,aU]
   generalize lO s u=c at *;by_cases z:200<c.length
   ·have D:(200:Int)<c.length:=o_;simp[go_sem,g,n,q,K,lc,D];exact I _ _ 3 (.tok h.length) g_ g_ (by rw[F,if_pos z])
   have D:¬(200:Int)<c.length:=o_;simp[go_sem,g,n,q,K,lc,D];exact Z ⟨.tuple [.isl (c.map bS) x,.int .i64 0],by simp[aY,dx,cC,f90,go_sem],by rw[F,if_neg z];exact dF rfl rfl s_⟩
  simp[go_sem,binds,J,Q,t,y];exact I _ _ (mR u) (.tok 1) g_ g_ (by rw[eI,if_neg (by simp[t]),if_pos y])
 simp[go_sem,binds,J,t];exact I _ _ (mR s) (.tok 1) g_ g_ (by rw[eI,if_pos t])
theorem Fi(s u:Lb) (x y:Ext) (hs:small s) (hu:small u) (hsl:s.length<1000000) (hul:u.length<1000000) (h:H):ak C h (.func 90 []) (some [.isl (s.map bS) x,.isl (u.map bS) y])=some (oP (eI s u),h):=aX (args':=[binds s,binds u]) rfl rfl s_ (LN s u hs hu hsl hul)
def il(a:Al):AV:=.agg [.int .i64 a.rule,binds a.bind,bB a.dem]
theorem MO:C.P.underlying 124=some (.slice 130):=underlying124
theorem QP:cr C.P 130=some 3:=k_
theorem aBP:hG C.P 130=some 56:=k_
theorem Tk:gH C.P 130=true:=k_
theorem Xs:ii C.P 124=some 130:=k_
attribute [go_sem] Xs
theorem nL(a:Al):(il a).cells=[.int .i64 a.rule,binds a.bind,bB a.dem]:=rfl
theorem IV(l:List Al):gn 3 (l.map il)=true:=by cases l<;>rfl
theorem Ra(e:AV):bF C.P 130 (.iptr e 0) 0=some (.iptr e 0):=k_
theorem RZ(e:AV):bF C.P 130 (.iptr e 0) 1=some (.iptr e 1):=k_
theorem RY(e:AV):bF C.P 130 (.iptr e 0) 2=some (.iptr e 2):=k_
theorem Xi(a:Al) (h:H):aW C.P h 3 (.iptr (il a) 0)=some (.int .i64 a.rule):=by simp[aW,aZ,a3,s3,nL]
theorem Nc(a:Al) (h:H):aW C.P h 45 (.iptr (il a) 1)=some (binds a.bind):=by have a45:fJ C.P 45=some false:=k_;have s45:cr C.P 45=some 1:=k_;simp[aW,aZ,a45,s45,nL]
theorem TO(a:Al) (h:H):aW C.P h 22 (.iptr (il a) 2)=some (bB a.dem):=by simp[aW,aZ,a22,s22,nL]
attribute [go_sem] Ra RZ RY Xi Nc TO
@[go_sem] theorem NY (l:List Al) (x:Ext):fB C.P 124 (.isl (l.map il) x)=some (.int .i64 l.length):=by simp[fB,MO]
theorem DL(l:List Al) (k:Nat) (hk:k<l.length) (x:Ext):bH C.P 124 (.isl (l.map il) x) (.int .i64 k)=some (.iptr (il l[k]) 0):=by simp[bH,MO,QP,hk,nL]
theorem IC(h:H) (a:Al) (x y:Ext):cI C.P h 124 1 [(0,.agg [.int .i64 a.rule,.isl (a.bind.map bS) x,.isl (a.dem.map dG) y])]=some (.isl [il a] .full,h):=cG MO QP Tk rfl o_ rfl rfl rfl (by simp) rfl
def AD(r:List Al × Int):AV:=.tuple [.isl (r.1.map il) .unk,.int .i64 r.2]
def aBc(a b:Lb) (m:Nat) (st:PT) (h:H):Prop:=∃k:Nat,m=a.length-k/\k<=a.length/\h=[]/\st.get 0=binds a/\st.get 1=binds b/\st.get 5=.int .i64 k/\a.take k=b.take k
theorem UF(a b:Lb) (ha:small a) (hb:small b) (hal:a.length<1000000):az C 55 [binds a,binds b]=some (.bool (decide (a=b))):=by
 refine hJ rfl func55 rfl k_ (by simp[f55]) λR B=>?_
 have fin:∀(e:Ex) (r:PT) (h:H) (c:Bool),e=.normal\/e=.ret->r.get 4=.bool c->decide (a=b)=c->R e r h:=λe r h c p D E=>B _ _ _ p ⟨.bool c,by simp[aY,cC,f55,D],by rw[E];exact aK rfl rfl⟩
 have n:fB C.P 45 (.isl (a.map bS) .unk)=some (.int .i64 a.length):=by rw[mW,aU]
 have v:fB C.P 45 (.isl (b.map bS) .unk)=some (.int .i64 b.length):=by rw[mW,aU]
 by_cases w:a.length=b.length
 ·have j:(a.length:Int)=b.length:=o_;simp[go_sem,binds,n,v,j];refine bL (aBc a b) a.length ⟨0,rfl,aN _,rfl,by simp[go_sem,binds],by simp[go_sem,binds],g_,rfl⟩ ?_;rintro m r h ⟨k,rfl,G,rfl,o,q,s,p⟩;simp only[binds]at o q;by_cases i:k<a.length
  ·have d:(k:Int)<a.length:=o_;have f:k<b.length:=o_;have l:=sS a k i .unk;have g:=sS b k f .unk;have F:=wS k o_;have x:=ha _ (aF i);have y:=hb _ (aF f);have u:=lr a[k].1 b[k].1 x.1 y.1;have A:=lr a[k].2 b[k].2 x.2 y.2;by_cases z:a[k].1.cmp b[k].1=0
   ·by_cases t:a[k].2.cmp b[k].2=0
    ·simp +contextual [go_sem,o,q,s,n,d,l,g,kH,nI,u,A,z,t,-Int.natCast_add,F];refine⟨a.length-(k+1),o_,k+1,rfl,i,rfl,by simp[go_sem,o,binds],by simp[go_sem,q,binds],g_,?_⟩;rw[aJ i,aJ f,p];congr 2
     exact Prod.ext (cmp_zero.1 z) (cmp_zero.1 t)
    simp +contextual [go_sem,o,q,s,n,d,l,g,kH,nI,u,A,z,t];refine fin _ _ _ false (.inr rfl) g_ (decide_eq_false λe=>t ?_);subst e;exact cmp_zero.2 rfl
   simp +contextual [go_sem,o,q,s,n,d,l,g,kH,nI,u,z];refine fin _ _ _ false (.inr rfl) g_ (decide_eq_false λe=>z ?_);subst e;exact cmp_zero.2 rfl
  have:k=a.length:=o_;subst this;rw[ah,w,ah]at p;simp[go_sem,o,s,n];exact fin _ _ _ true (.inr rfl) g_ (decide_eq_true p)
 have j:¬(a.length:Int)=b.length:=o_;simp[go_sem,binds,n,v,j];refine fin _ _ _ false (.inr rfl) g_ (decide_eq_false λe=>w (by rw[e]))
theorem xn(a b:Lb) (x y:Ext) (ha:small a) (hb:small b) (hal:a.length<1000000) (h:H):ak C h (.func 55 []) (some [.isl (a.map bS) x,.isl (b.map bS) y])=some (.bool (decide (a=b)),h):=aX (args':=[binds a,binds b]) rfl rfl s_ (UF a b ha hb hal)
def sU(rule:Int) (s:Lb):Nat->List Al->Int
 |_,[]=>-1
 |k,a::l=>if a.rule=rule/\a.bind=s then k else sU rule s (k+1) l
theorem CM(rule:Int) (s:Lb):∀(l:List Al) (k:Nat),decide (0<=sU rule s k l)=DM l rule s
 |[],k=>by simp[sU,DM]
 |a::l,k=>by
  rw[sU,DM,qa];by_cases h:a.rule=rule/\a.bind=s
  ·rw[if_pos h];simp[h]
  rw[if_neg h,CM rule s l (k+1),DM];have:(decide (a.rule=rule)&&decide (a.bind=s))=false:=by simpa using h
  rw[this,ng]
def vO(l:List Al):Prop:=∀a∈l,small a.bind/\a.bind.length<1000000
def aBi(l:List Al) (rule:Int) (s:Lb) (m:Nat) (st:PT) (h:H):Prop:=∃k:Nat,m=l.length-k/\k<=l.length/\h=[]/\st.get 0=.isl (l.map il) .unk/\st.get 1=.int .i64 rule/\st.get 2=binds s/\st.get 7=.int .i64 k/\sU rule s k (l.drop k)=sU rule s 0 l
theorem RK(l:List Al) (rule:Int) (s:Lb) (hl:vO l) (hs:small s) (hll:l.length<1000000):az C 297 [.isl (l.map il) .unk,.int .i64 rule,binds s]=some (.int .i64 (sU rule s 0 l)):=by
 refine hJ rfl func297 rfl k_ (by simp[f297]) λR v=>?_
 have fin:∀(e:Ex) (i:PT) (h:H) (c:Int),e=.normal\/e=.ret->i.get 6=.int .i64 c->sU rule s 0 l=c->R e i h:=λe i h c a w x=>v _ _ _ a ⟨.int .i64 c,by simp[aY,cC,f297,w],by rw[x];exact aK rfl rfl⟩
 simp[go_sem];refine bL (aBi l rule s) l.length ⟨0,rfl,aN _,rfl,g_,g_,by simp[go_sem,binds],g_,rfl⟩ ?_;rintro m i h ⟨k,rfl,y,rfl,j,q,g,n,a⟩;simp only[binds]at g;by_cases b:k<l.length
 ·have d:(k:Int)<l.length:=o_;have f:=DL l k b .unk;have t:=wS k o_;have u:=hl _ (aF b);have r:=xn l[k].bind s .unk .unk u.1 hs u.2;have o:=Nc l[k];simp only[binds]at o;rw[aI b,sU]at a;by_cases z:l[k].rule=rule
  ·by_cases p:l[k].bind=s
   ·rw[if_pos ⟨z,p⟩]at a;rw[p]at r o;simp +contextual [go_sem,j,q,g,n,d,f,o,r,z];exact fin _ _ _ k (.inr rfl) g_ a.symm
   rw[if_neg λh=>p h.2]at a;simp +contextual [go_sem,j,q,g,n,d,f,o,r,z,p,-Int.natCast_add,t];exact⟨l.length-(k+1),o_,k+1,rfl,b,rfl,g_,g_,by simp[go_sem,g,binds],g_,a⟩
  rw[if_neg λh=>z h.1]at a;simp +contextual [go_sem,j,q,n,d,f,z,-Int.natCast_add,t];exact⟨l.length-(k+1),o_,k+1,rfl,b,rfl,g_,g_,by simp[go_sem,g,binds],g_,a⟩
 have:k=l.length:=o_;subst this;rw[ae,sU]at a;simp[go_sem,j,n];exact fin _ _ _ (-1) (.inr rfl) g_ a.symm
theorem O0(l:List Al) (x y:Ext) (rule:Int) (s:Lb) (hl:vO l) (hs:small s) (hll:l.length<1000000) (h:H):ak C h (.func 297 []) (some [.isl (l.map il) x,.int .i64 rule,.isl (s.map bS) y])=some (.int .i64 (sU rule s 0 l),h):=aX (args':=[.isl (l.map il) .unk,.int .i64 rule,binds s]) rfl rfl s_ (RK l rule s hl hs hll)
theorem U4(l:List Al) (rule:Int) (s:Lb) (hl:vO l) (hs:small s) (hll:l.length<1000000):az C 245 [.isl (l.map il) .unk,.int .i64 rule,binds s]=some (.bool (DM l rule s)):=by
 refine ay func245 rfl λR a=>?_
 have b:=O0 l .unk .unk rule s hl hs hll;have e:=CM rule s l 0;simp[go_sem,binds,b];exact a ⟨.bool (decide (0<=sU rule s 0 l)),by simp[aY,cC,f245,go_sem],by rw[<-e];exact aK rfl rfl⟩
theorem Oz(l:List Al) (x y:Ext) (rule:Int) (s:Lb) (hl:vO l) (hs:small s) (hll:l.length<1000000) (h:H):ak C h (.func 245 []) (some [.isl (l.map il) x,.int .i64 rule,.isl (s.map bS) y])=some (.bool (DM l rule s),h):=aX (args':=[.isl (l.map il) .unk,.int .i64 rule,binds s]) rfl rfl s_ (U4 l rule s hl hs hll)
theorem SV(t u:T) (ht:bh t=0) (hu:bh u=0):az C 295 [enc t,enc u]=some (.int .i64 0):=by
 refine ay func295 rfl λR c=>?_
 have d:=(cz ht).2.1;have e:=(cz hu).2.1;have a:=lq t o_;have b:=lq u o_;rw[ht]at a;rw[hu]at b;simp[go_sem,a,b];exact c ⟨.int .i64 0,by simp[aY,cC,f295,go_sem],aK rfl rfl⟩
theorem O2(t u:T) (ht:bh t=0) (hu:bh u=0) (h:H):ak C h (.func 295 []) (some [enc t,enc u])=some (.int .i64 0,h):=aX (args':=[enc t,enc u]) (by rw[bE t,bE u];rfl) (by rw[bE t,bE u];rfl) s_ (SV t u ht hu)
theorem Vi(a b:T):fK C.P 283 [(0,enc a),(1,enc b)]=some (bS (a,b)):=by
 rw[bE a,bE b];have e:∀(k s k' s':Int) (n n':ByteArray) (l l':LA),fK C.P 283 [(0,.agg [.int .i64 k,.str n,.int .i64 s,.isl l .unk]),(1,.agg [.int .i64 k',.str n',.int .i64 s',.isl l' .unk])]=some (.agg [.int .i64 k,.str n,.int .i64 s,.isl l .unk,.int .i64 k',.str n',.int .i64 s',.isl l' .unk]):=λ_ _ _ _ _ _ _ _=>k_
 exact e _ _ _ _ _ _ _ _
theorem MN(t u:T) (ht:bh t=0) (hu:bh u=0):az C 244 [enc t,enc u]=some (oP (fv t u)):=by
 refine ay func244 rfl λR a=>?_
 have b:=O2 t u ht hu;have c:=SM [(t,u)] (fv t u).1 (fv t u).2 .full;have c3:=λh=>c h (zp ht hu).1
 simp only[aS,bD]at c3;have d:=Vi t u;simp[go_sem,b,d,pE,nP,c3];refine a ⟨oP (fv t u),by simp[aY,dx,cC,f244,go_sem,oP],dF rfl rfl s_⟩
theorem Ot(t u:T) (ht:bh t=0) (hu:bh u=0) (h:H):ak C h (.func 244 []) (some [enc t,enc u])=some (oP (fv t u),h):=aX (args':=[enc t,enc u]) (by rw[bE t,bE u];rfl) (by rw[bE t,bE u];rfl) s_ (MN t u ht hu)
theorem Jr(l:Lq):(gX l).length<=sizes l:=by
 refine cW (nq _) ?_;induction l with
 |nil=>simp
 |cons a l b=>have:=kE bY jj a;rw[cF,aL,sizes];omega
@[go_sem] theorem XN (l:Lq):bf (aM l)=true:=(rfl)
def Y5(u:Lq) (m:Nat) (st:PT) (h:H):Prop:=∃k:Nat,m=u.length-k/\k<=u.length/\st.get 4=aM u/\st.get 5=.int .i64 k/\OwnR 39 h (st.get 3) (((u.take k).filter λt=>decide (t.kind≠1)).map enc)
theorem M3(l:Lq) (hs:sizes l<4000000):az C 188 [aM l]=some (aM (eQ l)):=by
 refine ay func188 rfl λR r=>?_
 have g:=As l .unk hs;have s:eQ l=(gX l).filter λt=>decide (t.kind≠1):=rfl
 have w:=Jr l;simp only[aM]at g;simp[go_sem,aM,g];clear g;generalize gX l=u at *;refine bL (Y5 u) u.length ⟨0,rfl,aN _,by simp[go_sem,aM],g_,.inr ⟨1,g_,s_⟩⟩ ?_;rintro m y h ⟨k,rfl,B,i,j,d⟩;obtain⟨D,f⟩:∃v,v=y.get 3:=⟨_,rfl⟩
 rw[<-f]at d;by_cases a:k<u.length
 ·have c:(k:Int)<u.length:=o_;have e:=eJ u k a;have o:=wS k o_;have n:=dA (λt:T=>decide (t.kind≠1)) (u.take k);rw[ag]at n;have b:(u.take (k+1)).filter (λt=>decide (t.kind≠1))=(u.take k).filter (λt=>decide (t.kind≠1))++if u[k].kind≠1 then [u[k]]else []:=by rw[aJ a,iP];by_cases z:u[k].kind=1<;>simp[z]
  by_cases z:u[k].kind=1
  ·rw[if_neg (by simp[z]),bm]at b;simp[go_sem,i,j,c,e,z,-Int.natCast_add,o];exact⟨u.length-(k+1),o_,k+1,rfl,a,g_,g_,by rw[b];simpa[go_sem,<-f]using d⟩
  rw[if_pos z]at b;have⟨E,F,p,q,_,_⟩:=eW (ys:=[u[k]]) (x:=.full) d (by simp only[aG,aQ];omega);rw[<-b]at q;simp only[aS,bD]at p;simp[go_sem,i,j,<-f,c,e,z,dp,p,-Int.natCast_add,o];exact⟨u.length-(k+1),o_,k+1,rfl,a,g_,g_,by simpa[go_sem]using q⟩
 have:k=u.length:=o_;subst this;rw[ah,<-s]at d;have⟨x,A⟩:=d.isl;simp[go_sem,i,j,<-f,A];exact r ⟨.isl ((eQ l).map enc) x,by simp[aY,cC,f188,go_sem],aK rfl rfl⟩
theorem Hy(l:Lq) (x:Ext) (hs:sizes l<4000000) (h:H):ak C h (.func 188 []) (some [.isl (l.map enc) x])=some (aM (eQ l),h):=aX (args':=[aM l]) rfl rfl s_ (M3 l hs)
theorem Jx(t:T):az C 190 [enc t]=some (.bool (bld t)):=by
 refine hJ rfl func190 rfl k_ (by simp[f190]) λR f=>?_
 have fin:∀(e:Ex) (d:PT) (h:H) (c:Bool),e=.normal\/e=.ret->d.get 2=.bool c->bld t=c->R e d h:=λe d h c g i j=>f _ _ _ g ⟨.bool c,by simp[aY,cC,f190,i],by rw[j];exact aK rfl rfl⟩
 have a:bld t=(decide (t.kind=3)&&(decide (t.name=⟨#[112,97,105,114]⟩)||decide (t.name=⟨#[101,110,99]⟩)||decide (t.name=⟨#[97,101,110,99]⟩)||decide (t.name=⟨#[112,107]⟩)||decide (t.name=⟨#[115,105,103,110]⟩)||decide (t.name=⟨#[104,97,115,104]⟩))):=rfl;by_cases b:t.kind=3
 ·rw[decide_eq_true b,ee]at a;simp +contextual [go_sem,eM,b];exact fin _ _ _ _ (.inr rfl) g_ a
 rw[decide_eq_false b,iQ]at a;simp[go_sem,b];exact fin _ _ _ false (.inr rfl) g_ a
theorem Ht(t:T) (h:H):ak C h (.func 190 []) (some [enc t])=some (.bool (bld t),h):=aX (cg _) (by simp[aq]) s_ (Jx t)
theorem N3(i:Nat):bF C.P 39 (.ptr i 1) 3=some (.ptr i 4):=k_
theorem G7(d:Dm):ldM C.P 37 4 (some (.cells (dc d) .live))=some (aM d.term.kids):=by simp[ldM,aZ,a23,s23,dc]
theorem YT(k:Lq) (t:T):fK C.P 41 [(0,aM k),(1,enc t)]=some (dG ⟨k,t⟩):=by
 rw[bE t];have e:∀(k s:Int) (n:ByteArray) (l m:LA),fK C.P 41 [(0,.isl m .unk),(1,.agg [.int .i64 k,.str n,.int .i64 s,.isl l .unk])]=some (.agg [.isl m .unk,.int .i64 k,.str n,.int .i64 s,.isl l .unk]):=λ_ _ _ _ _=>k_
 exact e _ _ _ _ _
def aBg(d:Dm) (m:Nat) (st:PT) (h:H):Prop:=∃k:Nat,m=d.term.kids.length-k/\k<=d.term.kids.length/\h[0]?=some (.cells (dc d) .live)/\st.get 1=.ptr 0 0/\st.get 4=.int .i64 k/\OwnR 41 h (st.get 3) (((d.term.kids.take k).map (Dm.mk d.knows)).map dG)
theorem Q2(d:Dm) (hs:d.term.size<4000000):az C 191 [dG d]=some (bB (sR d)):=by
 refine ay func191 rfl λR t=>?_
 have u:=size_kids d.term;have q:=len_sizes d.term.kids;simp[go_sem,Fu];refine bL (aBg d) d.term.kids.length ⟨0,rfl,aN _,rfl,g_,g_,.inr ⟨2,g_,s_⟩⟩ ?_;rintro m w h ⟨k,rfl,D,c,f,l,a⟩;obtain⟨E,g⟩:∃v,v=w.get 3:=⟨_,rfl⟩
 rw[<-g]at a;by_cases b:k<d.term.kids.length
 ·have i:(k:Int)<d.term.kids.length:=o_;have n:=eJ d.term.kids k b;have y:=wS k o_;have⟨F,I,r,s,o,z⟩:=pS (ys:=[⟨d.knows,d.term.kids[k]⟩]) (x:=.full) a (by simp only[aU,ag,aG,aQ];omega);rw[show(d.term.kids.take k).map (Dm.mk d.knows)++[⟨d.knows,d.term.kids[k]⟩]=(d.term.kids.take (k+1)).map (Dm.mk d.knows) by rw[aJ b,br];rfl]at s;simp only[aS,bD]at r;have p:=o.get c (cM a c);have A:=YT d.knows d.term.kids[k];simp[go_sem,f,l,G c,N3,G7,i];refine gS 5 _ (by simp[gM]) rfl ?_;simp[go_sem,f,l,<-g,G c,N3,G7,re,n,A,CX,r,-Int.natCast_add,y];refine⟨?_,d.term.kids.length-(k+1),o_,k+1,rfl,b,p,g_,g_,by simpa[go_sem]using s⟩;have j:=cM a c;rcases a with e|⟨id,e,J⟩
  ·simp[go_sem,ij,iK,iO,kW,fL,ce,e]
  rw[e]at j;simp only[bv,ne_eq,aA]at j;simp[go_sem,ij,iK,iO,kW,fL,ce,e]
  (try omega)
 have:k=d.term.kids.length:=o_;subst this;rw[ah]at a;have⟨x,B⟩:=a.isl;simp[go_sem,f,l,<-g,B,G c,N3,G7];exact t ⟨.isl ((sR d).map dG) x,by simp[aY,cC,f191,go_sem,sR],aK rfl rfl⟩
theorem Lf(d:Dm) (hs:d.term.size<4000000) (h:H):ak C h (.func 191 []) (some [dG d])=some (bB (sR d),h):=aX (args':=[dG d]) rfl rfl s_ (Q2 d hs)
theorem MU(l:List Dm):gn 5 (l.map dG)=true:=by
 cases l with
 |nil=>rfl
 |cons a l=>simp[gn,dG,aV]
theorem XC(l:List Dm) (i:Nat) (hi:i<=l.length):fP C.P 22 (.isl (l.map dG) .unk) none (some (.int .i64 i)) none=some (.isl ((l.take i).map dG) .unk):=by have a:(i:Int)<=l.length:=o_;simp[fP,u22,s41,mb,qy,a,MU];intro e;rw[e,cq s_]
theorem XB(l:List Dm) (i:Nat) (hi:i<=l.length):fP C.P 22 (.isl (l.map dG) .unk) (some (.int .i64 i)) none none=some (.isl ((l.drop i).map dG) .unk):=by
 have a:(i:Int)<=l.length:=o_;simp[fP,u22,s41,mb,qy,a,MU];by_cases e:i=0
 ·simp[e]
 rw[if_neg e,cq s_]
theorem CY(h:H):cI C.P h 22 0 []=some (.isl [] .full,h):=cG u22 s41 z41 rfl o_ rfl rfl rfl s_ rfl
theorem HF(l:List Dm) (i:Nat) (o:List Dm) (hi:i<l.length) (hl:l.length<=1000000) (hol:o.length<=1000000):az C 134 [bB l,.int .i64 i,bB o]=some (bB (fU l i o)):=by
 refine ay func134 rfl λR g=>?_
 have j:=XC l i o_;have k:=XB l (i+1) o_;have m:=wS i o_;have⟨q,r,c,a,_,_⟩:=pS (xs:=[]) (ys:=l.take i) (x:=.unk) (h:=[.tok 0 41]) (v:=.isl [] .full) (.inl rfl) (by simp;omega);rw[bk]at a;have⟨s,t,d,e,_,_⟩:=pS (ys:=o) (x:=.unk) a (by rw[ag];omega);have⟨u,w,f,b,_,_⟩:=pS (ys:=l.drop (i+1)) (x:=.unk) e (by rw[aL,ag,dJ];omega);have n:l.take i++o++l.drop (i+1)=fU l i o:=rfl;rw[n]at b;generalize l.drop (i+1)=B at *;generalize l.take i=A at *;obtain⟨p,rfl⟩:=b.isl;simp[go_sem,bB,CY,j,c,d,k,f,-Int.natCast_add,m];exact g ⟨.isl ((fU l i o).map dG) p,by simp[aY,cC,f134,go_sem],aK rfl rfl⟩
theorem yd(l:List Dm) (x y:Ext) (i:Nat) (o:List Dm) (hi:i<l.length) (hl:l.length<=1000000) (hol:o.length<=1000000) (h:H):ak C h (.func 134 []) (some [.isl (l.map dG) x,.int .i64 i,.isl (o.map dG) y])=some (bB (fU l i o),h):=aX (args':=[bB l,.int .i64 i,bB o]) rfl rfl s_ (HF l i o hi hl hol)
theorem JS{h:H}{id:Nat}{xs ys:List Al}{x:Ext}(hid:h[id]?=some (.tok xs.length 130)) (hl:xs.length+ys.length<=100000000000) :
  bu C.P false h 124 (.isl (xs.map il) (.tok id)) (.isl (ys.map il) x)=some (.isl ((xs++ys).map il) (.tok id),h.set id (.tok (xs++ys).length 130)):=by
 have:=vi (x:=x) (xs:=xs.map il) (ys:=ys.map il) MO QP aBP Tk rfl (by simpa using hid) (IV xs) (IV ys) (by simp only[aU];omega);rw[this,br];simp
theorem aBK(r:Int) (es ds:LA):fK C.P 130 [(0,.int .i64 r),(1,.isl es .unk),(2,.isl ds .unk)]=some (.agg [.int .i64 r,.isl es .unk,.isl ds .unk]):=k_
theorem Bd{t u:T}(ht:bh t=0) (hu:bh u=0) (h:(fv t u).2=0):small (fv t u).1/\(fv t u).1.length<1000000:=by have k:=(zp ht hu).2.1 h;refine⟨λb a=>?_,by have:=k.len;omega⟩;have⟨c,d,_⟩:=k.val b a;have:=(cz c).2.1;have:=(cz d).2.1;exact⟨o_,o_⟩
theorem wy{l:List Dm}{rule:Int}{out:List Al}{p:T × T}(h1:bh p.1=0) (h2:bh p.2=0) (ho:vO out):vO (mn l rule out p).1/\(mn l rule out p).1.length<=out.length+1:=by
 unfold mn;split
 ·exact⟨ho,by dsimp only;omega⟩
 rename_i q;simp only[not_or,ne_eq,Decidable.not_not]at q;split
 ·exact⟨λa b=>(by cases b),s_⟩
 refine⟨λa b=>?_,s_⟩;rcases ac.1 b with b|b
 ·exact ho a b
 rw[bJ.1 b];exact Bd h1 h2 q.1
theorem zZ{h0:H}{id:Nat}(out:List Al) (l:List Dm) (rule:Int) (t u:T) (hid:h0[id]?=some (.tok out.length 130)) (hv:cD l=0) (ht:bh t=0) (hu:bh u=0) (hout:vO out) (hlen:out.length<1000000) :
  ∃r h',ak C h0 (.func 189 []) (some [.isl (out.map il) (.tok id),.isl (l.map dG) .unk,.int .i64 rule,enc t,enc u])=some (r,h') /\
   (((mn l rule out (t,u)).2=0/\r=.tuple [.isl ((mn l rule out (t,u)).1.map il) (.tok id),.int .i64 0]/\h'[id]?=some (.tok (mn l rule out (t,u)).1.length 130)) \/
    ((mn l rule out (t,u)).2≠0/\∃x,r=.tuple [.isl [] x,.int .i64 (mn l rule out (t,u)).2])):=by
 suffices hh:∃r h',Go.V.Call C 189 [.isl (out.map il) (.tok id),.isl (l.map dG) .unk,.int .i64 rule,enc t,enc u] h0=some (r,h')/\(((mn l rule out (t,u)).2=0/\r=.tuple [.isl ((mn l rule out (t,u)).1.map il) (.tok id),.int .i64 0]/\h'[id]?=some (.tok (mn l rule out (t,u)).1.length 130)) \/
    ((mn l rule out (t,u)).2≠0/\∃x,r=.tuple [.isl [] x,.int .i64 (mn l rule out (t,u)).2])) by
  have⟨r,h',a,q⟩:=hh;exact⟨r,h',by rw[gQ k_ rfl];exact a,q⟩
 refine lC rfl func189 rfl k_ (by simp[f189]) λR d=>?_
 have e:=Ot t u ht hu;have i:=(aB.1 hid).1;by_cases q:(fv t u).2=0
 ·have⟨j,m⟩:=Bd ht hu q;have f:=Oz out (.tok id) .unk rule (fv t u).1 hout j hlen;have c3:=Oy l (fv t u).1 .unk .unk hv j m;have b:mn l rule out (t,u)=if DM out rule (fv t u).1=true then(out,0)else if(mY l (fv t u).1).2≠0 then([],(mY l (fv t u).1).2)else(out++[⟨rule,(fv t u).1,(mY l (fv t u).1).1⟩],0):=by rw[mn];simp[q]
  generalize fv t u=U at *;cases c:DM out rule U.1 with
  |true=>rw[c,if_pos rfl]at b;simp +contextual [go_sem,e,oP,binds,q,f,c];exact d _ _ _ (.inr rfl) ⟨.tuple [.isl (out.map il) (.tok id),.int .i64 0],by simp[aY,dx,cC,f189,go_sem],.inl (by rw[b];exact⟨rfl,rfl,ga hid⟩)⟩
  |false=>
   rw[c,if_neg s_]at b;generalize mY l U.1=I at *;by_cases z:I.2=0
   ·rw[if_neg (by simp[z])]at b;have k:=λg:H=>JS (h:=h0++g) (x:=.full) (ys:=[⟨rule,U.1,I.1⟩]) (ga hid) (by simp only[aG,aQ];omega)
    have n:=aBK rule (U.1.map bS) (I.1.map dG);have bs:=λh=>IC h ⟨rule,U.1,I.1⟩ .unk .unk
    generalize o:out++[⟨rule,U.1,I.1⟩]=A at *;simp only[aS,bD]at k;simp only[]at bs;simp +contextual [go_sem,e,oP,Ic,binds,bB,q,f,c,c3,z,n,bs,k];refine d _ _ _ (.inr rfl) ⟨.tuple [.isl (A.map il) (.tok id),.int .i64 0],by simp[aY,dx,cC,f189,go_sem],.inl ?_⟩;rw[b];refine⟨rfl,rfl,?_⟩;rw[aH (by simp only[aL];omega)]
   rw[if_pos z]at b;simp +contextual [go_sem,e,oP,Ic,binds,bB,q,f,c,c3,z];exact d _ _ _ (.inr rfl) ⟨.tuple [.isl [] (.tok (h0.length+3)),.int .i64 I.2],by simp[aY,dx,cC,f189,go_sem],.inr (by rw[b];exact⟨z,_,rfl⟩)⟩
 have b:mn l rule out (t,u)=(out,0):=by rw[mn];simp[q]
 simp +contextual [go_sem,e,oP,binds,q];exact d _ _ _ (.inr rfl) ⟨.tuple [.isl (out.map il) (.tok id),.int .i64 0],by simp[aY,dx,cC,f189,go_sem],.inl (by rw[b];exact⟨rfl,rfl,ga hid⟩)⟩
theorem TY(r:Int) (ds:LA):fK C.P 130 [(0,.int .i64 r),(2,.isl ds .unk)]=some (.agg [.int .i64 r,.isl [] .full,.isl ds .unk]):=k_
theorem Ax(h:H) (r:Int) (l:List Dm):cI C.P h 124 1 [(0,.agg [.int .i64 r,.isl [] .full,.isl (l.map dG) .unk])]=some (.isl [il ⟨r,[],l⟩] .full,h):=cG MO QP Tk rfl o_ rfl rfl rfl (by simp) rfl
def NO1(l:List Dm) (i:Nat) (P:Lq) (t:T) (m:Nat) (st:PT) (h:H):Prop:=∃(k id:Nat) (out:List Al),m=P.length-k/\k<=P.length/\st.get 0=bB l/\st.get 1=.int .i64 i/\st.get 6=aM P/\st.get 7=.isl (out.map il) (.tok id)/\st.get 9=.int .i64 k/\h[id]?=some (.tok out.length 130)/\vO out/\out.length<=k/\ed l 2 out (jn (P.drop k) t)=ed l 2 [] (jn P t)
def NO2(l:List Dm) (i:Nat) (P:Lq) (tot:List Al × Int) (m:Nat) (st:PT) (h:H):Prop:=∃(k id:Nat) (out:List Al),m=P.length-k/\k<=P.length/\st.get 0=bB l/\st.get 1=.int .i64 i/\st.get 6=aM P/\st.get 7=.isl (out.map il) (.tok id)/\st.get 10=.int .i64 k/\h[id]?=some (.tok out.length 130)/\vO out/\out.length<=80+80*k/\ed l 3 out (jP (P.drop k))=tot
def NO3(l:List Dm) (i:Nat) (P:Lq) (a:T) (k:Nat) (tot:List Al × Int) (m:Nat) (st:PT) (h:H):Prop:=∃(j id:Nat) (out:List Al),m=P.length-j/\j<=P.length/\k+1<=j/\st.get 0=bB l/\st.get 1=.int .i64 i/\st.get 6=aM P/\st.get 7=.isl (out.map il) (.tok id)/\st.get 10=.int .i64 k/\st.get 11=.int .i64 j/\h[id]?=some (.tok out.length 130)/\vO out/\out.length+k+1<=80+80*k+j/\ed l 3 out ((P.drop j).map (λb=>(a,b))++jP (P.drop (k+1)))=tot
theorem KL(l:List Dm) (i:Nat) (hv:cD l=0) (hi:i<l.length):az C 133 [bB l,.int .i64 i]=some (AD (oY l i l[i])):=by
 refine ay func133 rfl λR hR=>?_
 have fz:∀(st:PT) (h:H) (e:Int) (x:Ext),st.get 4=.isl [] x->st.get 5=.int .i64 e->oY l i l[i]=([],e)->R .ret st h:=λst h e x h4 h5 he=>hR ⟨.tuple [.isl [] x,.int .i64 e],by
  simp[aY,dx,cC,f133,h4,h5],by rw[he];exact dF rfl rfl s_⟩
 have fin:∀(st:PT) (h:H) (A:List Al) (x:Ext),st.get 4=.isl (A.map il) x->st.get 5=.int .i64 0->oY l i l[i]=(A,0)->R .ret st h:=λst h A x h4 h5 he=>hR ⟨.tuple [.isl (A.map il) x,.int .i64 0],by
  simp[aY,dx,cC,f133,h4,h5],by rw[he];exact dF rfl rfl s_⟩
 have⟨b1,b2,b3,b4,b5,b6,b7⟩:=tq hv;have hd:=aF hi;have hix:=qS l i hi;have hkl:=(b2 _ hd).2;have hsd:=(b2 _ hd).1;have hk:=qt hd;have ht:=nl hd;have hP:∀t∈eQ l[i].knows,okT t:=AG λt h=>b4 t (hk t h)
 have hvt:=(b4 _ ht).1;have hts:=b3 _ ht;have cp:=Hy l[i].knows .unk (by have:=ss λt h=>b3 t (hk t h);omega);have hO:oY l i l[i]=if 80<(eQ l[i].knows).length then([],3)else if(ed l 2 [] (jn (eQ l[i].knows) l[i].term)).2≠0 then([],(ed l 2 [] (jn (eQ l[i].knows) l[i].term)).2)
  else if(ed l 3 (ed l 2 [] (jn (eQ l[i].knows) l[i].term)).1 (jP (eQ l[i].knows))).2≠0 then([],(ed l 3 (ed l 2 [] (jn (eQ l[i].knows) l[i].term)).1 (jP (eQ l[i].knows))).2)
  else vl l i l[i] (ed l 3 (ed l 2 [] (jn (eQ l[i].knows) l[i].term)).1 (jP (eQ l[i].knows))).1:=rfl
 generalize hD:l[i]=d at *;simp only[aM]at cp;simp only[bB]at hix;have lk:=qr d;simp only[aM]at lk;generalize eQ d.knows=P at *;by_cases q:80<P.length
 ·have q':(80:Int)<P.length:=o_;rw[if_pos q]at hO;simp[go_sem,bB,hix,lk,cp,q'];exact fz _ _ 3 (.tok 1) g_ g_ hO
 have q':¬(80:Int)<P.length:=o_;rw[if_neg q]at hO;simp[go_sem,bB,hix,lk,cp,q'];refine bL (NO1 l i P d.term) P.length ⟨0,1,[],rfl,aN _,by simp[go_sem,bB],g_,by simp[go_sem,aM],g_,g_,s_,λa ha=>(by cases ha),s_,rfl⟩ ?_;rintro m st h ⟨k,id,out,rfl,hkk,g0,g1,g6,g7,g9,hid,ho,hol,he⟩;simp only[bB]at g0;by_cases hlt:k<P.length
 ·have hlt':(k:Int)<P.length:=o_;have hixk:=kX P k hlt;have w2:=wS k o_;have hpk:=(hP _ (aF hlt)).1;have cs:=lr P[k] d.term (by have:=(cz hpk).2.1;omega) o_;rw[aI hlt,jn,jb]at he;by_cases z:P[k].cmp d.term=0
  ·rw[if_neg (by simp[z])]at he;simp[go_sem,g0,g1,g6,g9,hlt',hixk,hix,cs,z,-Int.natCast_add,w2];exact⟨P.length-(k+1),o_,k+1,id,out,rfl,hlt,by simp[go_sem,g0,bB],g_,g_,g_,g_,hid,ho,o_,he⟩
  rw[if_pos (by simp[z]),aS,ed]at he;have⟨r,h',cu,hu⟩:=zZ out l 2 P[k] d.term hid hv hpk hvt ho o_;have⟨ho',hol'⟩:=wy (l:=l) (rule:=2) (out:=out) (p:=(P[k],d.term)) hpk hvt ho;generalize mn l 2 out (P[k],d.term)=U at *;rcases hu with⟨z1,rfl,hid'⟩|⟨z1,x,rfl⟩
  ·rw[if_neg (by simp[z1])]at he;simp[go_sem,g0,g1,g6,g7,g9,hlt',hixk,hix,cs,z,cu,-Int.natCast_add,w2];exact⟨P.length-(k+1),o_,k+1,id,U.1,rfl,hlt,by simp[go_sem,g0,bB],g_,g_,g_,g_,hid',ho',o_,he⟩
  rw[if_pos z1]at he;rw[<-he,if_pos z1]at hO;simp[go_sem,g0,g1,g6,g7,g9,hlt',hixk,hix,cs,z,cu,z1];exact fz _ _ U.2 (.tok h'.length) g_ g_ hO
 have:k=P.length:=o_;subst this;rw[ae,jn,List.filter_nil,bD,ed]at he;rw[<-he,if_neg s_]at hO;dsimp only at hO;clear he;simp[go_sem,g6,g9];generalize htot:ed l 3 out (jP P)=tot at *;refine bL (NO2 l i P tot) P.length ⟨0,id,out,rfl,aN _,by simp[go_sem,g0,bB],g_,g_,g_,g_,hid,ho,o_,htot⟩ ?_;clear g0 g1 g6 g7 g9 hid ho hol htot;clear out;rintro m st h ⟨k,id,out,rfl,hkk,g0,g1,g6,g7,g10,hid,ho,hol,he⟩;simp only[bB]at g0;by_cases hlt:k<P.length
 ·have hlt':(k:Int)<P.length:=o_;have hixk:=kX P k hlt;have w2:=wS k o_;have hpk:=(hP _ (aF hlt)).1;rw[aI hlt,jP]at he;simp[go_sem,g6,g10,hlt',-Int.natCast_add,w2];refine bL (NO3 l i P P[k] k tot) (P.length-(k+1)) ⟨k+1,id,out,rfl,hlt,aR _,by simp[go_sem,g0,bB],g_,g_,g_,g_,g_,hid,ho,o_,he⟩ ?_;clear g0 g1 g6 g7 g10 hid ho hol he;clear out;rintro m2 st2 h2 ⟨j,id,out,rfl,hj,hkj,g0,g1,g6,g7,g10,g11,hid,ho,hol,he⟩;simp only[bB]at g0;by_cases hj1:j<P.length
  ·have hj1':(j:Int)<P.length:=o_;have hixj:=kX P j hj1;have w3:=wS j o_;have hpj:=(hP _ (aF hj1)).1;rw[aI hj1,aS,cP,ed]at he;have⟨r,h',cu,hu⟩:=zZ out l 3 P[k] P[j] hid hv hpk hpj ho o_;have⟨ho',hol'⟩:=wy (l:=l) (rule:=3) (out:=out) (p:=(P[k],P[j])) hpk hpj ho;generalize mn l 3 out (P[k],P[j])=U at *;rcases hu with⟨z1,rfl,hid'⟩|⟨z1,x,rfl⟩
   ·rw[if_neg (by simp[z1])]at he;simp[go_sem,g0,g6,g7,g10,g11,hj1',hixk,hixj,cu,-Int.natCast_add,w3];exact⟨P.length-(j+1),o_,j+1,id,U.1,rfl,hj1,o_,by simp[go_sem,g0,bB],g_,g_,g_,g_,g_,hid',ho',o_,he⟩
   rw[if_pos z1]at he;rw[<-he,if_pos z1]at hO;simp[go_sem,g0,g6,g7,g10,g11,hj1',hixk,hixj,cu,z1];exact fz _ _ U.2 (.tok h'.length) g_ g_ hO
  have:j=P.length:=o_;subst this;rw[ae,bD,bk]at he;simp[go_sem,g6,g10,g11,-Int.natCast_add,w2];exact⟨P.length-(k+1),o_,k+1,id,out,rfl,hlt,by simp[go_sem,g0,bB],g_,g_,g_,g_,hid,ho,o_,he⟩
 have:k=P.length:=o_;subst this;rw[ae,jP,ed]at he;rw[<-he,if_neg s_]at hO;dsimp only at hO;clear he;rw[vl]at hO;have csp:=Ht d.term;cases hb:bld d.term with
 |false=>rw[hb,if_neg s_]at hO;simp[go_sem,g0,g1,g6,g7,g10,hix,csp,hb];exact fin _ _ out (.tok id) g_ g_ hO
 |true=>
  rw[hb,if_pos rfl]at hO;have hkn:(sR d).length<=60:=by have h1:=size_kids d.term;have h2:=len_sizes d.term.kids;simp only[sR,aU];omega
  have ck:=Lf d o_;have ci:=yd l .unk .unk i (sR d) hi o_ o_;have c34:=sK (fU l i (sR d)) .unk (λe hm=>by
   rcases ac.1 hm with hm|hm
   ·rcases ac.1 hm with hm|hm
    ·exact(b2 e (bW hm)).1
    obtain⟨t,ht,rfl⟩:=bV.1 hm;refine⟨hsd.1,?_,hsd.2.2⟩;have:=kid_size ht;dsimp only;omega
   ·exact(b2 e (dE hm)).1) (by
    simp only[fU,aL,ag,dJ];omega)
  simp only[bB]at ck ci;generalize sR d=K at *;generalize fU l i K=J at *;by_cases z:cD J=0
  ·rw[if_neg (by simp[z])]at hO;have ap:=JS (x:=.full) (ys:=[⟨4,[],J⟩]) hid (by simp only[aG,aQ];omega);have bl:=TY 4 (J.map dG);have bs:=λh=>Ax h 4 J
   generalize hA:out++[⟨4,[],J⟩]=A at *;simp only[aS,bD]at ap;simp[go_sem,g0,g1,g6,g7,g10,hix,csp,hb,ck,ci,c34,z,bl,bs,ap];exact fin _ _ A (.tok id) g_ g_ hO
  rw[if_pos z]at hO;simp[go_sem,g0,g1,g6,g10,hix,csp,hb,ck,ci,c34,z];exact fz _ _ _ (.tok h.length) g_ g_ hO
theorem Hz(l:List Dm) (x:Ext) (i:Nat) (hv:cD l=0) (hi:i<l.length) (h:H):ak C h (.func 133 []) (some [.isl (l.map dG) x,.int .i64 i])=some (AD (oY l i l[i]),h):=aX (args':=[bB l,.int .i64 i]) rfl rfl s_ (KL l i hv hi)
theorem MV(l:List Dm) (hv:cD l=0):az C 89 [bB l]=some (AD (cX l)):=by
 refine ay func89 rfl λR hR=>?_
 have fz:∀(st:PT) (h:H) (e:Int) (x:Ext),st.get 2=.isl [] x->st.get 3=.int .i64 e->cX l=([],e)->R .ret st h:=λst h e x h4 h5 he=>hR ⟨.tuple [.isl [] x,.int .i64 e],by
  simp[aY,dx,cC,f89,h4,h5],by rw[he];exact dF rfl rfl s_⟩
 have fin:∀(st:PT) (h:H) (A:List Al × Int) (x:Ext),st.get 2=.isl (A.1.map il) x->st.get 3=.int .i64 A.2->cX l=A->R .ret st h:=λst h A x h4 h5 he=>hR ⟨.tuple [.isl (A.1.map il) x,.int .i64 A.2],by
  simp[aY,dx,cC,f89,h4,h5],by rw[he];exact dF rfl rfl s_⟩
 have⟨b1,b2,b3,b4,b5,b6,b7⟩:=tq hv;have c1:=sK l .unk (λd hd=>(b2 d hd).1) o_;have c2:=JO l .unk o_;by_cases q:gz l<0
 ·simp[go_sem,bB,c1,hv,c2,q];exact fz _ _ 9 (.tok 1) g_ g_ (by rw[cX,if_neg (by simp[hv]),if_pos q])
 have⟨pre,d,post,e,ei,_,_⟩:=vW (l:=l) (k:=0) (by unfold gz at q;omega);have ei:gz l=(pre.length:Int):=by rw[gz,ei];simp
 have hi:pre.length<l.length:=by rw[e];simp
 have hg:l[pre.length]?=some l[pre.length]:=aC hi;have hS:cX l=vH l pre.length l[pre.length]:=by rw[cX,if_neg (by simp[hv]),if_neg q,ei,fE,hg]
 rw[ei]at c2 q;generalize pre.length=i at *;have c3:=Ou l .unk i hv hi;have c4:=Hz l .unk i hv hi;have c5:=yd l .unk .full i [] hi o_ s_;have c6:=sK (fU l i []) .unk (λe hm=>by
  rw[fU,bm]at hm;rcases ac.1 hm with hm|hm
  ·exact(b2 e (bW hm)).1
  ·exact(b2 e (dE hm)).1) (by
   simp only[fU,aL,ag,dJ,aQ];omega)
 rw[vH]at hS;simp only[bD,bB]at c5;generalize qe l i l[i]=V at *;generalize oY l i l[i]=O at *;by_cases z1:V.2=0
 ·rw[if_neg (by simp[z1])]at hS;cases z2:V.1 with
  |false=>rw[z2,if_neg s_]at hS;simp[go_sem,bB,c1,hv,c2,q,c3,z1,z2,c4,AD];exact fin _ _ O .unk g_ g_ hS
  |true=>
   rw[z2,if_pos rfl]at hS;have bl:=λds=>TY 1 ds
   have bs:=λh=>Ax h 1 (fU l i [])
   generalize fU l i []=J at *;by_cases z3:cD J=0
   ·rw[if_neg (by simp[z3])]at hS;simp[go_sem,bB,c1,hv,c2,q,c3,z1,z2,c5,c6,z3,bl,bs];exact fin _ _ ([⟨1,[],J⟩],0) .full g_ g_ hS
   rw[if_pos z3]at hS;simp[go_sem,bB,c1,hv,c2,q,c3,z1,z2,c5,c6,z3];exact fz _ _ _ (.tok 1) g_ g_ hS
 rw[if_pos z1]at hS;simp[go_sem,bB,c1,hv,c2,q,c3,z1];exact fz _ _ _ (.tok 1) g_ g_ hS
theorem Ow(l:List Dm) (x:Ext) (hv:cD l=0) (h:H):ak C h (.func 89 []) (some [.isl (l.map dG) x])=some (AD (cX l),h):=aX (args':=[bB l]) rfl rfl s_ (MV l hv)
end Go.VZ
namespace Go.VZ
open Go Go.V Go.Proofs Tryz TL
structure Fm where
 path:List Int
 bind:Lb
 dem:List Dm
structure NR where
 ns:List Nd
 fs:List Fm
 ix:Nat
 err:Int
structure KR where
 ns:List Nd
 fs:List Fm
 ks:List Nat
 err:Int
def wc(s:Lb):List Al->Int
 |[]=>0
 |a::l=>if(eI s a.bind).2≠0 then(eI s a.bind).2 else wc s l
def iL(f:List Nd->List Fm->List Dm->Lb->List Int->NR) (s:Lb) (p:List Int):Nat->List Al->List Nd->List Fm->List Nat->KR
 |_,[],ns,fs,ks=>⟨ns,fs,ks,0⟩
 |j,a::l,ns,fs,ks=>if(f ns fs a.dem (eI s a.bind).1 (p++[(j:Int)])).err≠0 then⟨(f ns fs a.dem (eI s a.bind).1 (p++[(j:Int)])).ns,(f ns fs a.dem (eI s a.bind).1 (p++[(j:Int)])).fs,[],(f ns fs a.dem (eI s a.bind).1 (p++[(j:Int)])).err⟩
  else iL f s p (j+1) l (f ns fs a.dem (eI s a.bind).1 (p++[(j:Int)])).ns (f ns fs a.dem (eI s a.bind).1 (p++[(j:Int)])).fs (ks++[(f ns fs a.dem (eI s a.bind).1 (p++[(j:Int)])).ix])
def lU(ns:List Nd) (i:Nat) (ks:List Nat):List Nd:=ns.modify i λn=>⟨n.dem,n.bind,ks⟩
noncomputable def fb(F:Nat):Nat->List Nd->List Fm->List Dm->Lb->List Int->NR
 |0,ns,fs,_,_,_=>⟨ns,fs,0,14⟩
 |g+1,ns,fs,d,s,p=>if F<=ns.length then⟨ns,fs,0,14⟩
  else if gz d<0 then⟨ns++[⟨d,s,[]⟩],fs++[⟨p,s,d⟩],ns.length,0⟩
  else if(cX d).2≠0 then⟨ns++[⟨d,s,[]⟩],fs,0,(cX d).2⟩
  else if wc s (cX d).1≠0 then⟨ns++[⟨d,s,[]⟩],fs,0,wc s (cX d).1⟩
  else if(iL (fb F g) s p 0 (cX d).1 (ns++[⟨d,s,[]⟩]) fs []).err≠0 then⟨(iL (fb F g) s p 0 (cX d).1 (ns++[⟨d,s,[]⟩]) fs []).ns,(iL (fb F g) s p 0 (cX d).1 (ns++[⟨d,s,[]⟩]) fs []).fs,0,(iL (fb F g) s p 0 (cX d).1 (ns++[⟨d,s,[]⟩]) fs []).err⟩
  else⟨lU (iL (fb F g) s p 0 (cX d).1 (ns++[⟨d,s,[]⟩]) fs []).ns ns.length (iL (fb F g) s p 0 (cX d).1 (ns++[⟨d,s,[]⟩]) fs []).ks,(iL (fb F g) s p 0 (cX d).1 (ns++[⟨d,s,[]⟩]) fs []).fs,ns.length,0⟩
structure Grow (ns:List Nd) (fs:List Fm) (ns':List Nd) (fs':List Fm):Prop where
 len:ns.length<=ns'.length
 flen:fs'.length+ns.length<=fs.length+ns'.length
theorem Grow.refl(ns:List Nd) (fs:List Fm):Grow ns fs ns fs:=⟨aR _,aR _⟩
theorem Grow.trans{a:List Nd}{b:List Fm}{c:List Nd}{d:List Fm}{e:List Nd}{f:List Fm}(h:Grow a b c d) (k:Grow c d e f):Grow a b e f:=⟨cW h.len k.len,by have:=h.flen;have:=k.flen;omega⟩
theorem sw(ns:List Nd) (i:Nat) (ks:List Nat):(lU ns i ks).length=ns.length:=by simp[lU]
theorem CG{f:List Nd->List Fm->List Dm->Lb->List Int->NR}(hf:∀ns fs d s p,Grow ns fs (f ns fs d s p).ns (f ns fs d s p).fs) (s:Lb) (p:List Int):∀(l:List Al) (j:Nat) (ns:List Nd) (fs:List Fm) (ks:List Nat),Grow ns fs (iL f s p j l ns fs ks).ns (iL f s p j l ns fs ks).fs
 |[],_,_,_,_=>.refl _ _
 |a::l,j,ns,fs,ks=>by
  rw[iL];split
  ·exact hf _ _ _ _ _
  exact(hf _ _ _ _ _).trans (CG hf s p l _ _ _ _)
theorem B1(F:Nat):∀(g:Nat) (ns:List Nd) (fs:List Fm) (d:List Dm) (s:Lb) (p:List Int),Grow ns fs (fb F g ns fs d s p).ns (fb F g ns fs d s p).fs
 |0,ns,fs,_,_,_=>.refl _ _
 |g+1,ns,fs,d,s,p=>by
  have h1:Grow ns fs (ns++[⟨d,s,[]⟩]) fs:=⟨s_,s_⟩
  have a:=h1.trans (CG (B1 F g) s p (cX d).1 0 (ns++[⟨d,s,[]⟩]) fs []);rw[fb];split
  ·exact .refl _ _
  split
  ·exact⟨s_,by simp;omega⟩
  split
  ·exact h1
  split
  ·exact h1
  split
  ·exact a
  exact⟨by rw[sw];exact a.len,by rw[sw];exact a.flen⟩
theorem vF(l:List Dm) (r:Int):∀(ps:Lb) (out:List Al),(ed l r out ps).1.length<=out.length+ps.length
 |[],out=>by simp[ed]
 |p::ps,out=>by
  rw[ed];split
  ·simp
  have h1:=vF l r ps (mn l r out p).1;have a:(mn l r out p).1.length<=out.length+1:=by
   unfold mn;split
   ·dsimp only;omega
   split
   ·simp
   simp
  rw[aG];omega
theorem sf(l:List Dm) (r:Int):∀(ps:Lb) (out:List Al),(∀p∈ps,bh p.1=0/\bh p.2=0)->vO out->vO (ed l r out ps).1
 |[],out,_,ho=>ho
 |p::ps,out,hp,ho=>by
  rw[ed];split
  ·exact λa ha=>(by cases ha)
  exact sf l r ps _ (λx hx=>hp x (by simp[hx])) (wy (hp p s_).1 (hp p s_).2 ho).1
theorem AI:∀P:Lq,(jP P).length<=P.length*P.length
 |[]=>by simp[jP]
 |a::P=>by have:=AI P;simp only[jP,aL,aU,aG,qH,fD];omega
theorem yJ(r:Int) (d:List Dm):vO [⟨r,[],d⟩]:=λa c=>by rw[bJ.1 c];exact⟨λb e=>(by cases e),s_⟩
theorem zm{l:List Dm}(hv:cD l=0):vO (cX l).1/\(cX l).1.length<=10000:=by
 have b:vO []/\([]:List Al).length<=10000:=⟨λa c=>(by cases c),s_⟩
 unfold cX;rw[if_neg (by simp[hv])];split
 ·exact b
 rename_i q;split
 ·exact b
 rename_i d m;have j:d∈l:=ai m;have⟨u,v,b3,b4,w,y,z⟩:=tq hv;have f:∀t∈eQ d.knows,bh t=0:=λt g=>(AG (λt h=>b4 t (qt j t h)) t g).1
 have g:=(b4 _ (nl j)).1;generalize (gz l).toNat=i;unfold vH;split
 ·exact b
 split
 ·split
  ·exact b
  exact⟨yJ _ _,s_⟩
 unfold oY;split
 ·exact b
 rename_i n;have o:=vF l 2 (jn (eQ d.knows) d.term) [];have A:=vF l 3 (jP (eQ d.knows)) (ed l 2 [] (jn (eQ d.knows) d.term)).1;have B:(jn (eQ d.knows) d.term).length<=(eQ d.knows).length:=by rw[jn,aU];exact dA _ _
 have D:=AI (eQ d.knows);have E:(eQ d.knows).length*(eQ d.knows).length<=80*80:=Nat.mul_le_mul o_ o_;have r:=sf l 2 (jn (eQ d.knows) d.term) [] (λp e=>by obtain⟨x,s,rfl⟩:=bV.1 e;exact⟨f _ (cO.1 s).1,g⟩) b.1
 have k:=sf l 3 (jP (eQ d.knows)) _ (λp e=>⟨f _ (pB e).1,f _ (pB e).2⟩) r;rw[aQ]at o;split
 ·exact b
 split
 ·exact b
 unfold vl;split
 ·split
  ·exact b
  refine⟨λa c=>?_,by rw[aL];simp only[aG,aQ];omega⟩;rcases ac.1 c with c|c
  ·exact k a c
  exact yJ _ _ a c
 exact⟨k,by dsimp only;omega⟩
end Go.VZ
namespace Go.V
open Go
theorem Pi{C:Cfg}{cf:FuncId}{ops:Array Oper}{base c:Nat}{K:PT->H->List FP->Prop}{s0:PT}{h0:H}(l2:List Oper):∀(l:List Oper) (i:Nat) (s:PT) (h:H) (F:List FP),i+l.length=c->ops.toList.drop i=l++l2 ->
  lM C (Call C) cf ops base i s0 h0=some (s,h,F)->MX C cf ops base K i l s h F->∃s' h' F',lM C (Call C) cf ops base c s0 h0=some (s',h',F')/\K s' h' F'
 |[],i,s,h,F,hi,_,hs,hm=>⟨s,h,F,by rw[<-hi];exact hs,hm⟩
 |o::l,i,s,h,F,hi,hd,hs,⟨v,h2,f,e,hm⟩=>by
  have ho:ops[i]?=some o:=by have:=congrArg (λl=>l[0]?) hd;simpa using this
  refine Pi l2 l (i+1) _ _ _ (by simp only[aG]at hi;omega) (by rw[<-List.tail_drop,hd];rfl) ?_ hm;simp only[lM,hs,ho,e]
theorem Yn{C:Cfg}{cf:FuncId}{R:Ex->PT->H->Prop}{k:List It}{s:PT}{h:H}(id:Nat) (ops:Array Oper) (c:Nat) (hm:C.mix cf id=true) (hc:C.cut cf id=some c) (ht:(sO ops&&xE ops c)=true) (hcl:c<=ops.size)
  (hx:MX C cf ops h.length (λs' h' F=>ri ops F=true/\OW C cf ops (ops.toList.drop c) s' h' λs h=>N C cf R k s h) 0 (ops.toList.take c) s (h++List.replicate c .void) []):W C cf R (.region id ops true) k s h:=by
 have⟨s',h',F,e,a,b,d,f,g⟩:=Pi (c:=c) (ops.toList.drop c) (ops.toList.take c) 0 s _ [] (by simp;omega) s_ rfl hx;exact⟨.normal,b,d,by rw[S9 id ops c hm hc];simp only[gM,ht,if_true,e,a,f],g⟩
end Go.V
namespace Go.VZ
open Go Go.V Go.Proofs Tryz TL
theorem u29:C.P.underlying 29=some (.slice 63):=underlying29
theorem s29:cr C.P 29=some 1:=k_
theorem a29:fJ C.P 29=some false:=k_
theorem s63:cr C.P 63=some 3:=k_
theorem a63:fJ C.P 63=some true:=k_
theorem b63:hG C.P 63=some 72:=k_
theorem z63:gH C.P 63=true:=k_
theorem Xn:ii C.P 29=some 63:=k_
theorem u50:C.P.underlying 50=some (.slice 55):=underlying50
theorem s50:cr C.P 50=some 1:=k_
theorem a50:fJ C.P 50=some false:=k_
theorem s55:cr C.P 55=some 3:=k_
theorem a55:fJ C.P 55=some true:=k_
theorem b55:hG C.P 55=some 72:=k_
theorem z55:gH C.P 55=true:=k_
theorem aA2:ii C.P 50=some 55:=k_
theorem Tq:C.P.underlying 136=some (.slice 45):=underlying136
theorem s45:cr C.P 45=some 1:=k_
theorem a45:fJ C.P 45=some false:=k_
theorem b45:hG C.P 45=some 24:=k_
theorem z45:gH C.P 45=true:=k_
theorem Xr:ii C.P 136=some 45:=k_
theorem s70:cr C.P 70=some 4:=k_
theorem a70:fJ C.P 70=some true:=k_
attribute [go_sem] Xn aA2 Xr
theorem VC(i:Nat):bF C.P 70 (.ptr i 0) 0=some (.ptr i 0):=k_
theorem VB(i:Nat):bF C.P 70 (.ptr i 0) 1=some (.ptr i 1):=k_
theorem VA(i:Nat):bF C.P 70 (.ptr i 0) 2=some (.ptr i 2):=k_
theorem U9(i:Nat):bF C.P 70 (.ptr i 0) 3=some (.ptr i 3):=k_
attribute [go_sem] VC VB VA U9
theorem Uj(a b:AV) (l:LA):ldM C.P 4 1 (some (.cells (a::b::l) .live))=some b:=by have a4:fJ C.P 4=some false:=k_;have s4:cr C.P 4=some 1:=k_;simp[ldM,aZ,a4,s4]
theorem Ui(a b c:AV) (l:LA):ldM C.P 29 2 (some (.cells (a::b::c::l) .live))=some c:=by simp[ldM,aZ,a29,s29]
theorem Uh(a b c d:AV) (l:LA):ldM C.P 50 3 (some (.cells (a::b::c::d::l) .live))=some d:=by simp[ldM,aZ,a50,s50]
theorem Tu(h:H) (i:Nat) (a b c d v:AV) (hv:v.one=true):stM C.P 29 v 2 h i (some (.cells [a,b,c,d] .live))=some (pt h i (.cells [a,b,v,d] .live)):=sr s29 h i 2 _ _ hv s_
theorem Tt(h:H) (i:Nat) (a b c d v:AV) (hv:v.one=true):stM C.P 50 v 3 h i (some (.cells [a,b,c,d] .live))=some (pt h i (.cells [a,b,c,v] .live)):=sr s50 h i 3 _ _ hv s_
attribute [go_sem] Uj Ui Uh
def pF(l:List Nat):List Int:=l.map λn:Nat=>(n:Int)
def ndC(n:Nd × Ext):LA:=[bB n.1.dem,binds n.1.bind,.isl (bP (pF n.1.kids)) n.2]
def jW(l:List (Nd × Ext)):LA:=l.flatMap ndC
theorem nO(l:List (Nd × Ext)):(jW l).length=3*l.length:=by
 induction l with
 |nil=>rfl
 |cons a l b=>simp only[jW,cF,aL,aG]at b ⊢;rw[b];simp[ndC];omega
theorem BQ(a b:List (Nd × Ext)):jW (a++b)=jW a++jW b:=by simp[jW]
def RowN(h:H) (v:AV) (ns:List Nd):Prop:=(ns=[]/\v=.isl [] .full)\/∃(id:Nat) (l:List (Nd × Ext)),l.map Prod.fst=ns/\v=.msl id 0 3 ns.length none/\h[id]?=some (.cells (jW l) .live)
def yV(f:Fm):AV:=.agg [.isl (bP f.path) .unk,binds f.bind,bB f.dem]
structure WK (h:H) (w:Nat) (F:Nat) (vn vf:AV) (ns:List Nd) (fs:List Fm):Prop where
 cell:h[w]?=some (.cells [.int .i64 F,.bool false,vn,vf] .live)
 nodes:RowN h vn ns
 forms:OwnR 55 h vf (fs.map yV)
structure FR (h0:H) (vn0 vf0:AV) (w:Nat) (h:H) (vn vf:AV):Prop where
 len:h0.length<=h.length
 old:∀i,i<h0.length->i≠w->bv vn0≠some i->bv vf0≠some i->h[i]?=h0[i]?
 nn:∀i,bv vn=some i->i<h0.length->bv vn0=some i
 ff:∀i,bv vf=some i->i<h0.length->bv vf0=some i
theorem FR.refl(h:H) (a b:AV) (w:Nat):FR h a b w h a b:=⟨aR _,λ_ _ _ _ _=>rfl,λ_ h _=>h,λ_ h _=>h⟩
theorem FR.trans{h0 h1 h2:H}{a b c d e f:AV}{w:Nat}(x:FR h0 a b w h1 c d) (y:FR h1 c d w h2 e f):FR h0 a b w h2 e f where
 len:=cW x.len y.len
 old i hi hw ha hb:=by have g:=x.len;rw[y.old i o_ hw (λe=>ha (x.nn i e hi)) (λe=>hb (x.ff i e hi))];exact x.old i hi hw ha hb
 nn i hi g:=x.nn i (y.nn i hi (eG g x.len)) g
 ff i hi g:=x.ff i (y.ff i hi (eG g x.len)) g
theorem FR.keep{h0 h1 h2:H}{a b c d:AV}{w:Nat}(x:FR h0 a b w h1 c d){o:Option Nat}(k:Keep h1 h2 o) (ho:∀i,o=some i->h0.length<=i):FR h0 a b w h2 c d where
 len:=cW x.len k.1
 old i hi hw ha hb:=by have f:=x.len;rw[k.2 i o_ (λe=>by have:=ho i e;omega)];exact x.old i hi hw ha hb
 nn:=x.nn
 ff:=x.ff
theorem RowN.keep{h h2:H}{v:AV}{ns:List Nd}(r:RowN h v ns){o:Option Nat}(k:Keep h h2 o) (ho:o=none\/bv v≠o):RowN h2 v ns:=by
 rcases r with r|⟨id,l,b,rfl,a⟩
 ·exact .inl r
 refine .inr ⟨id,l,b,rfl,?_⟩;refine k.get a λe=>?_
 rcases ho with q|q
 ·rw[q]at e;cases e
 exact q (by rw[e];rfl)
theorem RowN.id_lt{h:H}{v:AV}{ns:List Nd}(r:RowN h v ns){i:Nat}(e:bv v=some i):i<h.length:=by
 rcases r with⟨_,rfl⟩|⟨id,l,_,rfl,a⟩
 ·cases e
 simp only[bv,aA]at e;subst e;exact(aB.1 a).1
theorem OwnR.id_lt{e:TypeId}{h:H}{v:AV}{xs:LA}(o:OwnR e h v xs){i:Nat}(hi:bv v=some i):i<h.length:=by
 rcases o with rfl|⟨id,rfl,a⟩
 ·cases hi
 simp only[bv,aA]at hi;subst hi;exact(aB.1 a).1
theorem WK.keep{h h2:H}{w F:Nat}{vn vf:AV}{ns:List Nd}{fs:List Fm}(x:WK h w F vn vf ns fs){o:Option Nat}(k:Keep h h2 o) (h1:o≠some w) (h2':∀i,o=some i->bv vn≠some i/\bv vf≠some i):WK h2 w F vn vf ns fs where
 cell:=k.get x.cell h1
 nodes:=x.nodes.keep k (by
  cases o with
  |none=>exact .inl rfl
  |some i=>exact .inr (h2' i rfl).1)
 forms:=x.forms.keep k λi a e=>(h2' i e).2 a
theorem WK.ne{h:H}{w F:Nat}{vn vf:AV}{ns:List Nd}{fs:List Fm}(x:WK h w F vn vf ns fs):bv vn≠some w/\bv vf≠some w/\∀i,bv vn=some i->bv vf≠some i:=by
 refine⟨λe=>?_,cM x.forms x.cell,λi e=>?_⟩
 ·rcases x.nodes with⟨_,rfl⟩|⟨id,l,b,rfl,a⟩
  ·cases e
  simp only[bv,aA]at e;subst e;rw[x.cell]at a;have:=congrArg List.length (VObj.cells.inj (Option.some.inj a)).1;rw[nO]at this;simp at this;omega
 rcases x.nodes with⟨_,rfl⟩|⟨id,l,b,rfl,a⟩
 ·cases e
 simp only[bv,aA]at e;subst e;exact cM x.forms a
theorem TI(ns:List Nd){h:H}{v:AV}(r:RowN h v ns):fB C.P 29 v=some (.int .i64 ns.length):=by
 rcases r with⟨rfl,rfl⟩|⟨id,l,b,rfl,a⟩
 ·simp[fB,u29]
 simp[fB,u29]
theorem RowN.one{h:H}{v:AV}{ns:List Nd}(r:RowN h v ns):v.one=true:=by rcases r with⟨_,rfl⟩|⟨id,l,_,rfl,_⟩<;>rfl
theorem Lr(h:H) (d:List Dm) (s:Lb) (x y:Ext):cI C.P h 29 1 [(0,.agg [.isl (d.map dG) x,.isl (s.map bS) y,.isl [] .full])]=some (.isl [.agg [bB d,binds s,.isl [] .unk]] .full,h):=cG u29 s63 z63 rfl o_ rfl rfl rfl (by simp) rfl
theorem YR(a b:LA) (x y:Ext):fK C.P 63 [(0,.isl a x),(1,.isl b y)]=some (.agg [.isl a x,.isl b y,.isl [] .full]):=k_
theorem YS(a b c:LA) (x y z:Ext):fK C.P 55 [(0,.isl a x),(1,.isl b y),(2,.isl c z)]=some (.agg [.isl a x,.isl b y,.isl c z]):=k_
theorem Lp(h:H) (f:Fm) (x y z:Ext):cI C.P h 50 1 [(0,.agg [.isl (bP f.path) x,.isl (f.bind.map bS) y,.isl (f.dem.map dG) z])]=some (.isl [yV f] .full,h):=cG u50 s55 z55 rfl o_ rfl rfl rfl (by simp) rfl
theorem IW(l:List Fm):gn 3 (l.map yV)=true:=by cases l<;>rfl
theorem PN{h:H}{v:AV}{x:Ext}{xs ys:List Fm}(o:OwnR 55 h v (xs.map yV)) (hl:xs.length+ys.length<=100000000) :
  ∃v' h',bu C.P false h 50 v (.isl (ys.map yV) x)=some (v',h')/\OwnR 55 h' v' ((xs++ys).map yV)/\Keep h h' (bv v)/\(bv v'=bv v\/bv v=none/\bv v'=some h.length):=by
 have:=jG (x:=x) u50 s55 b55 z55 rfl o (IW xs) (IW ys) (by simp only[aU];omega);rwa[<-br]at this
theorem IU(l:List (Lb)):gn 1 (l.map binds)=true:=by cases l<;>rfl
theorem L4{h:H}{v:AV}{x:Ext}{xs ys:List (Lb)}(o:OwnR 45 h v (xs.map binds)) (hl:xs.length+ys.length<=100000000) :
  ∃v' h',bu C.P false h 136 v (.isl (ys.map binds) x)=some (v',h')/\OwnR 45 h' v' ((xs++ys).map binds)/\Keep h h' (bv v)/\(bv v'=bv v\/bv v=none/\bv v'=some h.length):=by
 have:=jG (x:=x) Tq s45 b45 z45 rfl o (IU xs) (IU ys) (by simp only[aU];omega);rwa[<-br]at this
theorem IB(h:H) (s:Lb):cI C.P h 136 1 [(0,binds s)]=some (.isl [binds s] .full,h):=cG Tq s45 z45 rfl o_ rfl rfl rfl (by simp[binds]) rfl
theorem U3(l:List (Lb)) (k:Nat) (hk:k<l.length) (x:Ext):bH C.P 136 (.isl (l.map binds) x) (.int .i64 k)=some (.iptr (binds l[k]) 0):=by have:(binds l[k]).cells.length=1:=rfl;simp[bH,Tq,s45,hk,this]
theorem TJ(s:Lb) (h:H):aW C.P h 45 (.iptr (binds s) 0)=some (binds s):=by have:(binds s).cells=[binds s]:=rfl;simp[aW,aZ,a45,s45,this]
theorem Vm{h:H}{v:AV}{ns:List Nd}(r:RowN h v ns) (d:List Dm) (s:Lb) (hl:ns.length<=100000) :
  ∃v' h',bu C.P true h 29 v (.isl [.agg [bB d,binds s,.isl [] .unk]] .full)=some (v',h')/\RowN h' v' (ns++[⟨d,s,[]⟩])/\Keep h h' (bv v)/\bv v'=some h.length/\h'.length=h.length+1:=by
 have b:∀h,qM h 3 (.isl [.agg [bB d,binds s,.isl [] .unk]] .full)=some (ndC (⟨d,s,[]⟩,.unk),1):=λh=>rfl
 rcases r with⟨rfl,rfl⟩|⟨id,l,rfl,rfl,a⟩
 ·refine⟨.msl h.length 0 3 1 none,h++[.cells (ndC (⟨d,s,[]⟩,.unk)) .live],?_,.inr ⟨h.length,[(⟨d,s,[]⟩,.unk)],rfl,rfl,by simp[jW]⟩,Keep.append _ _ _,rfl,s_⟩;simp only[bu,mX,du,if_false,aw,fM,u29,s63,b63,z63,b];simp[gn]
 have f:=nO l;rw[aU]at hl;have c:=(aB.1 a).1;refine⟨.msl h.length 0 3 (l.length+1) none,h.set id (.cells (jW l) .dead)++[.cells (jW (l++[(⟨d,s,[]⟩,.unk)])) .live],?_,.inr ⟨h.length,l++[(⟨d,s,[]⟩,.unk)],s_,s_,by rw[aj s_];simp⟩,?_,rfl,s_⟩
 ·simp only[bu,mX,du,if_false,aw,fM,u29,s63,b63,z63,b,a,aU];rw[if_neg s_,if_neg s_,if_pos ⟨trivial,trivial,o_,o_⟩,cq o_,BQ];simp[jW]
 refine⟨s_,λj g i=>?_⟩;rw[aP (by simpa using g),aE];intro e;subst e;exact i rfl
theorem XE{h:H}{v:AV}{ns:List Nd}(r:RowN h v ns){k:Nat}(hk:k<ns.length) (ks:List Nat) (x:Ext):∃(id:Nat) (h':H),bH C.P 29 v (.int .i64 k)=some (.ptr id (3*k))/\cL C.P h 53 (.ptr id (3*k+2)) (.isl (bP (pF ks)) x)=some h'/\RowN h' v (lU ns k ks)/\Keep h h' (bv v)/\h'.length=h.length:=by
 rcases r with⟨rfl,rfl⟩|⟨id,l,rfl,rfl,c⟩
 ·simp at hk
 rw[aU]at hk;have b:=(aB.1 c).1;have d:=nO l;refine⟨id,h.set id (.cells ((jW l).set (3*k+2) (.isl (bP (pF ks)) x)) .live),?_,?_,.inr ⟨id,l.modify k (λn=>(⟨n.1.dem,n.1.bind,ks⟩,x)),?_,by simp[lU],?_⟩,Keep.set _ _ _,s_⟩
 ·simp[bH,u29,s63,hk,lD]
 ·rw[GV,HH,c,sr s53 h id (3*k+2) _ _ rfl o_];rfl
 ·simp only[lU];apply cU;intro i;simp only[ba,iw];cases l[i]? with
  |none=>rfl
  |some a=>by_cases e:k=i<;>simp[e]
 rw[aH b];congr 2
 clear c b d;induction l generalizing k with
 |nil=>simp at hk
 |cons a l f=>
  cases k with
  |zero=>simp[jW,ndC]
  |succ k=>have:=f (k:=k) (by simpa using hk);rw[show 3*(k+1)+2=(3*k+2)+3 by omega];simp only[jW,cF,List.modify_succ_cons]at this ⊢;rw[<-this];simp[ndC]
theorem WK.node{h0:H}{w F:Nat}{vn vf:AV}{ns:List Nd}{fs:List Fm}(x:WK h0 w F vn vf ns fs) (d:List Dm) (s:Lb) (hl:ns.length<=100000) :
  ∃v1 h1,bu C.P true h0 29 vn (.isl [.agg [bB d,binds s,.isl [] .unk]] .full)=some (v1,h1)/\h1[w]?=some (.cells [.int .i64 F,.bool false,vn,vf] .live)/\v1.one=true /\
   WK (pt h1 w (.cells [.int .i64 F,.bool false,v1,vf] .live)) w F v1 vf (ns++[⟨d,s,[]⟩]) fs/\FR h0 vn vf w (pt h1 w (.cells [.int .i64 F,.bool false,v1,vf] .live)) v1 vf:=by
 have⟨j,k,l⟩:=x.ne;have⟨v1,h1,c,g,f,b,m⟩:=Vm x.nodes d s hl;have n:=(aB.1 x.cell).1;have o:=f.get x.cell j;have h:Keep h1 (pt h1 w (.cells [.int .i64 F,.bool false,v1,vf] .live)) (some w):=Keep.set _ _ _;refine⟨v1,h1,c,o,g.one,⟨?_,?_,?_⟩,⟨?_,?_,?_,?_⟩⟩
 ·rw[pt,aH o_]
 ·exact g.keep h (.inr (by rw[b];simp only[ne_eq,aA];omega))
 ·refine(x.forms.keep f λi a e=>l i e a).keep h λi a e=>?_
  simp only[aA]at e;subst e;exact k a
 ·simp[pt];omega
 ·intro i a p c q;rw[pt,aE (λe=>p e.symm),f.2 i a c]
 ·intro i a hl;rw[b]at a;simp only[aA]at a;omega
 intro i a _;exact a
theorem WK.form{h0:H}{w F:Nat}{vn vf:AV}{ns:List Nd}{fs:List Fm}(x:WK h0 w F vn vf ns fs) (f:Fm) (hl:fs.length<=100000) :
  ∃v1 h1,bu C.P false h0 50 vf (.isl [yV f] .full)=some (v1,h1)/\h1[w]?=some (.cells [.int .i64 F,.bool false,vn,vf] .live)/\v1.one=true /\
   WK (pt h1 w (.cells [.int .i64 F,.bool false,vn,v1] .live)) w F vn v1 ns (fs++[f])/\FR h0 vn vf w (pt h1 w (.cells [.int .i64 F,.bool false,vn,v1] .live)) vn v1:=by
 have⟨l,g,m⟩:=x.ne;have⟨v1,h1,h,j,c,b⟩:=PN (ys:=[f]) (x:=.full) x.forms (by simp only[aG,aQ];omega);have n:=(aB.1 x.cell).1;have o:=c.get x.cell g;have k:Keep h1 (pt h1 w (.cells [.int .i64 F,.bool false,vn,v1] .live)) (some w):=Keep.set _ _ _;have p:=c.1;refine⟨v1,h1,h,o,(by obtain⟨x,rfl⟩:=j.isl;rfl),⟨?_,?_,?_⟩,⟨?_,?_,?_,?_⟩⟩
 ·rw[pt,aH o_]
 ·refine(x.nodes.keep c ?_).keep k (.inr l);cases e:bv vf with
  |none=>exact .inl rfl
  |some i=>exact .inr λq=>m i q e
 ·refine j.keep k λi a e=>?_
  simp only[aA]at e;subst e;rcases b with q|⟨r,d⟩
  ·rw[q]at a;exact g a
  rw[d]at a;simp only[aA]at a;omega
 ·simp[pt];omega
 ·intro i a s h t;rw[pt,aE (λe=>s e.symm),c.2 i a t]
 ·intro i a _;exact a
 intro i a hl;rcases b with q|⟨r,d⟩
 ·rw[<-q];exact a
 rw[d]at a;simp only[aA]at a;omega
theorem WK.kids{h0:H}{w F:Nat}{vn vf:AV}{ns:List Nd}{fs:List Fm}(x:WK h0 w F vn vf ns fs){k:Nat}(hk:k<ns.length) (ks:List Nat) (e:Ext) :
  ∃(id:Nat) (h':H),bH C.P 29 vn (.int .i64 k)=some (.ptr id (3*k))/\cL C.P h0 53 (.ptr id (3*k+2)) (.isl (bP (pF ks)) e)=some h'/\WK h' w F vn vf (lU ns k ks) fs/\FR h0 vn vf w h' vn vf:=by
 have⟨c,l,d⟩:=x.ne;have⟨id,h',f,g,h,b,m⟩:=XE x.nodes hk ks e;refine⟨id,h',f,g,⟨b.get x.cell c,h,x.forms.keep b λi a e=>d i e a⟩,⟨o_,λi a n j o=>b.2 i a j,λi a _=>a,λi a _=>a⟩⟩
def Loc(h0 h:H) (v vn vf:AV):Prop:=∀i,bv v=some i->h0.length<=i/\i<h.length/\bv vn≠some i/\bv vf≠some i
theorem Loc.step{h0 h h':H}{w:Nat}{v vn vf vn' vf':AV}(l:Loc h0 h v vn vf) (f:FR h vn vf w h' vn' vf'):Loc h0 h' v vn' vf':=λi g=>by have⟨a,b,c,d⟩:=l i g;have:=f.len;exact⟨a,o_,λe=>c (f.nn i e b),λe=>d (f.ff i e b)⟩
theorem Loc.own{h0 h h':H}{w:Nat}{v vn vf vn' vf':AV}{e:TypeId}{xs:LA}(l:Loc h0 h v vn vf) (f:FR h vn vf w h' vn' vf') (hw:w<h0.length) (o:OwnR e h v xs):OwnR e h' v xs:=by
 rcases o with rfl|⟨id,rfl,g⟩
 ·exact .inl rfl
 have⟨a,b,c,d⟩:=l id rfl;exact .inr ⟨id,rfl,by rw[f.old id b o_ c d];exact g⟩
theorem Loc.app{h0 h h':H}{w F:Nat}{v v' vn vf:AV}{ns:List Nd}{fs:List Fm}{vn0 vf0:AV}(l:Loc h0 h v vn vf) (x:WK h w F vn vf ns fs) (f:FR h0 vn0 vf0 w h vn vf) (hw:w<h0.length) (k:Keep h h' (bv v)) (hid:bv v'=bv v\/bv v=none/\bv v'=some h.length) (_hl:h'.length=h.length\/h.length<h'.length) (hl2:∀i,bv v'=some i->i<h'.length) :
  WK h' w F vn vf ns fs/\FR h0 vn0 vf0 w h' vn vf/\Loc h0 h' v' vn vf:=by
 refine⟨x.keep k (λe=>?_) λi e=>?_,f.keep k λi e=>(l i e).1,λi a=>?_⟩
 ·have:=(l w e).1;omega
 ·have:=l i e;exact⟨this.2.2.1,this.2.2.2⟩
 refine⟨?_,hl2 i a,?_,?_⟩
 ·rcases hid with q|⟨c,b⟩
  ·rw[q]at a;exact(l i a).1
  rw[b]at a;have:=f.len;simp only[aA]at a;omega
 ·rcases hid with q|⟨c,b⟩
  ·rw[q]at a;exact(l i a).2.2.1
  rw[b]at a;simp only[aA]at a;intro e;have:=x.nodes.id_lt e;omega
 rcases hid with q|⟨c,b⟩
 ·rw[q]at a;exact(l i a).2.2.2
 rw[b]at a;simp only[aA]at a;intro e;have:=OwnR.id_lt x.forms e;omega
theorem FR.grow{h0 h h':H}{vn0 vf0 vn vf:AV}{w:Nat}(f:FR h0 vn0 vf0 w h vn vf) (hl:h.length<=h'.length) (hg:∀i,i<h.length->h'[i]?=h[i]?):FR h0 vn0 vf0 w h' vn vf:=f.keep (o:=none) ⟨hl,λi a _=>hg i a⟩ λi e=>by cases e
theorem WK.grow{h h':H}{w F:Nat}{vn vf:AV}{ns:List Nd}{fs:List Fm}(x:WK h w F vn vf ns fs) (hl:h.length<=h'.length) (hg:∀i,i<h.length->h'[i]?=h[i]?):WK h' w F vn vf ns fs:=x.keep (o:=none) ⟨hl,λi a _=>hg i a⟩ s_ λi e=>by cases e
theorem Loc.grow{h0 h h':H}{v vn vf:AV}(l:Loc h0 h v vn vf) (hl:h.length<=h'.length):Loc h0 h' v vn vf:=λi e=>by have⟨a,b,c,d⟩:=l i e;exact⟨a,o_,c,d⟩
theorem Loc.ownG{h0 h h':H}{v vn vf:AV}{e:TypeId}{xs:LA}(_:Loc h0 h v vn vf) (hg:∀i,i<h.length->h'[i]?=h[i]?) (o:OwnR e h v xs):OwnR e h' v xs:=by
 rcases o with rfl|⟨id,rfl,a⟩
 ·exact .inl rfl
 exact .inr ⟨id,rfl,by rw[hg id (aB.1 a).1];exact a⟩
theorem HD{h:H}{i j:Nat}{o:VObj}(hij:i≠j) (hv:dZ h[j]?=true):dZ (h.set i o)[j]?=true:=by rw[aE hij];exact hv
theorem XL{H0:H}{b:Nat}(p:List Int) (x:Ext) (j:Int) (_hl:H0.length=b+16) (hp:p.length<=100000) (hv:∀i,i<16->dZ H0[b+i]?=true) :
  ∃(v:AV) (h' g:H) (v2:AV) (h2 g2:H) (ids:List Nat) (q:Nat),bu C.P false H0 53 (.isl [] .full) (.isl (bP p) x)=some (v,h')/\h'.length<=H0.length+1/\fin (b+12) [] H0 h'=g/\(ids=[]\/ids=[b+12]) /\
   (∀i,12<i->i<16->dZ g[b+i]?=true)/\g.length=H0.length/\ce (v.mv H0.length (b+12))++iV (v.mv H0.length (b+12))++ce (.isl [.int .i64 j] .full)=ids /\
   bu C.P false g 53 (v.mv H0.length (b+12)) (.isl [.int .i64 j] .full)=some (v2,h2)/\h2.length<=g.length+1/\fin (b+15) ids g h2=g2/\v2.mv g.length (b+15)=.isl (bP (p++[j])) (.tok q)/\q<g2.length/\g2.length=H0.length/\∀i,i<b->g2[i]?=H0[i]?:=by
 have f:=hv 12 o_;have h:=hv 15 o_;have c:=xX f;have k:=xX h;cases p with
 |nil=>
  have l:bu C.P false H0 53 (.isl [] .full) (.isl (bP []) x)=some (.isl [] .full,H0):=by rw[iE];simp only[eV,u53,s3,b3,z3,lp,bP,bD];simp[gn]
  have m:bu C.P false H0 53 (.isl [] .full) (.isl [.int .i64 j] .full)=some (.isl (bP [j]) (.tok H0.length),H0++[.tok 1 3]):=by rw[iE];simp only[eV,u53,s3,b3,z3,lp,bP,aS,bD];simp[gn];rfl
  refine⟨_,_,H0,_,_,H0.set (b+15) (.tok 1 3),[],b+15,l,o_,wT _ _,.inl rfl,λi _ h2=>hv i h2,rfl,rfl,m,s_,?_,?_,by simp;omega,s_,λi n=>by rw[aE o_]⟩
  ·rw[tY k];rfl
  simp[AV.mv]
 |cons a p=>
  have l:bu C.P false H0 53 (.isl [] .full) (.isl (bP (a::p)) x)=some (.isl (bP (a::p)) (.tok H0.length),H0++[.tok (a::p).length 3]):=by
   have o:=nE (a::p);rw[iE];simp only[eV,u53,s3,b3,z3,lp,o];have e:(bP (a::p)).length=(a::p).length:=by simp[bP]
   simp only[bP,aS,aG,aU]at hp ⊢;simp[gn];omega
  have gt:(H0.set (b+12) (.tok (a::p).length 3))[b+12]?=some (.tok (bP (a::p)).length 3):=by rw[aH c];simp[bP]
  have m:=vi (P:=C.P) (x:=.full) (ys:=[.int .i64 j]) u53 s3 b3 z3 rfl gt (nE (a::p)) rfl (by simp only[bP,aU,aG,aQ]at hp ⊢;omega);have d:(AV.isl (bP (a::p)) (.tok H0.length)).mv H0.length (b+12)=.isl (bP (a::p)) (.tok (b+12)):=by simp[AV.mv]
  refine⟨_,_,H0.set (b+12) (.tok (a::p).length 3),_,_,(H0.set (b+12) (.tok (a::p).length 3)).set (b+12) (.tok ((bP (a::p)).length+1) 3),[b+12],b+12,l,s_,?_,.inr rfl,λi r h2=>HD o_ (hv i h2),s_,by rw[d];rfl,by rw[d];exact m,s_,?_,?_,by simp;omega,s_,λi n=>by rw[aE o_,aE o_]⟩
  ·rw[tY c];rfl
  ·exact uV o_
  rw[pI (by simp;omega)];simp[bP]
structure NdV (d:List Dm) (s:Lb):Prop where
 val:cD d=0
 sm:small s
 len:s.length<1000000
theorem NJ{d:List Dm}{s:Lb}{a:Al}(_h:NdV d s) (he:(cX d).2=0) (ha:a∈(cX d).1) (hc:(eI s a.bind).2=0):NdV a.dem (eI s a.bind).1:=by have c:=vv he a ha;have⟨e,g,_⟩:=oi hc;refine⟨c.valid,λb f=>?_,by rw[e];omega⟩;rw[e]at f;have:=Aj hc b f;exact⟨o_,o_⟩
def Pc(h0:H) (w F:Nat) (vn vf:AV) (R:NR) (r:AV) (h':H):Prop:=r=.tuple [.int .i64 R.ix,.int .i64 R.err]/\∃vn' vf',WK h' w F vn' vf' R.ns R.fs/\FR h0 vn vf w h' vn' vf'
def aB1(h0:H) (w F:Nat) (vn vf vn1 vf1:AV) (ns1:List Nd) (fs:List Fm) (d:List Dm) (s:Lb) (p:List Int) (x1 x2 x3:Ext) (n0:Nat) (m:Nat) (st:PT) (h:H):Prop:=∃k:Nat,m=(cX d).1.length-k/\k<=(cX d).1.length /\
 st.get 0=.ptr w 0/\st.get 1=.isl (d.map dG) x1/\st.get 2=.isl (s.map bS) x2/\st.get 3=.isl (bP p) x3/\st.get 10=.int .i64 n0/\st.get 11=.isl ((cX d).1.map il) .unk/\st.get 14=.int .i64 k /\
 WK h w F vn1 vf1 ns1 fs/\FR h0 vn vf w h vn1 vf1/\OwnR 45 h (st.get 13) ((((cX d).1.take k).map λa=>(eI s a.bind).1).map binds)/\Loc h0 h (st.get 13) vn1 vf1/\wc s ((cX d).1.drop k)=wc s (cX d).1
def aBx(h0:H) (w F g:Nat) (vn vf:AV) (ns1:List Nd) (fs:List Fm) (d:List Dm) (s:Lb) (p:List Int) (x3:Ext) (n0:Nat) (m:Nat) (st:PT) (h:H):Prop:=∃(j:Nat) (nj:List Nd) (fj:List Fm) (ks:List Nat) (vnj vfj:AV),m=(cX d).1.length-j/\j<=(cX d).1.length /\
 st.get 0=.ptr w 0/\st.get 3=.isl (bP p) x3/\st.get 10=.int .i64 n0/\st.get 11=.isl ((cX d).1.map il) .unk/\st.get 18=.int .i64 j /\
 WK h w F vnj vfj nj fj/\FR h0 vn vf w h vnj vfj/\OwnR 45 h (st.get 13) (((cX d).1.map λa=>(eI s a.bind).1).map binds)/\Loc h0 h (st.get 13) vnj vfj/\OwnR 3 h (st.get 17) (bP (pF ks))/\Loc h0 h (st.get 17) vnj vfj/\(∀i,bv (st.get 13)=some i->bv (st.get 17)≠some i) /\
 ks.length=j/\Grow ns1 fs nj fj/\iL (fb F g) s p j ((cX d).1.drop j) nj fj ks=iL (fb F g) s p 0 (cX d).1 ns1 fs []
theorem I8(i k:Nat):bF C.P 63 (.ptr i k) 2=some (.ptr i (k+2)):=by
 have e:∀i k,bF C.P 63 (.ptr i k) 2=some (.ptr i (k+2)):=λi k=>k_
 exact e i k
theorem ru{s:Lb}:∀ {l:List Al},wc s l=0->∀a∈l,(eI s a.bind).2=0
 |[],_,a,ha=>by cases ha
 |b::l,h,a,ha=>by
  rw[wc]at h;split at h
  ·rename_i q;exact absurd h q
  rename_i q;rcases ao.1 ha with rfl|ha
  ·simpa using q
  exact ru h a ha
theorem US(F:Nat) (hF:F<=20000):∀(g:Nat) (ns:List Nd) (fs:List Fm) (d:List Dm) (s:Lb) (p:List Int) (h0:H) (w:Nat) (vn vf:AV) (x1 x2 x3:Ext),WK h0 w F vn vf ns fs->NdV d s->p.length<=ns.length->fs.length<=ns.length->F-ns.length<=g->JZ h0 x3 ->
  ∃r h',ak C h0 (.func 64 []) (some [.ptr w 0,.isl (d.map dG) x1,.isl (s.map bS) x2,.isl (bP p) x3])=some (r,h')/\Pc h0 w F vn vf (fb F g ns fs d s p) r h':=by
 intro g;induction g with
 |zero=>
  intro ns fs d s p h0 w vn vf x1 x2 x3 wk hv hp w8 hg x0;suffices hh:∃r h',Go.V.Call C 64 [.ptr w 0,.isl (d.map dG) x1,.isl (s.map bS) x2,.isl (bP p) x3] h0=some (r,h')/\Pc h0 w F vn vf (fb F 0 ns fs d s p) r h' by
   have⟨r,h',a,q⟩:=hh;exact⟨r,h',by rw[gQ k_ rfl];exact a,q⟩
  refine lC rfl func64 rfl k_ (by simp[f64]) λR hR=>?_
  have q3:=TI ns wk.nodes;have q':(F:Int)<=ns.length:=o_;simp[go_sem,G wk.cell,q3,q'];exact hR _ _ _ (.inr rfl) ⟨.tuple [.int .i64 0,.int .i64 14],by simp[aY,dx,cC,f64,go_sem],rfl,vn,vf,wk,.refl _ _ _ _⟩
 |succ g ih=>
  intro ns fs d s p h0 w vn vf x1 x2 x3 wk hv hp w8 hg x0;suffices hh:∃r h',Go.V.Call C 64 [.ptr w 0,.isl (d.map dG) x1,.isl (s.map bS) x2,.isl (bP p) x3] h0=some (r,h')/\Pc h0 w F vn vf (fb F (g+1) ns fs d s p) r h' by
   have⟨r,h',a,q⟩:=hh;exact⟨r,h',by rw[gQ k_ rfl];exact a,q⟩
  refine lC rfl func64 rfl k_ (by simp[f64]) λR hR=>?_
  have fin:∀(X:PT) (h:H) (i:Nat) (e:Int) (M N:AV) (y1:List Nd) (y2:List Fm),X.get 8=.int .i64 i->X.get 9=.int .i64 e->fb F (g+1) ns fs d s p=⟨y1,y2,i,e⟩->WK h w F M N y1 y2->FR h0 vn vf w h M N->R .ret X h:=λX h i e M N y1 y2 h8 h9 he hw hf=>hR _ _ _ (.inr rfl) ⟨.tuple [.int .i64 i,.int .i64 e],by
   simp[aY,dx,cC,f64,h8,h9],by rw[he];exact⟨rfl,M,N,hw,hf⟩⟩
  have q4:=(aB.1 wk.cell).1;have q3:=TI ns wk.nodes;by_cases q:F<=ns.length
  ·have q':(F:Int)<=ns.length:=o_;simp[go_sem,G wk.cell,q3,q'];exact fin _ _ 0 14 _ _ _ _ g_ g_ (by rw[fb,if_pos q]) wk (.refl _ _ _ _)
  have q':¬(F:Int)<=ns.length:=o_;have⟨Y,h1,w9,v0,v1,O,q5⟩:=wk.node d s o_;generalize u:ns++[(⟨d,s,[]⟩:Nd)]=ns1 at *;have hl1:ns1.length=ns.length+1:=by rw[<-u];simp
  generalize v3:pt h1 w (.cells [.int .i64 F,.bool false,Y,vf] .live)=h2 at *;have x4:=Tu h1 w (.int .i64 F) (.bool false) vn vf Y v1;rw[v3]at x4;have bl:=YR (d.map dG) (s.map bS) x1 x2;have bs:=Lr h0 d s x1 x2;have v4:=O5 d x1 (by have:=(mO hv.val).1;omega);simp[go_sem,G wk.cell,q3,q',bl,bs,w9,G v0,x4,v4];by_cases z:gz d<0
  ·have⟨v5,h3,v6,v7,v8,v9,j'⟩:=O.form ⟨p,s,d⟩ o_;have j0:=YS (bP p) (s.map bS) (d.map dG) x3 x2 x1;have j1:=Lp h2 ⟨p,s,d⟩ x3 x2 x1;have j2:=Tt h3 w (.int .i64 F) (.bool false) Y vf v5 v8;simp[go_sem,z,G O.cell,j0,j1,v6,G v7,j2];exact fin _ _ ns.length 0 _ _ _ _ g_ g_ (by rw[fb,if_neg q,if_pos z,u]) v9 (q5.trans j')
  have j3:=Ow d x1 hv.val;simp[go_sem,z,j3,AD];by_cases z1:(cX d).2=0
  ·simp[go_sem,z1];have⟨j4,hal⟩:=zm hv.val;have j5:=q5.len;have gA:∀i,i<h2.length->(h2++[VObj.tok 0 45])[i]?=h2[i]?:=λi f=>aP f
   refine bL (aB1 h0 w F vn vf Y vf ns1 fs d s p x1 x2 x3 ns.length) (cX d).1.length ⟨0,rfl,aN _,g_,g_,g_,g_,g_,g_,g_,O.grow s_ gA,q5.grow s_ gA,.inr ⟨h2.length,g_,s_⟩,?_,rfl⟩ ?_
   ·intro i f;simp[go_sem,bv]at f;subst f;exact⟨j5,s_,λe=>by have:=O.nodes.id_lt e;omega,λe=>by have:=OwnR.id_lt O.forms e;omega⟩
   rintro m X h ⟨k,rfl,hk,g0,g1,g2,g3,y3,A,q6,Q,Z,go,lo,he⟩;obtain⟨v13,n⟩:∃v,v=X.get 13:=⟨_,rfl⟩
   rw[<-n]at go lo;by_cases l:k<(cX d).1.length
   ·have I:(k:Int)<(cX d).1.length:=o_;have w2:=wS k o_;have q7:=DL (cX d).1 k l .unk;have x5:=j4 _ (aF l);have ck:=Fi s (cX d).1[k].bind x2 .unk hv.sm x5.1 hv.len x5.2;have l1:=Nc (cX d).1[k];simp only[binds]at l1;rw[aI l,wc]at he;by_cases c:(eI s (cX d).1[k].bind).2=0
    ·rw[if_neg (by simp[c])]at he;have⟨v',h',ha,ho,S,q8⟩:=L4 (ys:=[(eI s (cX d).1[k].bind).1]) (x:=.full) go (by simp only[aU,ag,aG,aQ];omega);rw[show((cX d).1.take k).map (λa=>(eI s a.bind).1)++[(eI s (cX d).1[k].bind).1]=((cX d).1.take (k+1)).map λa=>(eI s a.bind).1 by rw[aJ l,br];rfl]at ho;have x6:=S.1;have⟨j6,j7,j8⟩:=lo.app Q Z q4 S q8 o_ λi f=>OwnR.id_lt ho f
     simp only[aS,bD]at ha;have z6:=IB;simp only[binds]at z6 ha;simp[go_sem,g2,A,q6,<-n,I,q7,l1,ck,oP,binds,c,z6,ha,-Int.natCast_add,w2];exact⟨(cX d).1.length-(k+1),o_,k+1,rfl,l,g_,g_,g_,g_,g_,g_,g_,j6,j7,by simpa[go_sem]using ho,by simpa[go_sem]using j8,he⟩
    rw[if_pos c]at he;simp[go_sem,g2,A,q6,I,q7,l1,ck,oP,binds,c];exact fin _ _ 0 (eI s (cX d).1[k].bind).2 _ _ _ _ g_ g_ (by rw[fb,if_neg q,if_neg z,if_neg (by simp[z1]),<-he,if_pos c,u]) Q Z
   have:k=(cX d).1.length:=o_;subst this;rw[ae,wc]at he;rw[ah]at go;have o:fb F (g+1) ns fs d s p=if(iL (fb F g) s p 0 (cX d).1 ns1 fs []).err≠0 then⟨(iL (fb F g) s p 0 (cX d).1 ns1 fs []).ns,(iL (fb F g) s p 0 (cX d).1 ns1 fs []).fs,0,(iL (fb F g) s p 0 (cX d).1 ns1 fs []).err⟩
    else⟨lU (iL (fb F g) s p 0 (cX d).1 ns1 fs []).ns ns.length (iL (fb F g) s p 0 (cX d).1 ns1 fs []).ks,(iL (fb F g) s p 0 (cX d).1 ns1 fs []).fs,ns.length,0⟩:=by
    rw[fb,if_neg q,if_neg z,if_neg (by simp[z1]),if_neg (by simp[<-he]),u]
   have j9:=ru he.symm;have gB:∀i,i<h.length->(h++[VObj.tok 0 3])[i]?=h[i]?:=λi f=>aP f
   have x7:=Z.len;simp[go_sem,A,q6];refine bL (aBx h0 w F g vn vf ns1 fs d s p x3 ns.length) (cX d).1.length ⟨0,ns1,fs,[],Y,vf,rfl,aN _,g_,g_,g_,g_,g_,Q.grow s_ gB,Z.grow s_ gB,by simpa[go_sem,<-n]using lo.ownG gB go,by simpa[go_sem,<-n]using lo.grow s_,.inr ⟨h.length,by simp[go_sem,bP,pF],by simp[bP,pF]⟩,?_,?_,rfl,.refl _ _,rfl⟩ ?_
   ·intro i f;simp[go_sem,bv]at f;subst f;exact⟨x7,s_,λe=>by have:=Q.nodes.id_lt e;omega,λe=>by have:=OwnR.id_lt Q.forms e;omega⟩
   ·intro i f e;simp[go_sem,bv,<-n]at f e;have:=(lo i f).2.1;omega
   clear g0 g1 g2 g3 y3 A q6 go lo Q Z n gB x7 hk l;rintro m X h ⟨j,nj,fj,ks,k',k0,rfl,hj,g0,g3,y3,A,U,y4,y5,z7,z8,z9,y',D,k1,q9,E⟩;by_cases l:j<(cX d).1.length
   ·have I:(j:Int)<(cX d).1.length:=o_;have w2:=wS j o_;have q7:=DL (cX d).1 j l .unk;have k2:j<((cX d).1.map λa=>(eI s a.bind).1).length:=by simpa using l
    have y0:=λy=>U3 ((cX d).1.map λa=>(eI s a.bind).1) j k2 y
    have k3:=TJ ((cX d).1.map λa=>(eI s a.bind).1)[j];simp only[List.getElem_map]at y0 k3;have ca:=j9 _ (aF l);have nv:=NJ hv z1 (aF l) ca;have k4:=q9.len;have hgf:=q9.flen;rw[aI l,iL]at E;have l2:=TO (cX d).1[j];have⟨k5,n,x8⟩:=Ii z7;generalize hA:(cX d).1[j]=a at *;have hfl2:=y5.len;simp[go_sem,A,U,I];refine Yn 23 _ 16 (by rw[gM];decide) rfl k_ d_ ?_;simp only[dh,fo,dl,dO];generalize x9:h++List.replicate _ VObj.void=H0;have B:Pl h H0 16:=x9▸Pl.mk' _ 16;have hlen:=B.len;clear x9;refine bc (.ptr w 0) rfl rfl (B.isV (i:=0) d_) (by simp[opN,go_sem,g0]) (by simp only[AV.mv];rw[if_neg o_]) ?_;refine bc (.isl ((cX d).1.map il) .unk) rfl rfl (B.isV (i:=1) d_) (by simp[opN,go_sem,A]) rfl ?_;refine bc (.int .i64 j) rfl rfl (B.isV (i:=2) d_) (by simp[opN,go_sem,U]) rfl ?_;refine bc (.iptr (il a) 0) rfl rfl (B.isV (i:=3) d_) (by simp[opN,go_sem,q7]) rfl ?_;refine bc (.iptr (il a) 2) rfl rfl (B.isV (i:=4) d_) (by simp[opN,go_sem]) rfl ?_;refine eF (.iptr (il a) 2) (bB a.dem) g_ (l2 _) rfl (B.isV (i:=5) d_) rfl ?_;refine bc (X.get 13) rfl rfl (B.isV (i:=6) d_) (by simp[opN,go_sem]) (by rw[n];exact HB (λt ht=>by have:=x8 t ht;omega)) ?_;refine bc (.int .i64 j) rfl rfl (B.isV (i:=7) d_) (by simp[opN,go_sem,U]) rfl ?_;refine bc (.iptr (binds (eI s a.bind).1) 0) rfl rfl (B.isV (i:=8) d_) (by simp[opN,go_sem,n];simpa using y0 k5) rfl ?_;refine eF (.iptr (binds (eI s a.bind).1) 0) (binds (eI s a.bind).1) g_ (TJ _ _) rfl (B.isV (i:=9) d_) rfl ?_;refine pV (parts:=[]) [] (.isl [] .full) rfl rfl (xr _) (B.isV (i:=10) d_) ?_;rw[show(AV.isl [] .full).mv H0.length (h.length+10)=.isl [] .full from rfl];refine bc (.isl (bP p) x3) rfl rfl (B.isV (i:=11) d_) (by simp[opN,go_sem,g3]) (HB (λt ht=>by have:=x0 t ht;omega)) ?_;have⟨v,k6,w',v2,k7,z',ids,qq,k8,k9,g',w0,y6,pa6,y7,g4,g5,w1,w3,w4,pa13,w5⟩:=XL (H0:=H0) (b:=h.length) p x3 j o_ o_ (λi f=>B.isV f);refine nS (.isl [] .full) (.isl (bP p) x3) v k6 w' g_ g_ k8 k9 rfl (B.isV (i:=12) d_) g' ?_;refine bc (.int .i64 j) rfl rfl (y6 13 d_ d_) (by simp[opN,go_sem,U]) rfl ?_;refine pV (parts:=[(0,.tmp 115)]) [(0,.int .i64 j)] (.isl [.int .i64 j] .full) (xL g_ rfl) rfl (xq _ _) (y6 14 d_ d_) ?_;rw[show(AV.isl [.int .i64 j] .full).mv w'.length (h.length+14)=.isl [.int .i64 j] .full from rfl];refine nS (v.mv H0.length (h.length+12)) (.isl [.int .i64 j] .full) v2 k7 z' g_ g_ g4 g5 (by rw[y7];rcases w0 with e|e<;>rw[e]<;>simp) (y6 15 d_ d_) (by rw[y7];exact w1) ?_;rw[w3,y7];have gC:∀i,i<h.length->z'[i]?=h[i]?:=λi f=>by rw[w5 i f,B.old i f]
    have z0:h.length<=z'.length:=o_;obtain⟨r,h',cc,rfl,M,N,w6,q0⟩:=ih nj fj a.dem (eI s a.bind).1 (p++[(j:Int)]) z' w k' k0 .unk .unk (.tok qq) (y4.grow z0 gC) nv (by rw[aL];simp only[aG,aQ];omega) o_ o_ (λt ht=>by cases ht;exact w4);have w7:=(y5.grow z0 gC).trans q0;have y8:=y'.ownG gC z9;have q1:=y'.grow z0;have y9:=z8.ownG gC z7;have q2:=z8.grow z0;have J:=q1.own q0 q4 y8;have z3:=q2.own q0 q4 y9;have K:=q1.step q0;have L:=q2.step q0;refine⟨?_,?_⟩
    ·unfold ri;generalize hb:Region.before _=b;have g6:(b.getD 15 0).testBit 12=true:=by rw[<-hb];kernel_rfl
     clear hb;rcases w0 with rfl|rfl
     ·simp[nH,rW,ce,iV,List.range,List.range.loop]
     simp[nH,rW,ce,iV,List.range,List.range.loop];simpa[bA]using g6
    simp only[bB,binds];generalize g7:fb F g nj fj a.dem (eI s a.bind).1 (p++[(j:Int)])=RR at *;by_cases z2:RR.err=0
    ·rw[if_neg (by simp[z2])]at E;obtain⟨v17,z4⟩:∃v,v=X.get 17:=⟨_,rfl⟩
     rw[<-z4]at J K D;have⟨v',g8,ha,ho,S,q8⟩:=A6 (ys:=[(RR.ix:Int)]) (x:=.full) J (by simp only[pF,aU,aG,aQ];omega);rw[show pF ks++[(RR.ix:Int)]=pF (ks++[RR.ix]) by simp[pF]]at ho;have x6:=S.1;have⟨z5,x',g9⟩:=K.app w6 w7 q4 S q8 o_ λi f=>OwnR.id_lt ho f
     simp only[bP,aS,bD]at ha;have b53:=xq;simp[go_sem,cc,z2,<-z4,b53,ha,G z5.cell,g0,U,-Int.natCast_add,w2];refine⟨(cX d).1.length-(j+1),o_,j+1,RR.ns,RR.fs,ks++[RR.ix],M,N,rfl,l,g_,g_,g_,g_,g_,z5,x',?_,?_,by simpa[go_sem]using ho,by simpa[go_sem]using g9,?_,by simp[k1],q9.trans (g7▸B1 F g nj fj _ _ _),E⟩
     ·have:OwnR 45 g8 (X.get 13) _:=z3.keep S λi f e=>D i f e
      simpa[go_sem]using this
     ·simpa[go_sem]using L.grow x6
     intro i f e;have f:bv (X.get 13)=some i:=by simpa[go_sem]using f
     have e:bv v'=some i:=by simpa[go_sem]using e
     rcases q8 with k|⟨_,k⟩
     ·rw[k]at e;exact D i f e
     rw[k]at e;simp only[aA]at e;have:=(L i f).2.1;omega
    rw[if_pos z2]at E;rw[<-E,if_pos z2]at o;simp[go_sem,cc,z2];exact fin _ _ 0 RR.err _ _ _ _ g_ g_ o w6 w7
   have:j=(cX d).1.length:=o_;subst this;rw[ae,iL]at E;rw[<-E,if_neg s_]at o;have k4:=q9.len;have⟨y17,z4⟩:=z9.isl;have⟨id,h',e1,e2,z5,x'⟩:=y4.kids (k:=ns.length) o_ ks y17;simp[go_sem,g0,y3,A,U,G y4.cell,e1,z4,I8,e2];exact fin _ _ ns.length 0 _ _ _ _ g_ g_ o z5 (y5.trans x')
  simp[go_sem,z1];exact fin _ _ 0 (cX d).2 _ _ _ _ g_ g_ (by rw[fb,if_neg q,if_neg z,if_pos z1,u]) O q5
end Go.VZ
