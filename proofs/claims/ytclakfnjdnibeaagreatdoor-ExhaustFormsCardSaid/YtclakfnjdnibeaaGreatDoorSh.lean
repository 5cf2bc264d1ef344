/- A part of the proof. -/
import Derived.Test.YtclakfnjdnibeaaGreatDoorSg
set_option maxHeartbeats 16000000
set_option maxRecDepth 16000
namespace Go.VZ
open Go Go.V Go.Proofs Tryz TL
def GY(r:List Dm × Int):AV:=.tuple [bF r.1,.int .i64 r.2]
def Sw(l:List Dm) (s:Lb) (m:Nat) (st:PT) (h:H):Prop:=∃k:Nat,m=l.length-k/\k<=l.length/\st.get 0=bF l/\st.get 1=binds s/\st.get 9=.int .i64 k/\OwnR 41 h (st.get 8) (((l.take k).map (iR s)).map cz)/\yy s (l.drop k)=yy s l/\∀d∈l.take k,tT s d=0
theorem DN(l:List Dm) (s:Lb) (hv:bp l=0) (hs:small s) (hl:s.length<1000000):ay C 246 [bF l,binds s]=some (GY (lZ l s)):=by
 refine bD func246 rfl λR N=>?_
 have D:∀(i:PT) (h:H) (e:Int) (x:Ext),i.get 4=.isl [] x->i.get 5=.int .i64 e->lZ l s=([],e)->R .ret i h:=λi h e x X Y Z=>N ⟨.tuple [.isl [] x,.int .i64 e],by
  simp[ag,df,cG,f246,X,Y],by rw[Z];exact cw rfl rfl s_⟩
 have⟨b1,E,b3,b4,b5,b6,b7⟩:=oa hv;have O:=sR l .unk (λd f=>(E d f).1) o_;have F:=zU s hs;have b:=qo l;simp only[bF]at b;simp only[binds]at F;by_cases q:kJ s=0
 ·simp[go_sem,bF,binds,O,hv,F,q];refine bR (Sw l s) l.length ⟨0,rfl,aO _,by simp[go_sem,bF],by simp[go_sem,binds],g_,.inr ⟨1,g_,s_⟩,rfl,s_⟩ ?_;rintro m i h ⟨k,rfl,hk,j,u,w,y,f,G⟩;obtain⟨v8,A⟩:∃v,v=i.get 8:=⟨_,rfl⟩
  rw[<-A]at y;simp only[binds]at u;simp only[bF]at j;by_cases a:k<l.length
  ·have g:(k:Int)<l.length:=o_;have o:=A5 l k a .unk;have w2:=wS k o_;have r:=aG a;have I:=xE s l[k] .unk hs hl (E _ r).1;rw[aH a,yy]at f;by_cases z:tT s l[k]=0
   ·have J:=xG z;rw[if_neg (by simp[z])]at f;have K:∀d∈l.take (k+1),tT s d=0:=λd n=>by
     rw[aI a,aZ,bL]at n;rcases n with n|rfl
     ·exact G d n
     exact z
    have⟨v',h',Q,S,_,_⟩:=qP (ys:=[iR s l[k]]) (x:=.full) (OwnR.app y [.cells (dc (iR s l[k])) .live]) (by simp only[aU,ac,aF,aP];omega);rw[show(l.take k).map (iR s)++[iR s l[k]]=(l.take (k+1)).map (iR s) by rw[aI a,bY];rfl]at S;rw[J]at I;simp only[aS,au]at Q;generalize hD:l[k]=d at *;generalize iR s d=p at *;simp[go_sem,j,u,w,<-A,b,g,o,I,Cu,EN,aa,BI,Q,-Int.natCast_add,w2];exact⟨l.length-(k+1),o_,k+1,rfl,a,by simp[go_sem,j,bF],by simp[go_sem,u,binds],g_,by simpa[go_sem]using S,f,K⟩
   rw[if_pos z]at f;have M:=rH s l[k];simp[go_sem,j,u,w,b,g,o,I,Cu,EN,aa,M,z];exact D _ _ (tT s l[k]) (.tok (h.length+1)) g_ g_ (by rw[lZ,if_neg (by simp[hv]),if_neg (by simp[q]),if_pos (by rw[<-f];exact z),<-f])
  have:k=l.length:=o_;subst this;rw[aj,yy]at f;rw[ao]at y G;have⟨x,U⟩:=y.isl;have c3:=sR (l.map (iR s)) x (λd n=>by obtain⟨c,V,rfl⟩:=bA.1 n;have⟨z1,z2⟩:=Db (G c V);have:=(E c V).2;exact⟨λt ht=>by have:=z1 t ht;omega,o_,by simp[iR];omega⟩) (by simp;omega)
  have B:lZ l s=if bp (l.map (iR s))≠0 then([],bp (l.map (iR s)))else(l.map (iR s),0):=by rw[lZ,if_neg (by simp[hv]),if_neg (by simp[q]),if_neg (by simp[<-f])]
  generalize l.map (iR s)=L at *;by_cases z:bp L=0
  ·rw[if_neg (by simp[z])]at B;simp[go_sem,j,w,<-A,U,b,c3,z];exact N ⟨.tuple [.isl (L.map cz) x,.int .i64 0],by simp[ag,df,cG,f246,go_sem],by rw[B];exact cw rfl rfl s_⟩
  rw[if_pos z]at B;simp[go_sem,j,w,<-A,U,b,c3,z];exact D _ _ _ (.tok h.length) g_ g_ B
 simp[go_sem,bF,binds,O,hv,F,q];exact D _ _ (kJ s) (.tok 1) g_ g_ (by rw[lZ,if_neg (by simp[hv]),if_pos q])
theorem MF(l:List Dm) (s:Lb) (x y:Ext) (hv:bp l=0) (hs:small s) (hl:s.length<1000000) (h:H):az C h (.func 246 []) (some [.isl (l.map cz) x,.isl (s.map bN) y])=some (GY (lZ l s),h):=ah (args':=[bF l,binds s]) rfl rfl s_ (DN l s hv hs hl)
def V6(x y:T) (l:Lb) (m:Nat) (st:PT) (h:H):Prop:=∃(k:Nat) (v:AV) (o:Lb) (d:Bool),m=l.length-k/\k<=l.length/\o.length<=k+d.toNat/\h[0]?=some (.cells (enc x).cells .live)/\h[1]?=some (.cells (enc y).cells .live)/\st.get 0=binds l/\st.get 4=.ptr 0 0/\st.get 5=.ptr 1 0/\st.get 7=v/\st.get 8=.bool d/\st.get 9=.int .i64 k /\
 OwnR 84 h v (o.map bN)/\jg (x,y) l=(if d=true then o++l.drop k else o++jg (x,y) (l.drop k))
theorem Pa(x y:T) (l:Lb) (hx:x.size<4000000) (hy:y.size<4000000) (hs:small l) (hl:l.length<4000000) (hne:x.cmp y≠0):ay C 135 [binds l,enc x,enc y]=some (binds (jg (x,y) l)):=by
 refine bD func135 rfl λR Z=>?_
 have t:aX C.P [.cells (enc x).cells .live,.cells (enc y).cells .live,.tok 0 84] 39 (.ptr 0 0)=some (enc x):=gH rfl;have D:aX C.P [.cells (enc x).cells .live,.cells (enc y).cells .live,.tok 0 84] 39 (.ptr 1 0)=some (enc y):=gH rfl;have cs:=lg x y hx hy;simp[go_sem,CR,t,D,cs,hne];refine bR (V6 x y l) l.length ⟨0,.isl [] (.tok 3),[],false,rfl,aO _,s_,rfl,rfl,g_,g_,g_,g_,g_,g_,.inr ⟨3,rfl,rfl⟩,s_⟩ ?_;clear t D;rintro m M h ⟨k,v,o,d,rfl,hk,u,j,n,E,N,V,F,G,I,b,c⟩;have t:=gH j;have D:=gH n;have q':d.toNat<=1:=by cases d<;>decide
 by_cases a:k<l.length
 ·have e:(k:Int)<l.length:=o_;have w:bP C.P 45 (binds l) (.int .i64 k)=some (.iptr (bN l[k]) 0):=pH l k a _;have hb:=hs _ (aG a);have O:=wS k o_;have z:=aH a;have s:=rG x l[k].1 hx hb.1;have X:=jf l[k];have⟨Y,h1,A,J,p,q0⟩:=jb (ys:=[l[k]]) (x:=.full) b (by simp only[aF,aP];omega);simp only[aS,au]at A;cases d
  ·by_cases q:x.cmp l[k].1<0
   ·have⟨v2,h2,f,g,i,Q⟩:=jb (ys:=[(x,y)]) (x:=.full) b (by simp only[aF,aP];omega);have⟨v3,h3,K,S,L,q1⟩:=jb (ys:=[l[k]]) (x:=.full) g (by simp only[aF,aP,aK];omega);simp only[aS,au]at f K;have U:=th x y;simp[go_sem,E,N,V,F,G,I,wB,e,w,pJ,t,D,X,s,q,U,nq,eV,f,K,E9,-Int.natCast_add,O];refine⟨l.length-(k+1),o_,k+1,v3,_,true,rfl,a,?_,L.get (i.get j (cK b j)) (cK g (i.get j (cK b j))),L.get (i.get n (cK b n)) (cK g (i.get n (cK b n))),g_,g_,g_,g_,g_,g_,S,?_⟩
    ·simp at u ⊢;omega
    rw[c,z];simp[jg,q]
   simp[go_sem,E,N,F,G,I,wB,e,w,pJ,t,X,s,q,nq,eV,A,E9,-Int.natCast_add,O];refine⟨l.length-(k+1),o_,k+1,Y,_,false,rfl,a,by simp at u ⊢;omega,p.get j (cK b j),p.get n (cK b n),g_,g_,g_,g_,g_,g_,J,?_⟩;rw[c,z];simp[jg,q]
  simp[go_sem,E,N,F,G,I,wB,e,w,t,nq,eV,A,E9,-Int.natCast_add,O];refine⟨l.length-(k+1),o_,k+1,Y,_,true,rfl,a,by simp at u ⊢;omega,p.get j (cK b j),p.get n (cK b n),g_,g_,g_,g_,g_,g_,J,?_⟩;rw[c,z];simp
 have:k=l.length:=o_;subst this;have fin:∀(M:PT) (h:H) (r:Lb) (B:Ext),M.get 6=.isl (r.map bN) B->jg (x,y) l=r->R .ret M h:=λM h r B h6 he=>by refine Z ⟨.isl (r.map bN) B,by simp[ag,cG,f135,h6],?_⟩;rw[he];exact aL rfl rfl
 cases d
 ·have⟨v2,h2,f,g,i,Q⟩:=jb (ys:=[(x,y)]) (x:=.full) b (by simp only[aF,aP];omega);simp only[aS,au]at f;obtain⟨B,rfl⟩:=g.isl;have U:=th x y;simp[go_sem,E,N,V,F,G,I,wB,t,D,U,nq,eV,f];exact fin _ _ (o++[(x,y)]) B g_ (by rw[c];simp[jg])
 obtain⟨B,rfl⟩:=b.isl;simp[go_sem,E,F,G,I,wB];exact fin _ _ o B g_ (by rw[c];simp)
theorem PH(x y:T) (l:Lb) (e:Ext) (hx:x.size<4000000) (hy:y.size<4000000) (hs:small l) (hl:l.length<4000000) (hne:x.cmp y≠0) (h:H):az C h (.func 135 []) (some [.isl (l.map bN) e,enc x,enc y])=some (binds (jg (x,y) l),h):=
 ah (args':=[binds l,enc x,enc y]) (by rw[bJ x,bJ y];rfl) (by simp[aw];rfl) s_ (Pa x y l hx hy hs hl hne)
theorem PY(x y:T) (l:Lb) (hx:x.size<4000000) (hy:y.size<4000000) (he:x.cmp y=0):ay C 135 [binds l,enc x,enc y]=some (binds l):=by
 refine bD func135 rfl λR a=>?_
 have b:aX C.P [.cells (enc x).cells .live,.cells (enc y).cells .live,.tok 0 84] 39 (.ptr 0 0)=some (enc x):=gH rfl;have c:aX C.P [.cells (enc x).cells .live,.cells (enc y).cells .live,.tok 0 84] 39 (.ptr 1 0)=some (enc y):=gH rfl;have d:=lg x y hx hy;simp[go_sem,CR,b,c,d,he];exact a ⟨binds l,by simp[ag,cG,f135,go_sem],aL rfl rfl⟩
theorem Dx(b:T × T) (l:Lb) (e:Ext) (hx:b.1.size<4000000) (hy:b.2.size<4000000) (hs:small l) (hl:l.length<4000000) (h:H):az C h (.func 135 []) (some [.isl (l.map bN) e,enc b.1,enc b.2])=some (binds (mG l b),h):=by
 have⟨x,y⟩:=b;by_cases a:x.cmp y=0
 ·rw[mG,if_pos a];exact ah (args':=[binds l,enc x,enc y]) (by rw[bJ x,bJ y];rfl) (by simp[aw];rfl) s_ (PY x y l hx hy a)
 rw[mG,if_neg a];exact PH x y l e hx hy hs hl a h
theorem D5{l:Lb}{b:T × T}(hs:small l) (hb:b.1.size<4000000/\b.2.size<4000000):small (mG l b):=by
 unfold mG;split
 ·exact hs
 intro c a;rcases aZ.1 ((lD b l).mem_iff.1 a)with a|a
 ·exact hs c a
 rw[bL.1 a];exact hb
theorem Jd(l:Lb) (b:T × T):(mG l b).length<=l.length+1:=by
 unfold mG;split
 ·omega
 rw[LB];omega
def Vt(s:Lb) (v:T) (m:Nat) (st:PT) (h:H):Prop:=∃k:Nat,m=s.length-k/\k<=s.length/\st.get 0=binds s/\st.get 3=.ptr 0 0/\st.get 5=.int .i64 k/\h=[.cells (enc v).cells .live]/\inS (s.drop k) v=inS s v
theorem MR(s:Lb) (v:T) (hs:small s) (hl:s.length<1000000) (hv:v.size<4000000):ay C 136 [binds s,enc v]=some (.bool (inS s v)):=by
 refine bD func136 rfl λR i=>?_
 have f:fW C.P 45 (.isl (s.map bN) .unk)=some (.int .i64 s.length):=by rw[nT,aU]
 simp[go_sem];refine bR (Vt s v) s.length ⟨0,rfl,aO _,g_,g_,g_,by simp[bB],rfl⟩ ?_;rintro m o h ⟨k,rfl,p,c,j,g,rfl,d⟩;simp only[binds]at c;by_cases a:k<s.length
 ·have b:(k:Int)<s.length:=o_;have e:=pH s k a .unk;have n:=wS k o_;have l:=lg s[k].1 v (hs _ (aG a)).1 hv;rw[aH a,inS,List.any_cons]at d;by_cases z:s[k].1.cmp v=0
  ·simp[go_sem,c,j,g,f,b,e,jf,l,z];exact i ⟨.bool true,by simp[ag,cG,f136,go_sem],by rw[<-d];simp only[z,decide_true,Bool.true_or];exact aL rfl rfl⟩
  simp[go_sem,c,j,g,f,b,e,jf,l,z,-Int.natCast_add,n];exact⟨s.length-(k+1),o_,k+1,rfl,a,by simp[go_sem,c,binds],g_,g_,rfl,by rw[<-d];simp[inS,z]⟩
 have:k=s.length:=o_;subst this;rw[aj]at d;simp[go_sem,c,g,f];exact i ⟨.bool false,by simp[ag,cG,f136,go_sem],by rw[<-d];exact aL rfl rfl⟩
theorem JX(s:Lb) (x:Ext) (v:T) (hs:small s) (hl:s.length<1000000) (hv:v.size<4000000) (h:H):az C h (.func 136 []) (some [.isl (s.map bN) x,enc v])=some (.bool (inS s v),h):=ah (args':=[binds s,enc v]) (by rw[bJ];rfl) (by rw[bJ];rfl) s_ (MR s v hs hl hv)
theorem sM{o:Lb}:∀ {l:Lb},small o->small l->small (l.foldl mG o)
 |[],h,_=>h
 |b::l,h,hl=>sM (l:=l) (D5 h (hl b s_)) λc hc=>hl c (by simp[hc])
theorem wK:∀(l o:Lb),(l.foldl mG o).length<=o.length+l.length
 |[],o=>s_
 |b::l,o=>by have h1:=wK l (mG o b);have a:=Jd o b;rw[fT,aF];omega
def rM(r:Lb × Int):AV:=.tuple [binds r.1,.int .i64 r.2]
def xU(s u:Lb) (k:Nat):Lb:=((s.take k).map λb=>(b.1,cE u b.2)).foldl mG []
def uJ(s u:Lb) (k:Nat):Lb:=(((s.map λb=>(b.1,cE u b.2))++(u.take k).filter λb=>!inS s b.1)).foldl mG []
def YL(s u:Lb) (m:Nat) (st:PT) (_h:H):Prop:=∃(k:Nat) (x:Ext),m=s.length-k/\k<=s.length/\st.get 0=binds s/\st.get 1=binds u/\st.get 9=.int .i64 k/\st.get 8=.isl ((xU s u k).map bN) x/\lf u ((s.drop k).map (·.2))=lf u (s.map (·.2))/\∀b∈s.take k,(cE u b.2).size<=400
def YK(s u:Lb) (m:Nat) (st:PT) (_h:H):Prop:=∃(k:Nat) (x:Ext),m=u.length-k/\k<=u.length/\st.get 0=binds s/\st.get 1=binds u/\st.get 12=.int .i64 k/\st.get 8=.isl ((uJ s u k).map bN) x
theorem JF(s u:Lb) (hs:small s) (hu:small u) (hsl:s.length<1000000) (hul:u.length<1000000):ay C 90 [binds s,binds u]=some (rM (eG s u)):=by
 refine bD func90 rfl λR Z=>?_
 have I:∀(w:PT) (h:H) (e:Int) (x:Ext),w.get 4=.isl [] x->w.get 5=.int .i64 e->eG s u=([],e)->R .ret w h:=λw h e x h4 h5 he=>Z ⟨.tuple [.isl [] x,.int .i64 e],by
  simp[ag,df,cG,f90,h4,h5],by rw[he];exact cw rfl rfl s_⟩
 have J:=zU s hs;have Q:=zU u hu;simp only[binds]at J Q;have S:fW C.P 45 (.isl (s.map bN) .unk)=some (.int .i64 s.length):=by rw[nT,aU]
 have K:fW C.P 45 (.isl (u.map bN) .unk)=some (.int .i64 u.length):=by rw[nT,aU]
 by_cases t:kJ s=0
 ·by_cases y:kJ u=0
  ·have⟨_,s1,U⟩:=rg t;have⟨_,u1,u2⟩:=rg y;simp[go_sem,binds,J,Q,t,y];refine bR (YL s u) s.length ⟨0,_,rfl,aO _,by simp[go_sem,binds],by simp[go_sem,binds],g_,by simp[go_sem,xU];rfl,rfl,s_⟩ ?_;rintro m w h ⟨k,x,rfl,hk,i,g,L,n,l,M⟩;simp only[binds]at i g;have o:small (xU s u k):=sM (by intro b d;cases d) λb d=>by obtain⟨c,E,rfl⟩:=bA.1 d;have:=U c (bX E);have:=M c E;exact⟨by dsimp only;omega,by dsimp only;omega⟩
   have v:=wK ((s.take k).map λb=>(b.1,cE u b.2)) [];simp only[aU,ac,aP]at v;by_cases a:k<s.length
   ·have f:(k:Int)<s.length:=o_;have j:=pH s k a .unk;have N:=wS k o_;have V:=U _ (aG a);have O:=F9 u s[k].2 hu o_ hul;simp only[binds]at O;rw[aH a,aS,lf]at l;by_cases z:AM u s[k].2=0
    ·rw[if_neg (by simp[z])]at l;rw[Ma z]at O;have hp:=(cT (tJ z).1).2.1;have B:=Dx (s[k].1,cE u s[k].2) (xU s u k) x (by dsimp only;omega) (by dsimp only;omega) o (by unfold xU;omega);rw[show mG (xU s u k) (s[k].1,cE u s[k].2)=xU s u (k+1) by rw[xU,xU,aI a,bY,List.foldl_append];rfl]at B;dsimp only at B;generalize X:xU s u (k+1)=A at *;generalize Y:cE u s[k].2=p at *;simp[go_sem,i,g,n,L,S,f,j,jf,kL,O,gX,lw,aa,B,-Int.natCast_add,N];exact⟨s.length-(k+1),o_,k+1,.unk,rfl,a,by simp[go_sem,i,binds],by simp[go_sem,g,binds],g_,by rw[X];simp[go_sem,binds],l,λb d=>by
      rw[aI a,aZ,bL]at d;rcases d with d|rfl
      ·exact M b d
      rw[Y];exact hp⟩
    rw[if_pos z]at l;have D:¬(fB u s[k].2).2=0:=z;simp[go_sem,i,g,L,S,f,j,kL,O,gX,lw,aa,D];exact I _ _ (fB u s[k].2).2 (.tok (h.length+1)) g_ g_ (by
     have:lf u (s.map (·.2))=(fB u s[k].2).2:=l.symm;rw[eG,if_neg (by simp[t]),if_neg (by simp[y]),if_pos (by rw[this];exact D),this])
   have:k=s.length:=o_;subst this;rw[aj]at l;rw[ao]at M;have l:lf u (s.map (·.2))=0:=l.symm;have F:eG s u=if 200<(kV s u).length then([],3)else(kV s u,0):=by rw[eG,if_neg (by simp[t]),if_neg (by simp[y]),if_neg (by simp[l])]
   have G:xU s u s.length=uJ s u 0:=by simp[xU,uJ]
   rw[G]at n;simp[go_sem,i,L,S];refine bR (YK s u) u.length ⟨0,x,rfl,aO _,by simp[go_sem,i,binds],by simp[go_sem,g,binds],g_,g_⟩ ?_;clear i g n L l a hk o v G;rintro m w h ⟨k,x,rfl,hk,i,g,q,n⟩;simp only[binds]at i g;have o:small (uJ s u k):=sM (by intro b d;cases d) λb d=>by
    rcases aZ.1 d with d|d
    ·obtain⟨c,E,rfl⟩:=bA.1 d;have:=U c E;have:=M c E;exact⟨by dsimp only;omega,by dsimp only;omega⟩
    have:=u2 b (bX (bm.1 d).1);exact⟨o_,o_⟩
   have v:(uJ s u k).length<=s.length+u.length:=by have h1:=wK ((s.map λb=>(b.1,cE u b.2))++(u.take k).filter λb=>!inS s b.1) [];have h2:=cO (λb:T × T=>!inS s b.1) (u.take k);simp only[aK,aU,aP,ac]at h1 h2;unfold uJ;omega
   by_cases a:k<u.length
   ·have f:(k:Int)<u.length:=o_;have j:=pH u k a .unk;have N:=wS k o_;have V:=u2 _ (aG a);have B:=JX s .unk u[k].1 hs hsl o_;have r:uJ s u (k+1)=if inS s u[k].1=true then uJ s u k else mG (uJ s u k) u[k]:=by
     rw[uJ,uJ,aI a,fi,<-dD,List.foldl_append];by_cases d:inS s u[k].1=true
     ·simp[d]
     simp[d]
    cases z:inS s u[k].1 with
    |true=>rw[z,if_pos rfl]at r;simp[go_sem,i,g,q,K,f,j,jf,B,z,-Int.natCast_add,N];exact⟨u.length-(k+1),o_,k+1,x,rfl,a,by simp[go_sem,i,binds],by simp[go_sem,g,binds],g_,by rw[r];simp[go_sem,n]⟩
    |false=>rw[z,if_neg s_]at r;have cc:=Dx u[k] (uJ s u k) x o_ o_ o o_;rw[<-r]at cc;generalize X:uJ s u (k+1)=A at *;simp[go_sem,i,g,n,q,K,f,j,jf,kL,B,z,cc,-Int.natCast_add,N];exact⟨u.length-(k+1),o_,k+1,.unk,rfl,a,by simp[go_sem,i,binds],by simp[go_sem,g,binds],g_,by rw[X];simp[go_sem,binds]⟩
   have:k=u.length:=o_;subst this;have hC:uJ s u u.length=kV s u:=by rw[uJ,ao];rfl
   rw[hC]at n;have lc:fW C.P 45 (.isl ((kV s u).map bN) x)=some (.int .i64 (kV s u).length):=by rw[nT,aU]
   generalize kV s u=c at *;by_cases z:200<c.length
   ·have D:(200:Int)<c.length:=o_;simp[go_sem,g,n,q,K,lc,D];exact I _ _ 3 (.tok h.length) g_ g_ (by rw[F,if_pos z])
   have D:¬(200:Int)<c.length:=o_;simp[go_sem,g,n,q,K,lc,D];exact Z ⟨.tuple [.isl (c.map bN) x,.int .i64 0],by simp[ag,df,cG,f90,go_sem],by rw[F,if_neg z];exact cw rfl rfl s_⟩
  simp[go_sem,binds,J,Q,t,y];exact I _ _ (kJ u) (.tok 1) g_ g_ (by rw[eG,if_neg (by simp[t]),if_pos y])
 simp[go_sem,binds,J,t];exact I _ _ (kJ s) (.tok 1) g_ g_ (by rw[eG,if_pos t])
theorem MJ(s u:Lb) (x y:Ext) (hs:small s) (hu:small u) (hsl:s.length<1000000) (hul:u.length<1000000) (h:H):az C h (.func 90 []) (some [.isl (s.map bN) x,.isl (u.map bN) y])=some (rM (eG s u),h):=ah (args':=[binds s,binds u]) rfl rfl s_ (JF s u hs hu hsl hul)
def iU(a:Al):AV:=.agg [.int .i64 a.rule,binds a.bind,bF a.dem]
theorem Jz:C.P.underlying 124=some (.slice 130):=underlying124
theorem NU:cS C.P 130=some 3:=k_
theorem Xz:gl C.P 130=some 56:=k_
theorem QX:fe C.P 130=true:=k_
theorem Ue:iG C.P 124=some 130:=k_
attribute [go_sem] Ue
theorem mT(a:Al):(iU a).cells=[.int .i64 a.rule,binds a.bind,bF a.dem]:=rfl
theorem GS(l:List Al):iN 3 (l.map iU)=true:=by cases l<;>rfl
theorem OV(e:AV):bH C.P 130 (.iptr e 0) 0=some (.iptr e 0):=k_
theorem OU(e:AV):bH C.P 130 (.iptr e 0) 1=some (.iptr e 1):=k_
theorem OT(e:AV):bH C.P 130 (.iptr e 0) 2=some (.iptr e 2):=k_
theorem UT(a:Al) (h:H):aX C.P h 3 (.iptr (iU a) 0)=some (.int .i64 a.rule):=by simp[aX,ae,a3,s3,mT]
theorem K4(a:Al) (h:H):aX C.P h 45 (.iptr (iU a) 1)=some (binds a.bind):=by have a45:eW C.P 45=some false:=k_;have s45:cS C.P 45=some 1:=k_;simp[aX,ae,a45,s45,mT]
theorem QG(a:Al) (h:H):aX C.P h 22 (.iptr (iU a) 2)=some (bF a.dem):=by simp[aX,ae,a22,s22,mT]
attribute [go_sem] OV OU OT UT K4 QG
@[go_sem] theorem XX (l:List Al) (x:Ext):fW C.P 124 (.isl (l.map iU) x)=some (.int .i64 l.length):=by simp[fW,Jz]
theorem FH(l:List Al) (k:Nat) (hk:k<l.length) (x:Ext):bP C.P 124 (.isl (l.map iU) x) (.int .i64 k)=some (.iptr (iU l[k]) 0):=by simp[bP,Jz,NU,hk,mT]
theorem GC(h:H) (a:Al) (x y:Ext):cQ C.P h 124 1 [(0,.agg [.int .i64 a.rule,.isl (a.bind.map bN) x,.isl (a.dem.map cz) y])]=some (.isl [iU a] .full,h):=cW Jz NU QX rfl o_ rfl rfl rfl (by simp) rfl
def H6(r:List Al × Int):AV:=.tuple [.isl (r.1.map iU) .unk,.int .i64 r.2]
def YC(a b:Lb) (m:Nat) (st:PT) (h:H):Prop:=∃k:Nat,m=a.length-k/\k<=a.length/\h=[]/\st.get 0=binds a/\st.get 1=binds b/\st.get 5=.int .i64 k/\a.take k=b.take k
theorem Qy(a b:Lb) (ha:small a) (hb:small b) (hal:a.length<1000000):ay C 55 [binds a,binds b]=some (.bool (decide (a=b))):=by
 refine gu rfl func55 rfl k_ (by simp[f55]) λR B=>?_
 have fin:∀(e:Ex) (r:PT) (h:H) (c:Bool),e=.normal\/e=.ret->r.get 4=.bool c->decide (a=b)=c->R e r h:=λe r h c p D E=>B _ _ _ p ⟨.bool c,by simp[ag,cG,f55,D],by rw[E];exact aL rfl rfl⟩
 have n:fW C.P 45 (.isl (a.map bN) .unk)=some (.int .i64 a.length):=by rw[nT,aU]
 have v:fW C.P 45 (.isl (b.map bN) .unk)=some (.int .i64 b.length):=by rw[nT,aU]
 by_cases w:a.length=b.length
 ·have j:(a.length:Int)=b.length:=o_;simp[go_sem,binds,n,v,j];refine bR (YC a b) a.length ⟨0,rfl,aO _,rfl,by simp[go_sem,binds],by simp[go_sem,binds],g_,rfl⟩ ?_;rintro m r h ⟨k,rfl,G,rfl,o,q,s,p⟩;simp only[binds]at o q;by_cases i:k<a.length
  ·have d:(k:Int)<a.length:=o_;have f:k<b.length:=o_;have l:=pH a k i .unk;have g:=pH b k f .unk;have F:=wS k o_;have x:=ha _ (aG i);have y:=hb _ (aG f);have u:=lg a[k].1 b[k].1 x.1 y.1;have A:=lg a[k].2 b[k].2 x.2 y.2;by_cases z:a[k].1.cmp b[k].1=0
   ·by_cases t:a[k].2.cmp b[k].2=0
    ·simp +contextual [go_sem,o,q,s,n,d,l,g,jf,kL,u,A,z,t,-Int.natCast_add,F];refine⟨a.length-(k+1),o_,k+1,rfl,i,rfl,by simp[go_sem,o,binds],by simp[go_sem,q,binds],g_,?_⟩;rw[aI i,aI f,p];congr 2
     exact Prod.ext (cmp_zero.1 z) (cmp_zero.1 t)
    simp +contextual [go_sem,o,q,s,n,d,l,g,jf,kL,u,A,z,t];refine fin _ _ _ false (.inr rfl) g_ (decide_eq_false λe=>t ?_);subst e;exact cmp_zero.2 rfl
   simp +contextual [go_sem,o,q,s,n,d,l,g,jf,kL,u,z];refine fin _ _ _ false (.inr rfl) g_ (decide_eq_false λe=>z ?_);subst e;exact cmp_zero.2 rfl
  have:k=a.length:=o_;subst this;rw[ao,w,ao]at p;simp[go_sem,o,s,n];exact fin _ _ _ true (.inr rfl) g_ (decide_eq_true p)
 have j:¬(a.length:Int)=b.length:=o_;simp[go_sem,binds,n,v,j];refine fin _ _ _ false (.inr rfl) g_ (decide_eq_false λe=>w (by rw[e]))
theorem JR(a b:Lb) (x y:Ext) (ha:small a) (hb:small b) (hal:a.length<1000000) (h:H):az C h (.func 55 []) (some [.isl (a.map bN) x,.isl (b.map bN) y])=some (.bool (decide (a=b)),h):=ah (args':=[binds a,binds b]) rfl rfl s_ (Qy a b ha hb hal)
def rR(rule:Int) (s:Lb):Nat->List Al->Int
 |_,[]=>-1
 |k,a::l=>if a.rule=rule/\a.bind=s then k else rR rule s (k+1) l
theorem A7(rule:Int) (s:Lb):∀(l:List Al) (k:Nat),decide (0<=rR rule s k l)=Bx l rule s
 |[],k=>by simp[rR,Bx]
 |a::l,k=>by
  rw[rR,Bx,List.any_cons];by_cases h:a.rule=rule/\a.bind=s
  ·rw[if_pos h];simp[h]
  rw[if_neg h,A7 rule s l (k+1),Bx];have:(decide (a.rule=rule)&&decide (a.bind=s))=false:=by simpa using h
  rw[this,ml]
def tz(l:List Al):Prop:=∀a∈l,small a.bind/\a.bind.length<1000000
def YI(l:List Al) (rule:Int) (s:Lb) (m:Nat) (st:PT) (h:H):Prop:=∃k:Nat,m=l.length-k/\k<=l.length/\h=[]/\st.get 0=.isl (l.map iU) .unk/\st.get 1=.int .i64 rule/\st.get 2=binds s/\st.get 7=.int .i64 k/\rR rule s k (l.drop k)=rR rule s 0 l
theorem OH(l:List Al) (rule:Int) (s:Lb) (hl:tz l) (hs:small s) (hll:l.length<1000000):ay C 297 [.isl (l.map iU) .unk,.int .i64 rule,binds s]=some (.int .i64 (rR rule s 0 l)):=by
 refine gu rfl func297 rfl k_ (by simp[f297]) λR v=>?_
 have fin:∀(e:Ex) (i:PT) (h:H) (c:Int),e=.normal\/e=.ret->i.get 6=.int .i64 c->rR rule s 0 l=c->R e i h:=λe i h c a w x=>v _ _ _ a ⟨.int .i64 c,by simp[ag,cG,f297,w],by rw[x];exact aL rfl rfl⟩
 simp[go_sem];refine bR (YI l rule s) l.length ⟨0,rfl,aO _,rfl,g_,g_,by simp[go_sem,binds],g_,rfl⟩ ?_;rintro m i h ⟨k,rfl,y,rfl,j,q,g,n,a⟩;simp only[binds]at g;by_cases b:k<l.length
 ·have d:(k:Int)<l.length:=o_;have f:=FH l k b .unk;have t:=wS k o_;have u:=hl _ (aG b);have r:=JR l[k].bind s .unk .unk u.1 hs u.2;have o:=K4 l[k];simp only[binds]at o;rw[aH b,rR]at a;by_cases z:l[k].rule=rule
  ·by_cases p:l[k].bind=s
   ·rw[if_pos ⟨z,p⟩]at a;rw[p]at r o;simp +contextual [go_sem,j,q,g,n,d,f,o,r,z];exact fin _ _ _ k (.inr rfl) g_ a.symm
   rw[if_neg λh=>p h.2]at a;simp +contextual [go_sem,j,q,g,n,d,f,o,r,z,p,-Int.natCast_add,t];exact⟨l.length-(k+1),o_,k+1,rfl,b,rfl,g_,g_,by simp[go_sem,g,binds],g_,a⟩
  rw[if_neg λh=>z h.1]at a;simp +contextual [go_sem,j,q,n,d,f,z,-Int.natCast_add,t];exact⟨l.length-(k+1),o_,k+1,rfl,b,rfl,g_,g_,by simp[go_sem,g,binds],g_,a⟩
 have:k=l.length:=o_;subst this;rw[aj,rR]at a;simp[go_sem,j,n];exact fin _ _ _ (-1) (.inr rfl) g_ a.symm
theorem MH(l:List Al) (x y:Ext) (rule:Int) (s:Lb) (hl:tz l) (hs:small s) (hll:l.length<1000000) (h:H):az C h (.func 297 []) (some [.isl (l.map iU) x,.int .i64 rule,.isl (s.map bN) y])=some (.int .i64 (rR rule s 0 l),h):=ah (args':=[.isl (l.map iU) .unk,.int .i64 rule,binds s]) rfl rfl s_ (OH l rule s hl hs hll)
theorem Rx(l:List Al) (rule:Int) (s:Lb) (hl:tz l) (hs:small s) (hll:l.length<1000000):ay C 245 [.isl (l.map iU) .unk,.int .i64 rule,binds s]=some (.bool (Bx l rule s)):=by
 refine bD func245 rfl λR a=>?_
 have b:=MH l .unk .unk rule s hl hs hll;have e:=A7 rule s l 0;simp[go_sem,binds,b];exact a ⟨.bool (decide (0<=rR rule s 0 l)),by simp[ag,cG,f245,go_sem],by rw[<-e];exact aL rfl rfl⟩
theorem MG(l:List Al) (x y:Ext) (rule:Int) (s:Lb) (hl:tz l) (hs:small s) (hll:l.length<1000000) (h:H):az C h (.func 245 []) (some [.isl (l.map iU) x,.int .i64 rule,.isl (s.map bN) y])=some (.bool (Bx l rule s),h):=ah (args':=[.isl (l.map iU) .unk,.int .i64 rule,binds s]) rfl rfl s_ (Rx l rule s hl hs hll)
theorem PP(t u:T) (ht:bc t=0) (hu:bc u=0):ay C 295 [enc t,enc u]=some (.int .i64 0):=by
 refine bD func295 rfl λR c=>?_
 have d:=(cT ht).2.1;have e:=(cT hu).2.1;have a:=kq t o_;have b:=kq u o_;rw[ht]at a;rw[hu]at b;simp[go_sem,a,b];exact c ⟨.int .i64 0,by simp[ag,cG,f295,go_sem],aL rfl rfl⟩
theorem MK(t u:T) (ht:bc t=0) (hu:bc u=0) (h:H):az C h (.func 295 []) (some [enc t,enc u])=some (.int .i64 0,h):=ah (args':=[enc t,enc u]) (by rw[bJ t,bJ u];rfl) (by rw[bJ t,bJ u];rfl) s_ (PP t u ht hu)
theorem SX(a b:T):fZ C.P 283 [(0,enc a),(1,enc b)]=some (bN (a,b)):=by
 rw[bJ a,bJ b];have e:∀(k s k' s':Int) (n n':ByteArray) (l l':LA),fZ C.P 283 [(0,.agg [.int .i64 k,.str n,.int .i64 s,.isl l .unk]),(1,.agg [.int .i64 k',.str n',.int .i64 s',.isl l' .unk])]=some (.agg [.int .i64 k,.str n,.int .i64 s,.isl l .unk,.int .i64 k',.str n',.int .i64 s',.isl l' .unk]):=λ_ _ _ _ _ _ _ _=>k_
 exact e _ _ _ _ _ _ _ _
theorem Jy(t u:T) (ht:bc t=0) (hu:bc u=0):ay C 244 [enc t,enc u]=some (rM (fR t u)):=by
 refine bD func244 rfl λR a=>?_
 have b:=MK t u ht hu;have c:=PG [(t,u)] (fR t u).1 (fR t u).2 .full;have c3:=λh=>c h (yH ht hu).1
 simp only[aS,au]at c3;have d:=SX t u;simp[go_sem,b,d,nq,mW,c3];refine a ⟨rM (fR t u),by simp[ag,df,cG,f244,go_sem,rM],cw rfl rfl s_⟩
theorem MA(t u:T) (ht:bc t=0) (hu:bc u=0) (h:H):az C h (.func 244 []) (some [enc t,enc u])=some (rM (fR t u),h):=ah (args':=[enc t,enc u]) (by rw[bJ t,bJ u];rfl) (by rw[bJ t,bJ u];rfl) s_ (Jy t u ht hu)
theorem Hl(l:Lq):(ft l).length<=sizes l:=by
 refine cM (mq _) ?_;induction l with
 |nil=>simp
 |cons a l b=>have:=kB bS jI a;rw[cD,aK,sizes];omega
@[go_sem] theorem UD (l:Lq):bV (aQ l)=true:=(rfl)
def Vm(u:Lq) (m:Nat) (st:PT) (h:H):Prop:=∃k:Nat,m=u.length-k/\k<=u.length/\st.get 4=aQ u/\st.get 5=.int .i64 k/\OwnR 39 h (st.get 3) (((u.take k).filter λt=>decide (t.kind≠1)).map enc)
theorem Ka(l:Lq) (hs:sizes l<4000000):ay C 188 [aQ l]=some (aQ (du l)):=by
 refine bD func188 rfl λR r=>?_
 have g:=zO l .unk hs;have s:du l=(ft l).filter λt=>decide (t.kind≠1):=rfl
 have w:=Hl l;simp only[aQ]at g;simp[go_sem,aQ,g];clear g;generalize ft l=u at *;refine bR (Vm u) u.length ⟨0,rfl,aO _,by simp[go_sem,aQ],g_,.inr ⟨1,g_,s_⟩⟩ ?_;rintro m y h ⟨k,rfl,B,i,j,d⟩;obtain⟨D,f⟩:∃v,v=y.get 3:=⟨_,rfl⟩
 rw[<-f]at d;by_cases a:k<u.length
 ·have c:(k:Int)<u.length:=o_;have e:=fL u k a;have o:=wS k o_;have n:=cO (λt:T=>decide (t.kind≠1)) (u.take k);rw[ac]at n;have b:(u.take (k+1)).filter (λt=>decide (t.kind≠1))=(u.take k).filter (λt=>decide (t.kind≠1))++if u[k].kind≠1 then [u[k]]else []:=by rw[aI a,fi];by_cases z:u[k].kind=1<;>simp[z]
  by_cases z:u[k].kind=1
  ·rw[if_neg (by simp[z]),cC]at b;simp[go_sem,i,j,c,e,z,-Int.natCast_add,o];exact⟨u.length-(k+1),o_,k+1,rfl,a,g_,g_,by rw[b];simpa[go_sem,<-f]using d⟩
  rw[if_pos z]at b;have⟨E,F,p,q,_,_⟩:=dz (ys:=[u[k]]) (x:=.full) d (by simp only[aF,aP];omega);rw[<-b]at q;simp only[aS,au]at p;simp[go_sem,i,j,<-f,c,e,z,dm,p,-Int.natCast_add,o];exact⟨u.length-(k+1),o_,k+1,rfl,a,g_,g_,by simpa[go_sem]using q⟩
 have:k=u.length:=o_;subst this;rw[ao,<-s]at d;have⟨x,A⟩:=d.isl;simp[go_sem,i,j,<-f,A];exact r ⟨.isl ((du l).map enc) x,by simp[ag,cG,f188,go_sem],aL rfl rfl⟩
theorem F4(l:Lq) (x:Ext) (hs:sizes l<4000000) (h:H):az C h (.func 188 []) (some [.isl (l.map enc) x])=some (aQ (du l),h):=ah (args':=[aQ l]) rfl rfl s_ (Ka l hs)
theorem Hp(t:T):ay C 190 [enc t]=some (.bool (bld t)):=by
 refine gu rfl func190 rfl k_ (by simp[f190]) λR f=>?_
 have fin:∀(e:Ex) (d:PT) (h:H) (c:Bool),e=.normal\/e=.ret->d.get 2=.bool c->bld t=c->R e d h:=λe d h c g i j=>f _ _ _ g ⟨.bool c,by simp[ag,cG,f190,i],by rw[j];exact aL rfl rfl⟩
 have a:bld t=(decide (t.kind=3)&&(decide (t.name=⟨#[112,97,105,114]⟩)||decide (t.name=⟨#[101,110,99]⟩)||decide (t.name=⟨#[97,101,110,99]⟩)||decide (t.name=⟨#[112,107]⟩)||decide (t.name=⟨#[115,105,103,110]⟩)||decide (t.name=⟨#[104,97,115,104]⟩))):=rfl;by_cases b:t.kind=3
 ·rw[decide_eq_true b,jc]at a;simp +contextual [go_sem,fM,b];exact fin _ _ _ _ (.inr rfl) g_ a
 rw[decide_eq_false b,gm]at a;simp[go_sem,b];exact fin _ _ _ false (.inr rfl) g_ a
theorem Fy(t:T) (h:H):az C h (.func 190 []) (some [enc t])=some (.bool (bld t),h):=ah (dC _) (by simp[aw]) s_ (Hp t)
theorem LY(i:Nat):bH C.P 39 (.ptr i 1) 3=some (.ptr i 4):=k_
theorem E8(d:Dm):ldM C.P 37 4 (some (.cells (dc d) .live))=some (aQ d.term.kids):=by simp[ldM,ae,a23,s23,dc]
theorem VB(k:Lq) (t:T):fZ C.P 41 [(0,aQ k),(1,enc t)]=some (cz ⟨k,t⟩):=by
 rw[bJ t];have e:∀(k s:Int) (n:ByteArray) (l m:LA),fZ C.P 41 [(0,.isl m .unk),(1,.agg [.int .i64 k,.str n,.int .i64 s,.isl l .unk])]=some (.agg [.isl m .unk,.int .i64 k,.str n,.int .i64 s,.isl l .unk]):=λ_ _ _ _ _=>k_
 exact e _ _ _ _ _
def YF(d:Dm) (m:Nat) (st:PT) (h:H):Prop:=∃k:Nat,m=d.term.kids.length-k/\k<=d.term.kids.length/\h[0]?=some (.cells (dc d) .live)/\st.get 1=.ptr 0 0/\st.get 4=.int .i64 k/\OwnR 41 h (st.get 3) (((d.term.kids.take k).map (Dm.mk d.knows)).map cz)
theorem N1(d:Dm) (hs:d.term.size<4000000):ay C 191 [cz d]=some (bF (rP d)):=by
 refine bD func191 rfl λR t=>?_
 have u:=size_kids d.term;have q:=len_sizes d.term.kids;simp[go_sem,D3];refine bR (YF d) d.term.kids.length ⟨0,rfl,aO _,rfl,g_,g_,.inr ⟨2,g_,s_⟩⟩ ?_;rintro m w h ⟨k,rfl,D,c,f,l,a⟩;obtain⟨E,g⟩:∃v,v=w.get 3:=⟨_,rfl⟩
 rw[<-g]at a;by_cases b:k<d.term.kids.length
 ·have i:(k:Int)<d.term.kids.length:=o_;have n:=fL d.term.kids k b;have y:=wS k o_;have⟨F,I,r,s,o,z⟩:=qP (ys:=[⟨d.knows,d.term.kids[k]⟩]) (x:=.full) a (by simp only[aU,ac,aF,aP];omega);rw[show(d.term.kids.take k).map (Dm.mk d.knows)++[⟨d.knows,d.term.kids[k]⟩]=(d.term.kids.take (k+1)).map (Dm.mk d.knows) by rw[aI b,bY];rfl]at s;simp only[aS,au]at r;have p:=o.get c (cK a c);have A:=VB d.knows d.term.kids[k];simp[go_sem,f,l,G c,LY,E8,i];refine gJ 5 _ (by simp[fu]) rfl ?_;simp[go_sem,f,l,<-g,G c,LY,E8,uE,n,A,BI,r,-Int.natCast_add,y];refine⟨?_,d.term.kids.length-(k+1),o_,k+1,rfl,b,p,g_,g_,by simpa[go_sem]using s⟩;have j:=cK a c;rcases a with e|⟨id,e,J⟩
  ·simp[go_sem,ip,iF,iI,kK,er,dB,e]
  rw[e]at j;simp only[bj,ne_eq,aA]at j;simp[go_sem,ip,iF,iI,kK,er,dB,e]
  (try omega)
 have:k=d.term.kids.length:=o_;subst this;rw[ao]at a;have⟨x,B⟩:=a.isl;simp[go_sem,f,l,<-g,B,G c,LY,E8];exact t ⟨.isl ((rP d).map cz) x,by simp[ag,cG,f191,go_sem,rP],aL rfl rfl⟩
theorem JS(d:Dm) (hs:d.term.size<4000000) (h:H):az C h (.func 191 []) (some [cz d])=some (bF (rP d),h):=ah (args':=[cz d]) rfl rfl s_ (N1 d hs)
theorem J6(l:List Dm):iN 5 (l.map cz)=true:=by
 cases l with
 |nil=>rfl
 |cons a l=>simp[iN,cz,aa]
theorem Tw(l:List Dm) (i:Nat) (hi:i<=l.length):iO C.P 22 (.isl (l.map cz) .unk) none (some (.int .i64 i)) none=some (.isl ((l.take i).map cz) .unk):=by have a:(i:Int)<=l.length:=o_;simp[iO,u22,s41,nM,sS,a,J6];intro e;rw[e,de s_]
theorem Tv(l:List Dm) (i:Nat) (hi:i<=l.length):iO C.P 22 (.isl (l.map cz) .unk) (some (.int .i64 i)) none none=some (.isl ((l.drop i).map cz) .unk):=by
 have a:(i:Int)<=l.length:=o_;simp[iO,u22,s41,nM,sS,a,J6];by_cases e:i=0
 ·simp[e]
 rw[if_neg e,de s_]
theorem Jc(h:H):cQ C.P h 22 0 []=some (.isl [] .full,h):=cW u22 s41 z41 rfl o_ rfl rfl rfl s_ rfl
theorem FG(l:List Dm) (i:Nat) (o:List Dm) (hi:i<l.length) (hl:l.length<=1000000) (hol:o.length<=1000000):ay C 134 [bF l,.int .i64 i,bF o]=some (bF (en l i o)):=by
 refine bD func134 rfl λR g=>?_
 have j:=Tw l i o_;have k:=Tv l (i+1) o_;have m:=wS i o_;have⟨q,r,c,a,_,_⟩:=qP (xs:=[]) (ys:=l.take i) (x:=.unk) (h:=[.tok 0 41]) (v:=.isl [] .full) (.inl rfl) (by simp;omega);rw[bz]at a;have⟨s,t,d,e,_,_⟩:=qP (ys:=o) (x:=.unk) a (by rw[ac];omega);have⟨u,w,f,b,_,_⟩:=qP (ys:=l.drop (i+1)) (x:=.unk) e (by rw[aK,ac,cy];omega);have n:l.take i++o++l.drop (i+1)=en l i o:=rfl;rw[n]at b;generalize l.drop (i+1)=B at *;generalize l.take i=A at *;obtain⟨p,rfl⟩:=b.isl;simp[go_sem,bF,Jc,j,c,d,k,f,-Int.natCast_add,m];exact g ⟨.isl ((en l i o).map cz) p,by simp[ag,cG,f134,go_sem],aL rfl rfl⟩
theorem xD(l:List Dm) (x y:Ext) (i:Nat) (o:List Dm) (hi:i<l.length) (hl:l.length<=1000000) (hol:o.length<=1000000) (h:H):az C h (.func 134 []) (some [.isl (l.map cz) x,.int .i64 i,.isl (o.map cz) y])=some (bF (en l i o),h):=ah (args':=[bF l,.int .i64 i,bF o]) rfl rfl s_ (FG l i o hi hl hol)
theorem HM{h:H}{id:Nat}{xs ys:List Al}{x:Ext}(hid:h[id]?=some (.tok xs.length 130)) (hl:xs.length+ys.length<=100000000000) :
  cL C.P false h 124 (.isl (xs.map iU) (.tok id)) (.isl (ys.map iU) x)=some (.isl ((xs++ys).map iU) (.tok id),h.set id (.tok (xs++ys).length 130)):=by
 have:=uM (x:=x) (xs:=xs.map iU) (ys:=ys.map iU) Jz NU Xz QX rfl (by simpa using hid) (GS xs) (GS ys) (by simp only[aU];omega);rw[this,bY];simp
theorem Xw(r:Int) (es ds:LA):fZ C.P 130 [(0,.int .i64 r),(1,.isl es .unk),(2,.isl ds .unk)]=some (.agg [.int .i64 r,.isl es .unk,.isl ds .unk]):=k_
theorem AU{t u:T}(ht:bc t=0) (hu:bc u=0) (h:(fR t u).2=0):small (fR t u).1/\(fR t u).1.length<1000000:=by have k:=(yH ht hu).2.1 h;refine⟨λb a=>?_,by have:=k.len;omega⟩;have⟨c,d,_⟩:=k.val b a;have:=(cT c).2.1;have:=(cT d).2.1;exact⟨o_,o_⟩
theorem vd{l:List Dm}{rule:Int}{out:List Al}{p:T × T}(h1:bc p.1=0) (h2:bc p.2=0) (ho:tz out):tz (lz l rule out p).1/\(lz l rule out p).1.length<=out.length+1:=by
 unfold lz;split
 ·exact⟨ho,by dsimp only;omega⟩
 rename_i q;simp only[not_or,ne_eq,Decidable.not_not]at q;split
 ·exact⟨λa b=>(by cases b),s_⟩
 refine⟨λa b=>?_,s_⟩;rcases aZ.1 b with b|b
 ·exact ho a b
 rw[bL.1 b];exact AU h1 h2 q.1
theorem xt{h0:H}{id:Nat}(out:List Al) (l:List Dm) (rule:Int) (t u:T) (hid:h0[id]?=some (.tok out.length 130)) (hv:bp l=0) (ht:bc t=0) (hu:bc u=0) (hout:tz out) (hlen:out.length<1000000) :
  ∃r h',az C h0 (.func 189 []) (some [.isl (out.map iU) (.tok id),.isl (l.map cz) .unk,.int .i64 rule,enc t,enc u])=some (r,h') /\
   (((lz l rule out (t,u)).2=0/\r=.tuple [.isl ((lz l rule out (t,u)).1.map iU) (.tok id),.int .i64 0]/\h'[id]?=some (.tok (lz l rule out (t,u)).1.length 130)) \/
    ((lz l rule out (t,u)).2≠0/\∃x,r=.tuple [.isl [] x,.int .i64 (lz l rule out (t,u)).2])):=by
 suffices hh:∃r h',Go.V.Call C 189 [.isl (out.map iU) (.tok id),.isl (l.map cz) .unk,.int .i64 rule,enc t,enc u] h0=some (r,h')/\(((lz l rule out (t,u)).2=0/\r=.tuple [.isl ((lz l rule out (t,u)).1.map iU) (.tok id),.int .i64 0]/\h'[id]?=some (.tok (lz l rule out (t,u)).1.length 130)) \/
    ((lz l rule out (t,u)).2≠0/\∃x,r=.tuple [.isl [] x,.int .i64 (lz l rule out (t,u)).2])) by
  have⟨r,h',a,q⟩:=hh;exact⟨r,h',by rw[jx k_ rfl];exact a,q⟩
 refine oC rfl func189 rfl k_ (by simp[f189]) λR d=>?_
 have e:=MA t u ht hu;have i:=(aB.1 hid).1;by_cases q:(fR t u).2=0
 ·have⟨j,m⟩:=AU ht hu q;have f:=MG out (.tok id) .unk rule (fR t u).1 hout j hlen;have c3:=MF l (fR t u).1 .unk .unk hv j m;have b:lz l rule out (t,u)=if Bx out rule (fR t u).1=true then(out,0)else if(lZ l (fR t u).1).2≠0 then([],(lZ l (fR t u).1).2)else(out++[⟨rule,(fR t u).1,(lZ l (fR t u).1).1⟩],0):=by rw[lz];simp[q]
  generalize fR t u=U at *;cases c:Bx out rule U.1 with
  |true=>rw[c,if_pos rfl]at b;simp +contextual [go_sem,e,rM,binds,q,f,c];exact d _ _ _ (.inr rfl) ⟨.tuple [.isl (out.map iU) (.tok id),.int .i64 0],by simp[ag,df,cG,f189,go_sem],.inl (by rw[b];exact⟨rfl,rfl,ga hid⟩)⟩
  |false=>
   rw[c,if_neg s_]at b;generalize lZ l U.1=I at *;by_cases z:I.2=0
   ·rw[if_neg (by simp[z])]at b;have k:=λg:H=>HM (h:=h0++g) (x:=.full) (ys:=[⟨rule,U.1,I.1⟩]) (ga hid) (by simp only[aF,aP];omega)
    have n:=Xw rule (U.1.map bN) (I.1.map cz);have bs:=λh=>GC h ⟨rule,U.1,I.1⟩ .unk .unk
    generalize o:out++[⟨rule,U.1,I.1⟩]=A at *;simp only[aS,au]at k;simp only[]at bs;simp +contextual [go_sem,e,rM,GY,binds,bF,q,f,c,c3,z,n,bs,k];refine d _ _ _ (.inr rfl) ⟨.tuple [.isl (A.map iU) (.tok id),.int .i64 0],by simp[ag,df,cG,f189,go_sem],.inl ?_⟩;rw[b];refine⟨rfl,rfl,?_⟩;rw[aJ (by simp only[aK];omega)]
   rw[if_pos z]at b;simp +contextual [go_sem,e,rM,GY,binds,bF,q,f,c,c3,z];exact d _ _ _ (.inr rfl) ⟨.tuple [.isl [] (.tok (h0.length+3)),.int .i64 I.2],by simp[ag,df,cG,f189,go_sem],.inr (by rw[b];exact⟨z,_,rfl⟩)⟩
 have b:lz l rule out (t,u)=(out,0):=by rw[lz];simp[q]
 simp +contextual [go_sem,e,rM,binds,q];exact d _ _ _ (.inr rfl) ⟨.tuple [.isl (out.map iU) (.tok id),.int .i64 0],by simp[ag,df,cG,f189,go_sem],.inl (by rw[b];exact⟨rfl,rfl,ga hid⟩)⟩
theorem QM(r:Int) (ds:LA):fZ C.P 130 [(0,.int .i64 r),(2,.isl ds .unk)]=some (.agg [.int .i64 r,.isl [] .full,.isl ds .unk]):=k_
theorem zX(h:H) (r:Int) (l:List Dm):cQ C.P h 124 1 [(0,.agg [.int .i64 r,.isl [] .full,.isl (l.map cz) .unk])]=some (.isl [iU ⟨r,[],l⟩] .full,h):=cW Jz NU QX rfl o_ rfl rfl rfl (by simp) rfl
def NO1(l:List Dm) (i:Nat) (P:Lq) (t:T) (m:Nat) (st:PT) (h:H):Prop:=∃(k id:Nat) (out:List Al),m=P.length-k/\k<=P.length/\st.get 0=bF l/\st.get 1=.int .i64 i/\st.get 6=aQ P/\st.get 7=.isl (out.map iU) (.tok id)/\st.get 9=.int .i64 k/\h[id]?=some (.tok out.length 130)/\tz out/\out.length<=k/\eF l 2 out (jN (P.drop k) t)=eF l 2 [] (jN P t)
def NO2(l:List Dm) (i:Nat) (P:Lq) (tot:List Al × Int) (m:Nat) (st:PT) (h:H):Prop:=∃(k id:Nat) (out:List Al),m=P.length-k/\k<=P.length/\st.get 0=bF l/\st.get 1=.int .i64 i/\st.get 6=aQ P/\st.get 7=.isl (out.map iU) (.tok id)/\st.get 10=.int .i64 k/\h[id]?=some (.tok out.length 130)/\tz out/\out.length<=80+80*k/\eF l 3 out (ik (P.drop k))=tot
def NO3(l:List Dm) (i:Nat) (P:Lq) (a:T) (k:Nat) (tot:List Al × Int) (m:Nat) (st:PT) (h:H):Prop:=∃(j id:Nat) (out:List Al),m=P.length-j/\j<=P.length/\k+1<=j/\st.get 0=bF l/\st.get 1=.int .i64 i/\st.get 6=aQ P/\st.get 7=.isl (out.map iU) (.tok id)/\st.get 10=.int .i64 k/\st.get 11=.int .i64 j/\h[id]?=some (.tok out.length 130)/\tz out/\out.length+k+1<=80+80*k+j/\eF l 3 out ((P.drop j).map (λb=>(a,b))++ik (P.drop (k+1)))=tot
theorem II(l:List Dm) (i:Nat) (hv:bp l=0) (hi:i<l.length):ay C 133 [bF l,.int .i64 i]=some (H6 (np l i l[i])):=by
 refine bD func133 rfl λR hR=>?_
 have fz:∀(st:PT) (h:H) (e:Int) (x:Ext),st.get 4=.isl [] x->st.get 5=.int .i64 e->np l i l[i]=([],e)->R .ret st h:=λst h e x h4 h5 he=>hR ⟨.tuple [.isl [] x,.int .i64 e],by
  simp[ag,df,cG,f133,h4,h5],by rw[he];exact cw rfl rfl s_⟩
 have fin:∀(st:PT) (h:H) (A:List Al) (x:Ext),st.get 4=.isl (A.map iU) x->st.get 5=.int .i64 0->np l i l[i]=(A,0)->R .ret st h:=λst h A x h4 h5 he=>hR ⟨.tuple [.isl (A.map iU) x,.int .i64 0],by
  simp[ag,df,cG,f133,h4,h5],by rw[he];exact cw rfl rfl s_⟩
 have⟨b1,b2,b3,b4,b5,b6,b7⟩:=oa hv;have hd:=aG hi;have hix:=sH l i hi;have hkl:=(b2 _ hd).2;have hsd:=(b2 _ hd).1;have hk:=qH hd;have ht:=lO hd;have hP:∀t∈du l[i].knows,okT t:=yR λt h=>b4 t (hk t h)
 have hvt:=(b4 _ ht).1;have hts:=b3 _ ht;have cp:=F4 l[i].knows .unk (by have:=lT λt h=>b3 t (hk t h);omega);have hO:np l i l[i]=if 80<(du l[i].knows).length then([],3)else if(eF l 2 [] (jN (du l[i].knows) l[i].term)).2≠0 then([],(eF l 2 [] (jN (du l[i].knows) l[i].term)).2)
  else if(eF l 3 (eF l 2 [] (jN (du l[i].knows) l[i].term)).1 (ik (du l[i].knows))).2≠0 then([],(eF l 3 (eF l 2 [] (jN (du l[i].knows) l[i].term)).1 (ik (du l[i].knows))).2)
  else uP l i l[i] (eF l 3 (eF l 2 [] (jN (du l[i].knows) l[i].term)).1 (ik (du l[i].knows))).1:=rfl
 generalize hD:l[i]=d at *;simp only[aQ]at cp;simp only[bF]at hix;have lk:=uw d;simp only[aQ]at lk;generalize du d.knows=P at *;by_cases q:80<P.length
 ·have q':(80:Int)<P.length:=o_;rw[if_pos q]at hO;simp[go_sem,bF,hix,lk,cp,q'];exact fz _ _ 3 (.tok 1) g_ g_ hO
 have q':¬(80:Int)<P.length:=o_;rw[if_neg q]at hO;simp[go_sem,bF,hix,lk,cp,q'];refine bR (NO1 l i P d.term) P.length ⟨0,1,[],rfl,aO _,by simp[go_sem,bF],g_,by simp[go_sem,aQ],g_,g_,s_,λa ha=>(by cases ha),s_,rfl⟩ ?_;rintro m st h ⟨k,id,out,rfl,hkk,g0,g1,g6,g7,g9,hid,ho,hol,he⟩;simp only[bF]at g0;by_cases hlt:k<P.length
 ·have hlt':(k:Int)<P.length:=o_;have hixk:=hG P k hlt;have w2:=wS k o_;have hpk:=(hP _ (aG hlt)).1;have cs:=lg P[k] d.term (by have:=(cT hpk).2.1;omega) o_;rw[aH hlt,jN,jA]at he;by_cases z:P[k].cmp d.term=0
  ·rw[if_neg (by simp[z])]at he;simp[go_sem,g0,g1,g6,g9,hlt',hixk,hix,cs,z,-Int.natCast_add,w2];exact⟨P.length-(k+1),o_,k+1,id,out,rfl,hlt,by simp[go_sem,g0,bF],g_,g_,g_,g_,hid,ho,o_,he⟩
  rw[if_pos (by simp[z]),aS,eF]at he;have⟨r,h',cu,hu⟩:=xt out l 2 P[k] d.term hid hv hpk hvt ho o_;have⟨ho',hol'⟩:=vd (l:=l) (rule:=2) (out:=out) (p:=(P[k],d.term)) hpk hvt ho;generalize lz l 2 out (P[k],d.term)=U at *;rcases hu with⟨z1,rfl,hid'⟩|⟨z1,x,rfl⟩
  ·rw[if_neg (by simp[z1])]at he;simp[go_sem,g0,g1,g6,g7,g9,hlt',hixk,hix,cs,z,cu,-Int.natCast_add,w2];exact⟨P.length-(k+1),o_,k+1,id,U.1,rfl,hlt,by simp[go_sem,g0,bF],g_,g_,g_,g_,hid',ho',o_,he⟩
  rw[if_pos z1]at he;rw[<-he,if_pos z1]at hO;simp[go_sem,g0,g1,g6,g7,g9,hlt',hixk,hix,cs,z,cu,z1];exact fz _ _ U.2 (.tok h'.length) g_ g_ hO
 have:k=P.length:=o_;subst this;rw[aj,jN,List.filter_nil,au,eF]at he;rw[<-he,if_neg s_]at hO;dsimp only at hO;clear he;simp[go_sem,g6,g9];generalize htot:eF l 3 out (ik P)=tot at *;refine bR (NO2 l i P tot) P.length ⟨0,id,out,rfl,aO _,by simp[go_sem,g0,bF],g_,g_,g_,g_,hid,ho,o_,htot⟩ ?_;clear g0 g1 g6 g7 g9 hid ho hol htot;clear out;rintro m st h ⟨k,id,out,rfl,hkk,g0,g1,g6,g7,g10,hid,ho,hol,he⟩;simp only[bF]at g0;by_cases hlt:k<P.length
 ·have hlt':(k:Int)<P.length:=o_;have hixk:=hG P k hlt;have w2:=wS k o_;have hpk:=(hP _ (aG hlt)).1;rw[aH hlt,ik]at he;simp[go_sem,g6,g10,hlt',-Int.natCast_add,w2];refine bR (NO3 l i P P[k] k tot) (P.length-(k+1)) ⟨k+1,id,out,rfl,hlt,aT _,by simp[go_sem,g0,bF],g_,g_,g_,g_,g_,hid,ho,o_,he⟩ ?_;clear g0 g1 g6 g7 g10 hid ho hol he;clear out;rintro m2 st2 h2 ⟨j,id,out,rfl,hj,hkj,g0,g1,g6,g7,g10,g11,hid,ho,hol,he⟩;simp only[bF]at g0;by_cases hj1:j<P.length
  ·have hj1':(j:Int)<P.length:=o_;have hixj:=hG P j hj1;have w3:=wS j o_;have hpj:=(hP _ (aG hj1)).1;rw[aH hj1,aS,cP,eF]at he;have⟨r,h',cu,hu⟩:=xt out l 3 P[k] P[j] hid hv hpk hpj ho o_;have⟨ho',hol'⟩:=vd (l:=l) (rule:=3) (out:=out) (p:=(P[k],P[j])) hpk hpj ho;generalize lz l 3 out (P[k],P[j])=U at *;rcases hu with⟨z1,rfl,hid'⟩|⟨z1,x,rfl⟩
   ·rw[if_neg (by simp[z1])]at he;simp[go_sem,g0,g6,g7,g10,g11,hj1',hixk,hixj,cu,-Int.natCast_add,w3];exact⟨P.length-(j+1),o_,j+1,id,U.1,rfl,hj1,o_,by simp[go_sem,g0,bF],g_,g_,g_,g_,g_,hid',ho',o_,he⟩
   rw[if_pos z1]at he;rw[<-he,if_pos z1]at hO;simp[go_sem,g0,g6,g7,g10,g11,hj1',hixk,hixj,cu,z1];exact fz _ _ U.2 (.tok h'.length) g_ g_ hO
  have:j=P.length:=o_;subst this;rw[aj,au,bz]at he;simp[go_sem,g6,g10,g11,-Int.natCast_add,w2];exact⟨P.length-(k+1),o_,k+1,id,out,rfl,hlt,by simp[go_sem,g0,bF],g_,g_,g_,g_,hid,ho,o_,he⟩
 have:k=P.length:=o_;subst this;rw[aj,ik,eF]at he;rw[<-he,if_neg s_]at hO;dsimp only at hO;clear he;rw[uP]at hO;have csp:=Fy d.term;cases hb:bld d.term with
 |false=>rw[hb,if_neg s_]at hO;simp[go_sem,g0,g1,g6,g7,g10,hix,csp,hb];exact fin _ _ out (.tok id) g_ g_ hO
 |true=>
  rw[hb,if_pos rfl]at hO;have hkn:(rP d).length<=60:=by have h1:=size_kids d.term;have h2:=len_sizes d.term.kids;simp only[rP,aU];omega
  have ck:=JS d o_;have ci:=xD l .unk .unk i (rP d) hi o_ o_;have c34:=sR (en l i (rP d)) .unk (λe hm=>by
   rcases aZ.1 hm with hm|hm
   ·rcases aZ.1 hm with hm|hm
    ·exact(b2 e (bX hm)).1
    obtain⟨t,ht,rfl⟩:=bA.1 hm;refine⟨hsd.1,?_,hsd.2.2⟩;have:=kid_size ht;dsimp only;omega
   ·exact(b2 e (cq hm)).1) (by
    simp only[en,aK,ac,cy];omega)
  simp only[bF]at ck ci;generalize rP d=K at *;generalize en l i K=J at *;by_cases z:bp J=0
  ·rw[if_neg (by simp[z])]at hO;have ap:=HM (x:=.full) (ys:=[⟨4,[],J⟩]) hid (by simp only[aF,aP];omega);have bl:=QM 4 (J.map cz);have bs:=λh=>zX h 4 J
   generalize hA:out++[⟨4,[],J⟩]=A at *;simp only[aS,au]at ap;simp[go_sem,g0,g1,g6,g7,g10,hix,csp,hb,ck,ci,c34,z,bl,bs,ap];exact fin _ _ A (.tok id) g_ g_ hO
  rw[if_pos z]at hO;simp[go_sem,g0,g1,g6,g10,hix,csp,hb,ck,ci,c34,z];exact fz _ _ _ (.tok h.length) g_ g_ hO
theorem F5(l:List Dm) (x:Ext) (i:Nat) (hv:bp l=0) (hi:i<l.length) (h:H):az C h (.func 133 []) (some [.isl (l.map cz) x,.int .i64 i])=some (H6 (np l i l[i]),h):=ah (args':=[bF l,.int .i64 i]) rfl rfl s_ (II l i hv hi)
theorem Qf(l:List Dm) (hv:bp l=0):ay C 89 [bF l]=some (H6 (cn l)):=by
 refine bD func89 rfl λR hR=>?_
 have fz:∀(st:PT) (h:H) (e:Int) (x:Ext),st.get 2=.isl [] x->st.get 3=.int .i64 e->cn l=([],e)->R .ret st h:=λst h e x h4 h5 he=>hR ⟨.tuple [.isl [] x,.int .i64 e],by
  simp[ag,df,cG,f89,h4,h5],by rw[he];exact cw rfl rfl s_⟩
 have fin:∀(st:PT) (h:H) (A:List Al × Int) (x:Ext),st.get 2=.isl (A.1.map iU) x->st.get 3=.int .i64 A.2->cn l=A->R .ret st h:=λst h A x h4 h5 he=>hR ⟨.tuple [.isl (A.1.map iU) x,.int .i64 A.2],by
  simp[ag,df,cG,f89,h4,h5],by rw[he];exact cw rfl rfl s_⟩
 have⟨b1,b2,b3,b4,b5,b6,b7⟩:=oa hv;have c1:=sR l .unk (λd hd=>(b2 d hd).1) o_;have c2:=HH l .unk o_;by_cases q:dv l<0
 ·simp[go_sem,bF,c1,hv,c2,q];exact fz _ _ 9 (.tok 1) g_ g_ (by rw[cn,if_neg (by simp[hv]),if_pos q])
 have⟨pre,d,post,e,ei,_,_⟩:=uH (l:=l) (k:=0) (by unfold dv at q;omega);have ei:dv l=(pre.length:Int):=by rw[dv,ei];simp
 have hi:pre.length<l.length:=by rw[e];simp
 have hg:l[pre.length]?=some l[pre.length]:=aC hi;have hS:cn l=tt l pre.length l[pre.length]:=by rw[cn,if_neg (by simp[hv]),if_neg q,ei,Int.toNat_natCast,hg]
 rw[ei]at c2 q;generalize pre.length=i at *;have c3:=MB l .unk i hv hi;have c4:=F5 l .unk i hv hi;have c5:=xD l .unk .full i [] hi o_ s_;have c6:=sR (en l i []) .unk (λe hm=>by
  rw[en,cC]at hm;rcases aZ.1 hm with hm|hm
  ·exact(b2 e (bX hm)).1
  ·exact(b2 e (cq hm)).1) (by
   simp only[en,aK,ac,cy,aP];omega)
 rw[tt]at hS;simp only[au,bF]at c5;generalize pv l i l[i]=V at *;generalize np l i l[i]=O at *;by_cases z1:V.2=0
 ·rw[if_neg (by simp[z1])]at hS;cases z2:V.1 with
  |false=>rw[z2,if_neg s_]at hS;simp[go_sem,bF,c1,hv,c2,q,c3,z1,z2,c4,H6];exact fin _ _ O .unk g_ g_ hS
  |true=>
   rw[z2,if_pos rfl]at hS;have bl:=λds=>QM 1 ds
   have bs:=λh=>zX h 1 (en l i [])
   generalize en l i []=J at *;by_cases z3:bp J=0
   ·rw[if_neg (by simp[z3])]at hS;simp[go_sem,bF,c1,hv,c2,q,c3,z1,z2,c5,c6,z3,bl,bs];exact fin _ _ ([⟨1,[],J⟩],0) .full g_ g_ hS
   rw[if_pos z3]at hS;simp[go_sem,bF,c1,hv,c2,q,c3,z1,z2,c5,c6,z3];exact fz _ _ _ (.tok 1) g_ g_ hS
 rw[if_pos z1]at hS;simp[go_sem,bF,c1,hv,c2,q,c3,z1];exact fz _ _ _ (.tok 1) g_ g_ hS
theorem MD(l:List Dm) (x:Ext) (hv:bp l=0) (h:H):az C h (.func 89 []) (some [.isl (l.map cz) x])=some (H6 (cn l),h):=ah (args':=[bF l]) rfl rfl s_ (Qf l hv)
end Go.VZ
namespace Go.VZ
open Go Go.V Go.Proofs Tryz TL
structure Fm where
 path:List Int
 bind:Lb
 dem:List Dm
structure NR where
 ns:List Nd
 fs:List Fm
 ix:Nat
 err:Int
structure KR where
 ns:List Nd
 fs:List Fm
 ks:List Nat
 err:Int
def vM(s:Lb):List Al->Int
 |[]=>0
 |a::l=>if(eG s a.bind).2≠0 then(eG s a.bind).2 else vM s l
def gi(f:List Nd->List Fm->List Dm->Lb->List Int->NR) (s:Lb) (p:List Int):Nat->List Al->List Nd->List Fm->List Nat->KR
 |_,[],ns,fs,ks=>⟨ns,fs,ks,0⟩
 |j,a::l,ns,fs,ks=>if(f ns fs a.dem (eG s a.bind).1 (p++[(j:Int)])).err≠0 then⟨(f ns fs a.dem (eG s a.bind).1 (p++[(j:Int)])).ns,(f ns fs a.dem (eG s a.bind).1 (p++[(j:Int)])).fs,[],(f ns fs a.dem (eG s a.bind).1 (p++[(j:Int)])).err⟩
  else gi f s p (j+1) l (f ns fs a.dem (eG s a.bind).1 (p++[(j:Int)])).ns (f ns fs a.dem (eG s a.bind).1 (p++[(j:Int)])).fs (ks++[(f ns fs a.dem (eG s a.bind).1 (p++[(j:Int)])).ix])
def kY(ns:List Nd) (i:Nat) (ks:List Nat):List Nd:=ns.modify i λn=>⟨n.dem,n.bind,ks⟩
noncomputable def fF(F:Nat):Nat->List Nd->List Fm->List Dm->Lb->List Int->NR
 |0,ns,fs,_,_,_=>⟨ns,fs,0,14⟩
 |g+1,ns,fs,d,s,p=>if F<=ns.length then⟨ns,fs,0,14⟩
  else if dv d<0 then⟨ns++[⟨d,s,[]⟩],fs++[⟨p,s,d⟩],ns.length,0⟩
  else if(cn d).2≠0 then⟨ns++[⟨d,s,[]⟩],fs,0,(cn d).2⟩
  else if vM s (cn d).1≠0 then⟨ns++[⟨d,s,[]⟩],fs,0,vM s (cn d).1⟩
  else if(gi (fF F g) s p 0 (cn d).1 (ns++[⟨d,s,[]⟩]) fs []).err≠0 then⟨(gi (fF F g) s p 0 (cn d).1 (ns++[⟨d,s,[]⟩]) fs []).ns,(gi (fF F g) s p 0 (cn d).1 (ns++[⟨d,s,[]⟩]) fs []).fs,0,(gi (fF F g) s p 0 (cn d).1 (ns++[⟨d,s,[]⟩]) fs []).err⟩
  else⟨kY (gi (fF F g) s p 0 (cn d).1 (ns++[⟨d,s,[]⟩]) fs []).ns ns.length (gi (fF F g) s p 0 (cn d).1 (ns++[⟨d,s,[]⟩]) fs []).ks,(gi (fF F g) s p 0 (cn d).1 (ns++[⟨d,s,[]⟩]) fs []).fs,ns.length,0⟩
structure Grow (ns:List Nd) (fs:List Fm) (ns':List Nd) (fs':List Fm):Prop where
 len:ns.length<=ns'.length
 flen:fs'.length+ns.length<=fs.length+ns'.length
theorem Grow.refl(ns:List Nd) (fs:List Fm):Grow ns fs ns fs:=⟨aT _,aT _⟩
theorem Grow.trans{a:List Nd}{b:List Fm}{c:List Nd}{d:List Fm}{e:List Nd}{f:List Fm}(h:Grow a b c d) (k:Grow c d e f):Grow a b e f:=⟨cM h.len k.len,by have:=h.flen;have:=k.flen;omega⟩
theorem rm(ns:List Nd) (i:Nat) (ks:List Nat):(kY ns i ks).length=ns.length:=by simp[kY]
theorem A4{f:List Nd->List Fm->List Dm->Lb->List Int->NR}(hf:∀ns fs d s p,Grow ns fs (f ns fs d s p).ns (f ns fs d s p).fs) (s:Lb) (p:List Int):∀(l:List Al) (j:Nat) (ns:List Nd) (fs:List Fm) (ks:List Nat),Grow ns fs (gi f s p j l ns fs ks).ns (gi f s p j l ns fs ks).fs
 |[],_,_,_,_=>.refl _ _
 |a::l,j,ns,fs,ks=>by
  rw[gi];split
  ·exact hf _ _ _ _ _
  exact(hf _ _ _ _ _).trans (A4 hf s p l _ _ _ _)
theorem Ap(F:Nat):∀(g:Nat) (ns:List Nd) (fs:List Fm) (d:List Dm) (s:Lb) (p:List Int),Grow ns fs (fF F g ns fs d s p).ns (fF F g ns fs d s p).fs
 |0,ns,fs,_,_,_=>.refl _ _
 |g+1,ns,fs,d,s,p=>by
  have h1:Grow ns fs (ns++[⟨d,s,[]⟩]) fs:=⟨s_,s_⟩
  have a:=h1.trans (A4 (Ap F g) s p (cn d).1 0 (ns++[⟨d,s,[]⟩]) fs []);rw[fF];split
  ·exact .refl _ _
  split
  ·exact⟨s_,by simp;omega⟩
  split
  ·exact h1
  split
  ·exact h1
  split
  ·exact a
  exact⟨by rw[rm];exact a.len,by rw[rm];exact a.flen⟩
theorem tn(l:List Dm) (r:Int):∀(ps:Lb) (out:List Al),(eF l r out ps).1.length<=out.length+ps.length
 |[],out=>by simp[eF]
 |p::ps,out=>by
  rw[eF];split
  ·simp
  have h1:=tn l r ps (lz l r out p).1;have a:(lz l r out p).1.length<=out.length+1:=by
   unfold lz;split
   ·dsimp only;omega
   split
   ·simp
   simp
  rw[aF];omega
theorem rX(l:List Dm) (r:Int):∀(ps:Lb) (out:List Al),(∀p∈ps,bc p.1=0/\bc p.2=0)->tz out->tz (eF l r out ps).1
 |[],out,_,ho=>ho
 |p::ps,out,hp,ho=>by
  rw[eF];split
  ·exact λa ha=>(by cases ha)
  exact rX l r ps _ (λx hx=>hp x (by simp[hx])) (vd (hp p s_).1 (hp p s_).2 ho).1
theorem yT:∀P:Lq,(ik P).length<=P.length*P.length
 |[]=>by simp[ik]
 |a::P=>by have:=yT P;simp only[ik,aK,aU,aF,pU,eQ];omega
theorem wg(r:Int) (d:List Dm):tz [⟨r,[],d⟩]:=λa c=>by rw[bL.1 c];exact⟨λb e=>(by cases e),s_⟩
theorem Cg{l:List Dm}(hv:bp l=0):tz (cn l).1/\(cn l).1.length<=10000:=by
 have b:tz []/\([]:List Al).length<=10000:=⟨λa c=>(by cases c),s_⟩
 unfold cn;rw[if_neg (by simp[hv])];split
 ·exact b
 rename_i q;split
 ·exact b
 rename_i d m;have j:d∈l:=aW m;have⟨u,v,b3,b4,w,y,z⟩:=oa hv;have f:∀t∈du d.knows,bc t=0:=λt g=>(yR (λt h=>b4 t (qH j t h)) t g).1
 have g:=(b4 _ (lO j)).1;generalize (dv l).toNat=i;unfold tt;split
 ·exact b
 split
 ·split
  ·exact b
  exact⟨wg _ _,s_⟩
 unfold np;split
 ·exact b
 rename_i n;have o:=tn l 2 (jN (du d.knows) d.term) [];have A:=tn l 3 (ik (du d.knows)) (eF l 2 [] (jN (du d.knows) d.term)).1;have B:(jN (du d.knows) d.term).length<=(du d.knows).length:=by rw[jN,aU];exact cO _ _
 have D:=yT (du d.knows);have E:(du d.knows).length*(du d.knows).length<=80*80:=Nat.mul_le_mul o_ o_;have r:=rX l 2 (jN (du d.knows) d.term) [] (λp e=>by obtain⟨x,s,rfl⟩:=bA.1 e;exact⟨f _ (bm.1 s).1,g⟩) b.1
 have k:=rX l 3 (ik (du d.knows)) _ (λp e=>⟨f _ (oO e).1,f _ (oO e).2⟩) r;rw[aP]at o;split
 ·exact b
 split
 ·exact b
 unfold uP;split
 ·split
  ·exact b
  refine⟨λa c=>?_,by rw[aK];simp only[aF,aP];omega⟩;rcases aZ.1 c with c|c
  ·exact k a c
  exact wg _ _ a c
 exact⟨k,by dsimp only;omega⟩
end Go.VZ
namespace Go.V
open Go
theorem Mr{C:Cfg}{cf:FuncId}{ops:Array Oper}{base c:Nat}{K:PT->H->List FP->Prop}{s0:PT}{h0:H}(l2:List Oper):∀(l:List Oper) (i:Nat) (s:PT) (h:H) (F:List FP),i+l.length=c->ops.toList.drop i=l++l2 ->
  kR C (Call C) cf ops base i s0 h0=some (s,h,F)->MX C cf ops base K i l s h F->∃s' h' F',kR C (Call C) cf ops base c s0 h0=some (s',h',F')/\K s' h' F'
 |[],i,s,h,F,hi,_,hs,hm=>⟨s,h,F,by rw[<-hi];exact hs,hm⟩
 |o::l,i,s,h,F,hi,hd,hs,⟨v,h2,f,e,hm⟩=>by
  have ho:ops[i]?=some o:=by have:=congrArg (λl=>l[0]?) hd;simpa using this
  refine Mr l2 l (i+1) _ _ _ (by simp only[aF]at hi;omega) (by rw[<-List.tail_drop,hd];rfl) ?_ hm;simp only[kR,hs,ho,e]
theorem VS{C:Cfg}{cf:FuncId}{R:Ex->PT->H->Prop}{k:List It}{s:PT}{h:H}(id:Nat) (ops:Array Oper) (c:Nat) (hm:C.mix cf id=true) (hc:C.cut cf id=some c) (ht:(rK ops&&vh ops c)=true) (hcl:c<=ops.size)
  (hx:MX C cf ops h.length (λs' h' F=>tR ops F=true/\OW C cf ops (ops.toList.drop c) s' h' λs h=>N C cf R k s h) 0 (ops.toList.take c) s (h++List.replicate c .void) []):W C cf R (.region id ops true) k s h:=by
 have⟨s',h',F,e,a,b,d,f,g⟩:=Mr (c:=c) (ops.toList.drop c) (ops.toList.take c) 0 s _ [] (by simp;omega) s_ rfl hx;exact⟨.normal,b,d,by rw[P5 id ops c hm hc];simp only[fu,ht,if_true,e,a,f],g⟩
end Go.V
namespace Go.VZ
open Go Go.V Go.Proofs Tryz TL
theorem u29:C.P.underlying 29=some (.slice 63):=underlying29
theorem s29:cS C.P 29=some 1:=k_
theorem a29:eW C.P 29=some false:=k_
theorem s63:cS C.P 63=some 3:=k_
theorem a63:eW C.P 63=some true:=k_
theorem b63:gl C.P 63=some 72:=k_
theorem z63:fe C.P 63=true:=k_
theorem UY:iG C.P 29=some 63:=k_
theorem u50:C.P.underlying 50=some (.slice 55):=underlying50
theorem s50:cS C.P 50=some 1:=k_
theorem a50:eW C.P 50=some false:=k_
theorem s55:cS C.P 55=some 3:=k_
theorem a55:eW C.P 55=some true:=k_
theorem b55:gl C.P 55=some 72:=k_
theorem z55:fe C.P 55=true:=k_
theorem Xg:iG C.P 50=some 55:=k_
theorem Qc:C.P.underlying 136=some (.slice 45):=underlying136
theorem s45:cS C.P 45=some 1:=k_
theorem a45:eW C.P 45=some false:=k_
theorem b45:gl C.P 45=some 24:=k_
theorem z45:fe C.P 45=true:=k_
theorem Ud:iG C.P 136=some 45:=k_
theorem s70:cS C.P 70=some 4:=k_
theorem a70:eW C.P 70=some true:=k_
attribute [go_sem] UY Xg Ud
theorem R4(i:Nat):bH C.P 70 (.ptr i 0) 0=some (.ptr i 0):=k_
theorem R3(i:Nat):bH C.P 70 (.ptr i 0) 1=some (.ptr i 1):=k_
theorem R2(i:Nat):bH C.P 70 (.ptr i 0) 2=some (.ptr i 2):=k_
theorem R1(i:Nat):bH C.P 70 (.ptr i 0) 3=some (.ptr i 3):=k_
attribute [go_sem] R4 R3 R2 R1
theorem RW(a b:AV) (l:LA):ldM C.P 4 1 (some (.cells (a::b::l) .live))=some b:=by have a4:eW C.P 4=some false:=k_;have s4:cS C.P 4=some 1:=k_;simp[ldM,ae,a4,s4]
theorem RV(a b c:AV) (l:LA):ldM C.P 29 2 (some (.cells (a::b::c::l) .live))=some c:=by simp[ldM,ae,a29,s29]
theorem RU(a b c d:AV) (l:LA):ldM C.P 50 3 (some (.cells (a::b::c::d::l) .live))=some d:=by simp[ldM,ae,a50,s50]
theorem Qh(h:H) (i:Nat) (a b c d v:AV) (hv:v.one=true):stM C.P 29 v 2 h i (some (.cells [a,b,c,d] .live))=some (pt h i (.cells [a,b,v,d] .live)):=uZ s29 h i 2 _ _ hv s_
theorem Qg(h:H) (i:Nat) (a b c d v:AV) (hv:v.one=true):stM C.P 50 v 3 h i (some (.cells [a,b,c,d] .live))=some (pt h i (.cells [a,b,c,v] .live)):=uZ s50 h i 3 _ _ hv s_
attribute [go_sem] RW RV RU
def jr(l:List Nat):List Int:=l.map λn:Nat=>(n:Int)
def ndC(n:Nd × Ext):LA:=[bF n.1.dem,binds n.1.bind,.isl (bU (jr n.1.kids)) n.2]
def iv(l:List (Nd × Ext)):LA:=l.flatMap ndC
theorem mV(l:List (Nd × Ext)):(iv l).length=3*l.length:=by
 induction l with
 |nil=>rfl
 |cons a l b=>simp only[iv,cD,aK,aF]at b ⊢;rw[b];simp[ndC];omega
theorem AG(a b:List (Nd × Ext)):iv (a++b)=iv a++iv b:=by simp[iv]
def RowN(h:H) (v:AV) (ns:List Nd):Prop:=(ns=[]/\v=.isl [] .full)\/∃(id:Nat) (l:List (Nd × Ext)),l.map Prod.fst=ns/\v=.msl id 0 3 ns.length none/\h[id]?=some (.cells (iv l) .live)
def gY(f:Fm):AV:=.agg [.isl (bU f.path) .unk,binds f.bind,bF f.dem]
structure WK (h:H) (w:Nat) (F:Nat) (vn vf:AV) (ns:List Nd) (fs:List Fm):Prop where
 cell:h[w]?=some (.cells [.int .i64 F,.bool false,vn,vf] .live)
 nodes:RowN h vn ns
 forms:OwnR 55 h vf (fs.map gY)
structure FR (h0:H) (vn0 vf0:AV) (w:Nat) (h:H) (vn vf:AV):Prop where
 len:h0.length<=h.length
 old:∀i,i<h0.length->i≠w->bj vn0≠some i->bj vf0≠some i->h[i]?=h0[i]?
 nn:∀i,bj vn=some i->i<h0.length->bj vn0=some i
 ff:∀i,bj vf=some i->i<h0.length->bj vf0=some i
theorem FR.refl(h:H) (a b:AV) (w:Nat):FR h a b w h a b:=⟨aT _,λ_ _ _ _ _=>rfl,λ_ h _=>h,λ_ h _=>h⟩
theorem FR.trans{h0 h1 h2:H}{a b c d e f:AV}{w:Nat}(x:FR h0 a b w h1 c d) (y:FR h1 c d w h2 e f):FR h0 a b w h2 e f where
 len:=cM x.len y.len
 old i hi hw ha hb:=by have g:=x.len;rw[y.old i o_ hw (λe=>ha (x.nn i e hi)) (λe=>hb (x.ff i e hi))];exact x.old i hi hw ha hb
 nn i hi g:=x.nn i (y.nn i hi (db g x.len)) g
 ff i hi g:=x.ff i (y.ff i hi (db g x.len)) g
theorem FR.keep{h0 h1 h2:H}{a b c d:AV}{w:Nat}(x:FR h0 a b w h1 c d){o:Option Nat}(k:Keep h1 h2 o) (ho:∀i,o=some i->h0.length<=i):FR h0 a b w h2 c d where
 len:=cM x.len k.1
 old i hi hw ha hb:=by have f:=x.len;rw[k.2 i o_ (λe=>by have:=ho i e;omega)];exact x.old i hi hw ha hb
 nn:=x.nn
 ff:=x.ff
theorem RowN.keep{h h2:H}{v:AV}{ns:List Nd}(r:RowN h v ns){o:Option Nat}(k:Keep h h2 o) (ho:o=none\/bj v≠o):RowN h2 v ns:=by
 rcases r with r|⟨id,l,b,rfl,a⟩
 ·exact .inl r
 refine .inr ⟨id,l,b,rfl,?_⟩;refine k.get a λe=>?_
 rcases ho with q|q
 ·rw[q]at e;cases e
 exact q (by rw[e];rfl)
theorem RowN.id_lt{h:H}{v:AV}{ns:List Nd}(r:RowN h v ns){i:Nat}(e:bj v=some i):i<h.length:=by
 rcases r with⟨_,rfl⟩|⟨id,l,_,rfl,a⟩
 ·cases e
 simp only[bj,aA]at e;subst e;exact(aB.1 a).1
theorem OwnR.id_lt{e:TypeId}{h:H}{v:AV}{xs:LA}(o:OwnR e h v xs){i:Nat}(hi:bj v=some i):i<h.length:=by
 rcases o with rfl|⟨id,rfl,a⟩
 ·cases hi
 simp only[bj,aA]at hi;subst hi;exact(aB.1 a).1
theorem WK.keep{h h2:H}{w F:Nat}{vn vf:AV}{ns:List Nd}{fs:List Fm}(x:WK h w F vn vf ns fs){o:Option Nat}(k:Keep h h2 o) (h1:o≠some w) (h2':∀i,o=some i->bj vn≠some i/\bj vf≠some i):WK h2 w F vn vf ns fs where
 cell:=k.get x.cell h1
 nodes:=x.nodes.keep k (by
  cases o with
  |none=>exact .inl rfl
  |some i=>exact .inr (h2' i rfl).1)
 forms:=x.forms.keep k λi a e=>(h2' i e).2 a
theorem WK.ne{h:H}{w F:Nat}{vn vf:AV}{ns:List Nd}{fs:List Fm}(x:WK h w F vn vf ns fs):bj vn≠some w/\bj vf≠some w/\∀i,bj vn=some i->bj vf≠some i:=by
 refine⟨λe=>?_,cK x.forms x.cell,λi e=>?_⟩
 ·rcases x.nodes with⟨_,rfl⟩|⟨id,l,b,rfl,a⟩
  ·cases e
  simp only[bj,aA]at e;subst e;rw[x.cell]at a;have:=congrArg List.length (VObj.cells.inj (Option.some.inj a)).1;rw[mV]at this;simp at this;omega
 rcases x.nodes with⟨_,rfl⟩|⟨id,l,b,rfl,a⟩
 ·cases e
 simp only[bj,aA]at e;subst e;exact cK x.forms a
theorem QD(ns:List Nd){h:H}{v:AV}(r:RowN h v ns):fW C.P 29 v=some (.int .i64 ns.length):=by
 rcases r with⟨rfl,rfl⟩|⟨id,l,b,rfl,a⟩
 ·simp[fW,u29]
 simp[fW,u29]
theorem RowN.one{h:H}{v:AV}{ns:List Nd}(r:RowN h v ns):v.one=true:=by rcases r with⟨_,rfl⟩|⟨id,l,_,rfl,_⟩<;>rfl
theorem JZ(h:H) (d:List Dm) (s:Lb) (x y:Ext):cQ C.P h 29 1 [(0,.agg [.isl (d.map cz) x,.isl (s.map bN) y,.isl [] .full])]=some (.isl [.agg [bF d,binds s,.isl [] .unk]] .full,h):=cW u29 s63 z63 rfl o_ rfl rfl rfl (by simp) rfl
theorem VA(a b:LA) (x y:Ext):fZ C.P 63 [(0,.isl a x),(1,.isl b y)]=some (.agg [.isl a x,.isl b y,.isl [] .full]):=k_
theorem QN(a b c:LA) (x y z:Ext):fZ C.P 55 [(0,.isl a x),(1,.isl b y),(2,.isl c z)]=some (.agg [.isl a x,.isl b y,.isl c z]):=k_
theorem BG(h:H) (f:Fm) (x y z:Ext):cQ C.P h 50 1 [(0,.agg [.isl (bU f.path) x,.isl (f.bind.map bN) y,.isl (f.dem.map cz) z])]=some (.isl [gY f] .full,h):=cW u50 s55 z55 rfl o_ rfl rfl rfl (by simp) rfl
theorem GT(l:List Fm):iN 3 (l.map gY)=true:=by cases l<;>rfl
theorem MZ{h:H}{v:AV}{x:Ext}{xs ys:List Fm}(o:OwnR 55 h v (xs.map gY)) (hl:xs.length+ys.length<=100000000) :
  ∃v' h',cL C.P false h 50 v (.isl (ys.map gY) x)=some (v',h')/\OwnR 55 h' v' ((xs++ys).map gY)/\Keep h h' (bj v)/\(bj v'=bj v\/bj v=none/\bj v'=some h.length):=by
 have:=jS (x:=x) u50 s55 b55 z55 rfl o (GT xs) (GT ys) (by simp only[aU];omega);rwa[<-bY]at this
theorem GR(l:List (Lb)):iN 1 (l.map binds)=true:=by cases l<;>rfl
theorem Jg{h:H}{v:AV}{x:Ext}{xs ys:List (Lb)}(o:OwnR 45 h v (xs.map binds)) (hl:xs.length+ys.length<=100000000) :
  ∃v' h',cL C.P false h 136 v (.isl (ys.map binds) x)=some (v',h')/\OwnR 45 h' v' ((xs++ys).map binds)/\Keep h h' (bj v)/\(bj v'=bj v\/bj v=none/\bj v'=some h.length):=by
 have:=jS (x:=x) Qc s45 b45 z45 rfl o (GR xs) (GR ys) (by simp only[aU];omega);rwa[<-bY]at this
theorem GB(h:H) (s:Lb):cQ C.P h 136 1 [(0,binds s)]=some (.isl [binds s] .full,h):=cW Qc s45 z45 rfl o_ rfl rfl rfl (by simp[binds]) rfl
theorem Rw(l:List (Lb)) (k:Nat) (hk:k<l.length) (x:Ext):bP C.P 136 (.isl (l.map binds) x) (.int .i64 k)=some (.iptr (binds l[k]) 0):=by have:(binds l[k]).cells.length=1:=rfl;simp[bP,Qc,s45,hk,this]
theorem QE(s:Lb) (h:H):aX C.P h 45 (.iptr (binds s) 0)=some (binds s):=by have:(binds s).cells=[binds s]:=rfl;simp[aX,ae,a45,s45,this]
theorem Sb{h:H}{v:AV}{ns:List Nd}(r:RowN h v ns) (d:List Dm) (s:Lb) (hl:ns.length<=100000) :
  ∃v' h',cL C.P true h 29 v (.isl [.agg [bF d,binds s,.isl [] .unk]] .full)=some (v',h')/\RowN h' v' (ns++[⟨d,s,[]⟩])/\Keep h h' (bj v)/\bj v'=some h.length/\h'.length=h.length+1:=by
 have b:∀h,zo h 3 (.isl [.agg [bF d,binds s,.isl [] .unk]] .full)=some (ndC (⟨d,s,[]⟩,.unk),1):=λh=>rfl
 rcases r with⟨rfl,rfl⟩|⟨id,l,rfl,rfl,a⟩
 ·refine⟨.msl h.length 0 3 1 none,h++[.cells (ndC (⟨d,s,[]⟩,.unk)) .live],?_,.inr ⟨h.length,[(⟨d,s,[]⟩,.unk)],rfl,rfl,by simp[iv]⟩,Keep.append _ _ _,rfl,s_⟩;simp only[cL,sD,fH,if_false,am,fo,u29,s63,b63,z63,b];simp[iN]
 have f:=mV l;rw[aU]at hl;have c:=(aB.1 a).1;refine⟨.msl h.length 0 3 (l.length+1) none,h.set id (.cells (iv l) .dead)++[.cells (iv (l++[(⟨d,s,[]⟩,.unk)])) .live],?_,.inr ⟨h.length,l++[(⟨d,s,[]⟩,.unk)],s_,s_,by rw[aY s_];simp⟩,?_,rfl,s_⟩
 ·simp only[cL,sD,fH,if_false,am,fo,u29,s63,b63,z63,b,a,aU];rw[if_neg s_,if_neg s_,if_pos ⟨trivial,trivial,o_,o_⟩,de o_,AG];simp[iv]
 refine⟨s_,λj g i=>?_⟩;rw[aM (by simpa using g),aE];intro e;subst e;exact i rfl
theorem Tx{h:H}{v:AV}{ns:List Nd}(r:RowN h v ns){k:Nat}(hk:k<ns.length) (ks:List Nat) (x:Ext):∃(id:Nat) (h':H),bP C.P 29 v (.int .i64 k)=some (.ptr id (3*k))/\cr C.P h 53 (.ptr id (3*k+2)) (.isl (bU (jr ks)) x)=some h'/\RowN h' v (kY ns k ks)/\Keep h h' (bj v)/\h'.length=h.length:=by
 rcases r with⟨rfl,rfl⟩|⟨id,l,rfl,rfl,c⟩
 ·simp at hk
 rw[aU]at hk;have b:=(aB.1 c).1;have d:=mV l;refine⟨id,h.set id (.cells ((iv l).set (3*k+2) (.isl (bU (jr ks)) x)) .live),?_,?_,.inr ⟨id,l.modify k (λn=>(⟨n.1.dem,n.1.bind,ks⟩,x)),?_,by simp[kY],?_⟩,Keep.set _ _ _,s_⟩
 ·simp[bP,u29,s63,hk,lh]
 ·rw[Eb,By,c,uZ s53 h id (3*k+2) _ _ rfl o_];rfl
 ·simp only[kY];apply cV;intro i;simp only[bW,nI];cases l[i]? with
  |none=>rfl
  |some a=>by_cases e:k=i<;>simp[e]
 rw[aJ b];congr 2
 clear c b d;induction l generalizing k with
 |nil=>simp at hk
 |cons a l f=>
  cases k with
  |zero=>simp[iv,ndC]
  |succ k=>have:=f (k:=k) (by simpa using hk);rw[show 3*(k+1)+2=(3*k+2)+3 by omega];simp only[iv,cD,List.modify_succ_cons]at this ⊢;rw[<-this];simp[ndC]
theorem WK.node{h0:H}{w F:Nat}{vn vf:AV}{ns:List Nd}{fs:List Fm}(x:WK h0 w F vn vf ns fs) (d:List Dm) (s:Lb) (hl:ns.length<=100000) :
  ∃v1 h1,cL C.P true h0 29 vn (.isl [.agg [bF d,binds s,.isl [] .unk]] .full)=some (v1,h1)/\h1[w]?=some (.cells [.int .i64 F,.bool false,vn,vf] .live)/\v1.one=true /\
   WK (pt h1 w (.cells [.int .i64 F,.bool false,v1,vf] .live)) w F v1 vf (ns++[⟨d,s,[]⟩]) fs/\FR h0 vn vf w (pt h1 w (.cells [.int .i64 F,.bool false,v1,vf] .live)) v1 vf:=by
 have⟨j,k,l⟩:=x.ne;have⟨v1,h1,c,g,f,b,m⟩:=Sb x.nodes d s hl;have n:=(aB.1 x.cell).1;have o:=f.get x.cell j;have h:Keep h1 (pt h1 w (.cells [.int .i64 F,.bool false,v1,vf] .live)) (some w):=Keep.set _ _ _;refine⟨v1,h1,c,o,g.one,⟨?_,?_,?_⟩,⟨?_,?_,?_,?_⟩⟩
 ·rw[pt,aJ o_]
 ·exact g.keep h (.inr (by rw[b];simp only[ne_eq,aA];omega))
 ·refine(x.forms.keep f λi a e=>l i e a).keep h λi a e=>?_
  simp only[aA]at e;subst e;exact k a
 ·simp[pt];omega
 ·intro i a p c q;rw[pt,aE (λe=>p e.symm),f.2 i a c]
 ·intro i a hl;rw[b]at a;simp only[aA]at a;omega
 intro i a _;exact a
theorem WK.form{h0:H}{w F:Nat}{vn vf:AV}{ns:List Nd}{fs:List Fm}(x:WK h0 w F vn vf ns fs) (f:Fm) (hl:fs.length<=100000) :
  ∃v1 h1,cL C.P false h0 50 vf (.isl [gY f] .full)=some (v1,h1)/\h1[w]?=some (.cells [.int .i64 F,.bool false,vn,vf] .live)/\v1.one=true /\
   WK (pt h1 w (.cells [.int .i64 F,.bool false,vn,v1] .live)) w F vn v1 ns (fs++[f])/\FR h0 vn vf w (pt h1 w (.cells [.int .i64 F,.bool false,vn,v1] .live)) vn v1:=by
 have⟨l,g,m⟩:=x.ne;have⟨v1,h1,h,j,c,b⟩:=MZ (ys:=[f]) (x:=.full) x.forms (by simp only[aF,aP];omega);have n:=(aB.1 x.cell).1;have o:=c.get x.cell g;have k:Keep h1 (pt h1 w (.cells [.int .i64 F,.bool false,vn,v1] .live)) (some w):=Keep.set _ _ _;have p:=c.1;refine⟨v1,h1,h,o,(by obtain⟨x,rfl⟩:=j.isl;rfl),⟨?_,?_,?_⟩,⟨?_,?_,?_,?_⟩⟩
 ·rw[pt,aJ o_]
 ·refine(x.nodes.keep c ?_).keep k (.inr l);cases e:bj vf with
  |none=>exact .inl rfl
  |some i=>exact .inr λq=>m i q e
 ·refine j.keep k λi a e=>?_
  simp only[aA]at e;subst e;rcases b with q|⟨r,d⟩
  ·rw[q]at a;exact g a
  rw[d]at a;simp only[aA]at a;omega
 ·simp[pt];omega
 ·intro i a s h t;rw[pt,aE (λe=>s e.symm),c.2 i a t]
 ·intro i a _;exact a
 intro i a hl;rcases b with q|⟨r,d⟩
 ·rw[<-q];exact a
 rw[d]at a;simp only[aA]at a;omega
theorem WK.kids{h0:H}{w F:Nat}{vn vf:AV}{ns:List Nd}{fs:List Fm}(x:WK h0 w F vn vf ns fs){k:Nat}(hk:k<ns.length) (ks:List Nat) (e:Ext) :
  ∃(id:Nat) (h':H),bP C.P 29 vn (.int .i64 k)=some (.ptr id (3*k))/\cr C.P h0 53 (.ptr id (3*k+2)) (.isl (bU (jr ks)) e)=some h'/\WK h' w F vn vf (kY ns k ks) fs/\FR h0 vn vf w h' vn vf:=by
 have⟨c,l,d⟩:=x.ne;have⟨id,h',f,g,h,b,m⟩:=Tx x.nodes hk ks e;refine⟨id,h',f,g,⟨b.get x.cell c,h,x.forms.keep b λi a e=>d i e a⟩,⟨o_,λi a n j o=>b.2 i a j,λi a _=>a,λi a _=>a⟩⟩
def Loc(h0 h:H) (v vn vf:AV):Prop:=∀i,bj v=some i->h0.length<=i/\i<h.length/\bj vn≠some i/\bj vf≠some i
theorem Loc.step{h0 h h':H}{w:Nat}{v vn vf vn' vf':AV}(l:Loc h0 h v vn vf) (f:FR h vn vf w h' vn' vf'):Loc h0 h' v vn' vf':=λi g=>by have⟨a,b,c,d⟩:=l i g;have:=f.len;exact⟨a,o_,λe=>c (f.nn i e b),λe=>d (f.ff i e b)⟩
theorem Loc.own{h0 h h':H}{w:Nat}{v vn vf vn' vf':AV}{e:TypeId}{xs:LA}(l:Loc h0 h v vn vf) (f:FR h vn vf w h' vn' vf') (hw:w<h0.length) (o:OwnR e h v xs):OwnR e h' v xs:=by
 rcases o with rfl|⟨id,rfl,g⟩
 ·exact .inl rfl
 have⟨a,b,c,d⟩:=l id rfl;exact .inr ⟨id,rfl,by rw[f.old id b o_ c d];exact g⟩
theorem Loc.app{h0 h h':H}{w F:Nat}{v v' vn vf:AV}{ns:List Nd}{fs:List Fm}{vn0 vf0:AV}(l:Loc h0 h v vn vf) (x:WK h w F vn vf ns fs) (f:FR h0 vn0 vf0 w h vn vf) (hw:w<h0.length) (k:Keep h h' (bj v)) (hid:bj v'=bj v\/bj v=none/\bj v'=some h.length) (_hl:h'.length=h.length\/h.length<h'.length) (hl2:∀i,bj v'=some i->i<h'.length) :
  WK h' w F vn vf ns fs/\FR h0 vn0 vf0 w h' vn vf/\Loc h0 h' v' vn vf:=by
 refine⟨x.keep k (λe=>?_) λi e=>?_,f.keep k λi e=>(l i e).1,λi a=>?_⟩
 ·have:=(l w e).1;omega
 ·have:=l i e;exact⟨this.2.2.1,this.2.2.2⟩
 refine⟨?_,hl2 i a,?_,?_⟩
 ·rcases hid with q|⟨c,b⟩
  ·rw[q]at a;exact(l i a).1
  rw[b]at a;have:=f.len;simp only[aA]at a;omega
 ·rcases hid with q|⟨c,b⟩
  ·rw[q]at a;exact(l i a).2.2.1
  rw[b]at a;simp only[aA]at a;intro e;have:=x.nodes.id_lt e;omega
 rcases hid with q|⟨c,b⟩
 ·rw[q]at a;exact(l i a).2.2.2
 rw[b]at a;simp only[aA]at a;intro e;have:=OwnR.id_lt x.forms e;omega
theorem FR.grow{h0 h h':H}{vn0 vf0 vn vf:AV}{w:Nat}(f:FR h0 vn0 vf0 w h vn vf) (hl:h.length<=h'.length) (hg:∀i,i<h.length->h'[i]?=h[i]?):FR h0 vn0 vf0 w h' vn vf:=f.keep (o:=none) ⟨hl,λi a _=>hg i a⟩ λi e=>by cases e
theorem WK.grow{h h':H}{w F:Nat}{vn vf:AV}{ns:List Nd}{fs:List Fm}(x:WK h w F vn vf ns fs) (hl:h.length<=h'.length) (hg:∀i,i<h.length->h'[i]?=h[i]?):WK h' w F vn vf ns fs:=x.keep (o:=none) ⟨hl,λi a _=>hg i a⟩ s_ λi e=>by cases e
theorem Loc.grow{h0 h h':H}{v vn vf:AV}(l:Loc h0 h v vn vf) (hl:h.length<=h'.length):Loc h0 h' v vn vf:=λi e=>by have⟨a,b,c,d⟩:=l i e;exact⟨a,o_,c,d⟩
theorem Loc.ownG{h0 h h':H}{v vn vf:AV}{e:TypeId}{xs:LA}(_:Loc h0 h v vn vf) (hg:∀i,i<h.length->h'[i]?=h[i]?) (o:OwnR e h v xs):OwnR e h' v xs:=by
 rcases o with rfl|⟨id,rfl,a⟩
 ·exact .inl rfl
 exact .inr ⟨id,rfl,by rw[hg id (aB.1 a).1];exact a⟩
theorem FE{h:H}{i j:Nat}{o:VObj}(hij:i≠j) (hv:dX h[j]?=true):dX (h.set i o)[j]?=true:=by rw[aE hij];exact hv
theorem UA{H0:H}{b:Nat}(p:List Int) (x:Ext) (j:Int) (_hl:H0.length=b+16) (hp:p.length<=100000) (hv:∀i,i<16->dX H0[b+i]?=true) :
  ∃(v:AV) (h' g:H) (v2:AV) (h2 g2:H) (ids:List Nat) (q:Nat),cL C.P false H0 53 (.isl [] .full) (.isl (bU p) x)=some (v,h')/\h'.length<=H0.length+1/\fin (b+12) [] H0 h'=g/\(ids=[]\/ids=[b+12]) /\
   (∀i,12<i->i<16->dX g[b+i]?=true)/\g.length=H0.length/\dB (v.mv H0.length (b+12))++lN (v.mv H0.length (b+12))++dB (.isl [.int .i64 j] .full)=ids /\
   cL C.P false g 53 (v.mv H0.length (b+12)) (.isl [.int .i64 j] .full)=some (v2,h2)/\h2.length<=g.length+1/\fin (b+15) ids g h2=g2/\v2.mv g.length (b+15)=.isl (bU (p++[j])) (.tok q)/\q<g2.length/\g2.length=H0.length/\∀i,i<b->g2[i]?=H0[i]?:=by
 have f:=hv 12 o_;have h:=hv 15 o_;have c:=wD f;have k:=wD h;cases p with
 |nil=>
  have l:cL C.P false H0 53 (.isl [] .full) (.isl (bU []) x)=some (.isl [] .full,H0):=by rw[gZ];simp only[dy,u53,s3,b3,z3,km,bU,au];simp[iN]
  have m:cL C.P false H0 53 (.isl [] .full) (.isl [.int .i64 j] .full)=some (.isl (bU [j]) (.tok H0.length),H0++[.tok 1 3]):=by rw[gZ];simp only[dy,u53,s3,b3,z3,km,bU,aS,au];simp[iN];rfl
  refine⟨_,_,H0,_,_,H0.set (b+15) (.tok 1 3),[],b+15,l,o_,vF _ _,.inl rfl,λi _ h2=>hv i h2,rfl,rfl,m,s_,?_,?_,by simp;omega,s_,λi n=>by rw[aE o_]⟩
  ·rw[yq k];rfl
  simp[AV.mv]
 |cons a p=>
  have l:cL C.P false H0 53 (.isl [] .full) (.isl (bU (a::p)) x)=some (.isl (bU (a::p)) (.tok H0.length),H0++[.tok (a::p).length 3]):=by
   have o:=oE (a::p);rw[gZ];simp only[dy,u53,s3,b3,z3,km,o];have e:(bU (a::p)).length=(a::p).length:=by simp[bU]
   simp only[bU,aS,aF,aU]at hp ⊢;simp[iN];omega
  have gt:(H0.set (b+12) (.tok (a::p).length 3))[b+12]?=some (.tok (bU (a::p)).length 3):=by rw[aJ c];simp[bU]
  have m:=uM (P:=C.P) (x:=.full) (ys:=[.int .i64 j]) u53 s3 b3 z3 rfl gt (oE (a::p)) rfl (by simp only[bU,aU,aF,aP]at hp ⊢;omega);have d:(AV.isl (bU (a::p)) (.tok H0.length)).mv H0.length (b+12)=.isl (bU (a::p)) (.tok (b+12)):=by simp[AV.mv]
  refine⟨_,_,H0.set (b+12) (.tok (a::p).length 3),_,_,(H0.set (b+12) (.tok (a::p).length 3)).set (b+12) (.tok ((bU (a::p)).length+1) 3),[b+12],b+12,l,s_,?_,.inr rfl,λi r h2=>FE o_ (hv i h2),s_,by rw[d];rfl,by rw[d];exact m,s_,?_,?_,by simp;omega,s_,λi n=>by rw[aE o_,aE o_]⟩
  ·rw[yq c];rfl
  ·exact tB o_
  rw[oT (by simp;omega)];simp[bU]
structure NdV (d:List Dm) (s:Lb):Prop where
 val:bp d=0
 sm:small s
 len:s.length<1000000
theorem Ko{d:List Dm}{s:Lb}{a:Al}(_h:NdV d s) (he:(cn d).2=0) (ha:a∈(cn d).1) (hc:(eG s a.bind).2=0):NdV a.dem (eG s a.bind).1:=by have c:=yF he a ha;have⟨e,g,_⟩:=qM hc;refine⟨c.valid,λb f=>?_,by rw[e];omega⟩;rw[e]at f;have:=Dk hc b f;exact⟨o_,o_⟩
def Mm(h0:H) (w F:Nat) (vn vf:AV) (R:NR) (r:AV) (h':H):Prop:=r=.tuple [.int .i64 R.ix,.int .i64 R.err]/\∃vn' vf',WK h' w F vn' vf' R.ns R.fs/\FR h0 vn vf w h' vn' vf'
def Ya(h0:H) (w F:Nat) (vn vf vn1 vf1:AV) (ns1:List Nd) (fs:List Fm) (d:List Dm) (s:Lb) (p:List Int) (x1 x2 x3:Ext) (n0:Nat) (m:Nat) (st:PT) (h:H):Prop:=∃k:Nat,m=(cn d).1.length-k/\k<=(cn d).1.length /\
 st.get 0=.ptr w 0/\st.get 1=.isl (d.map cz) x1/\st.get 2=.isl (s.map bN) x2/\st.get 3=.isl (bU p) x3/\st.get 10=.int .i64 n0/\st.get 11=.isl ((cn d).1.map iU) .unk/\st.get 14=.int .i64 k /\
 WK h w F vn1 vf1 ns1 fs/\FR h0 vn vf w h vn1 vf1/\OwnR 45 h (st.get 13) ((((cn d).1.take k).map λa=>(eG s a.bind).1).map binds)/\Loc h0 h (st.get 13) vn1 vf1/\vM s ((cn d).1.drop k)=vM s (cn d).1
def YV(h0:H) (w F g:Nat) (vn vf:AV) (ns1:List Nd) (fs:List Fm) (d:List Dm) (s:Lb) (p:List Int) (x3:Ext) (n0:Nat) (m:Nat) (st:PT) (h:H):Prop:=∃(j:Nat) (nj:List Nd) (fj:List Fm) (ks:List Nat) (vnj vfj:AV),m=(cn d).1.length-j/\j<=(cn d).1.length /\
 st.get 0=.ptr w 0/\st.get 3=.isl (bU p) x3/\st.get 10=.int .i64 n0/\st.get 11=.isl ((cn d).1.map iU) .unk/\st.get 18=.int .i64 j /\
 WK h w F vnj vfj nj fj/\FR h0 vn vf w h vnj vfj/\OwnR 45 h (st.get 13) (((cn d).1.map λa=>(eG s a.bind).1).map binds)/\Loc h0 h (st.get 13) vnj vfj/\OwnR 3 h (st.get 17) (bU (jr ks))/\Loc h0 h (st.get 17) vnj vfj/\(∀i,bj (st.get 13)=some i->bj (st.get 17)≠some i) /\
 ks.length=j/\Grow ns1 fs nj fj/\gi (fF F g) s p j ((cn d).1.drop j) nj fj ks=gi (fF F g) s p 0 (cn d).1 ns1 fs []
theorem OI(i k:Nat):bH C.P 63 (.ptr i k) 2=some (.ptr i (k+2)):=by
 have e:∀i k,bH C.P 63 (.ptr i k) 2=some (.ptr i (k+2)):=λi k=>k_
 exact e i k
theorem qx{s:Lb}:∀ {l:List Al},vM s l=0->∀a∈l,(eG s a.bind).2=0
 |[],_,a,ha=>by cases ha
 |b::l,h,a,ha=>by
  rw[vM]at h;split at h
  ·rename_i q;exact absurd h q
  rename_i q;rcases ak.1 ha with rfl|ha
  ·simpa using q
  exact qx h a ha
theorem RC(F:Nat) (hF:F<=20000):∀(g:Nat) (ns:List Nd) (fs:List Fm) (d:List Dm) (s:Lb) (p:List Int) (h0:H) (w:Nat) (vn vf:AV) (x1 x2 x3:Ext),WK h0 w F vn vf ns fs->NdV d s->p.length<=ns.length->fs.length<=ns.length->F-ns.length<=g->HT h0 x3 ->
  ∃r h',az C h0 (.func 64 []) (some [.ptr w 0,.isl (d.map cz) x1,.isl (s.map bN) x2,.isl (bU p) x3])=some (r,h')/\Mm h0 w F vn vf (fF F g ns fs d s p) r h':=by
 intro g;induction g with
 |zero=>
  intro ns fs d s p h0 w vn vf x1 x2 x3 wk hv hp w8 hg x0;suffices hh:∃r h',Go.V.Call C 64 [.ptr w 0,.isl (d.map cz) x1,.isl (s.map bN) x2,.isl (bU p) x3] h0=some (r,h')/\Mm h0 w F vn vf (fF F 0 ns fs d s p) r h' by
   have⟨r,h',a,q⟩:=hh;exact⟨r,h',by rw[jx k_ rfl];exact a,q⟩
  refine oC rfl func64 rfl k_ (by simp[f64]) λR hR=>?_
  have q3:=QD ns wk.nodes;have q':(F:Int)<=ns.length:=o_;simp[go_sem,G wk.cell,q3,q'];exact hR _ _ _ (.inr rfl) ⟨.tuple [.int .i64 0,.int .i64 14],by simp[ag,df,cG,f64,go_sem],rfl,vn,vf,wk,.refl _ _ _ _⟩
 |succ g ih=>
  intro ns fs d s p h0 w vn vf x1 x2 x3 wk hv hp w8 hg x0;suffices hh:∃r h',Go.V.Call C 64 [.ptr w 0,.isl (d.map cz) x1,.isl (s.map bN) x2,.isl (bU p) x3] h0=some (r,h')/\Mm h0 w F vn vf (fF F (g+1) ns fs d s p) r h' by
   have⟨r,h',a,q⟩:=hh;exact⟨r,h',by rw[jx k_ rfl];exact a,q⟩
  refine oC rfl func64 rfl k_ (by simp[f64]) λR hR=>?_
  have fin:∀(X:PT) (h:H) (i:Nat) (e:Int) (M N:AV) (y1:List Nd) (y2:List Fm),X.get 8=.int .i64 i->X.get 9=.int .i64 e->fF F (g+1) ns fs d s p=⟨y1,y2,i,e⟩->WK h w F M N y1 y2->FR h0 vn vf w h M N->R .ret X h:=λX h i e M N y1 y2 h8 h9 he hw hf=>hR _ _ _ (.inr rfl) ⟨.tuple [.int .i64 i,.int .i64 e],by
   simp[ag,df,cG,f64,h8,h9],by rw[he];exact⟨rfl,M,N,hw,hf⟩⟩
  have q4:=(aB.1 wk.cell).1;have q3:=QD ns wk.nodes;by_cases q:F<=ns.length
  ·have q':(F:Int)<=ns.length:=o_;simp[go_sem,G wk.cell,q3,q'];exact fin _ _ 0 14 _ _ _ _ g_ g_ (by rw[fF,if_pos q]) wk (.refl _ _ _ _)
  have q':¬(F:Int)<=ns.length:=o_;have⟨Y,h1,w9,v0,v1,O,q5⟩:=wk.node d s o_;generalize u:ns++[(⟨d,s,[]⟩:Nd)]=ns1 at *;have hl1:ns1.length=ns.length+1:=by rw[<-u];simp
  generalize v3:pt h1 w (.cells [.int .i64 F,.bool false,Y,vf] .live)=h2 at *;have x4:=Qh h1 w (.int .i64 F) (.bool false) vn vf Y v1;rw[v3]at x4;have bl:=VA (d.map cz) (s.map bN) x1 x2;have bs:=JZ h0 d s x1 x2;have v4:=SQ d x1 (by have:=(nZ hv.val).1;omega);simp[go_sem,G wk.cell,q3,q',bl,bs,w9,G v0,x4,v4];by_cases z:dv d<0
  ·have⟨v5,h3,v6,v7,v8,v9,j'⟩:=O.form ⟨p,s,d⟩ o_;have j0:=QN (bU p) (s.map bN) (d.map cz) x3 x2 x1;have j1:=BG h2 ⟨p,s,d⟩ x3 x2 x1;have j2:=Qg h3 w (.int .i64 F) (.bool false) Y vf v5 v8;simp[go_sem,z,G O.cell,j0,j1,v6,G v7,j2];exact fin _ _ ns.length 0 _ _ _ _ g_ g_ (by rw[fF,if_neg q,if_pos z,u]) v9 (q5.trans j')
  have j3:=MD d x1 hv.val;simp[go_sem,z,j3,H6];by_cases z1:(cn d).2=0
  ·simp[go_sem,z1];have⟨j4,hal⟩:=Cg hv.val;have j5:=q5.len;have gA:∀i,i<h2.length->(h2++[VObj.tok 0 45])[i]?=h2[i]?:=λi f=>aM f
   refine bR (Ya h0 w F vn vf Y vf ns1 fs d s p x1 x2 x3 ns.length) (cn d).1.length ⟨0,rfl,aO _,g_,g_,g_,g_,g_,g_,g_,O.grow s_ gA,q5.grow s_ gA,.inr ⟨h2.length,g_,s_⟩,?_,rfl⟩ ?_
   ·intro i f;simp[go_sem,bj]at f;subst f;exact⟨j5,s_,λe=>by have:=O.nodes.id_lt e;omega,λe=>by have:=OwnR.id_lt O.forms e;omega⟩
   rintro m X h ⟨k,rfl,hk,g0,g1,g2,g3,y3,A,q6,Q,Z,go,lo,he⟩;obtain⟨v13,n⟩:∃v,v=X.get 13:=⟨_,rfl⟩
   rw[<-n]at go lo;by_cases l:k<(cn d).1.length
   ·have I:(k:Int)<(cn d).1.length:=o_;have w2:=wS k o_;have q7:=FH (cn d).1 k l .unk;have x5:=j4 _ (aG l);have ck:=MJ s (cn d).1[k].bind x2 .unk hv.sm x5.1 hv.len x5.2;have l1:=K4 (cn d).1[k];simp only[binds]at l1;rw[aH l,vM]at he;by_cases c:(eG s (cn d).1[k].bind).2=0
    ·rw[if_neg (by simp[c])]at he;have⟨v',h',ha,ho,S,q8⟩:=Jg (ys:=[(eG s (cn d).1[k].bind).1]) (x:=.full) go (by simp only[aU,ac,aF,aP];omega);rw[show((cn d).1.take k).map (λa=>(eG s a.bind).1)++[(eG s (cn d).1[k].bind).1]=((cn d).1.take (k+1)).map λa=>(eG s a.bind).1 by rw[aI l,bY];rfl]at ho;have x6:=S.1;have⟨j6,j7,j8⟩:=lo.app Q Z q4 S q8 o_ λi f=>OwnR.id_lt ho f
     simp only[aS,au]at ha;have z6:=GB;simp only[binds]at z6 ha;simp[go_sem,g2,A,q6,<-n,I,q7,l1,ck,rM,binds,c,z6,ha,-Int.natCast_add,w2];exact⟨(cn d).1.length-(k+1),o_,k+1,rfl,l,g_,g_,g_,g_,g_,g_,g_,j6,j7,by simpa[go_sem]using ho,by simpa[go_sem]using j8,he⟩
    rw[if_pos c]at he;simp[go_sem,g2,A,q6,I,q7,l1,ck,rM,binds,c];exact fin _ _ 0 (eG s (cn d).1[k].bind).2 _ _ _ _ g_ g_ (by rw[fF,if_neg q,if_neg z,if_neg (by simp[z1]),<-he,if_pos c,u]) Q Z
   have:k=(cn d).1.length:=o_;subst this;rw[aj,vM]at he;rw[ao]at go;have o:fF F (g+1) ns fs d s p=if(gi (fF F g) s p 0 (cn d).1 ns1 fs []).err≠0 then⟨(gi (fF F g) s p 0 (cn d).1 ns1 fs []).ns,(gi (fF F g) s p 0 (cn d).1 ns1 fs []).fs,0,(gi (fF F g) s p 0 (cn d).1 ns1 fs []).err⟩
    else⟨kY (gi (fF F g) s p 0 (cn d).1 ns1 fs []).ns ns.length (gi (fF F g) s p 0 (cn d).1 ns1 fs []).ks,(gi (fF F g) s p 0 (cn d).1 ns1 fs []).fs,ns.length,0⟩:=by
    rw[fF,if_neg q,if_neg z,if_neg (by simp[z1]),if_neg (by simp[<-he]),u]
   have j9:=qx he.symm;have gB:∀i,i<h.length->(h++[VObj.tok 0 3])[i]?=h[i]?:=λi f=>aM f
   have x7:=Z.len;simp[go_sem,A,q6];refine bR (YV h0 w F g vn vf ns1 fs d s p x3 ns.length) (cn d).1.length ⟨0,ns1,fs,[],Y,vf,rfl,aO _,g_,g_,g_,g_,g_,Q.grow s_ gB,Z.grow s_ gB,by simpa[go_sem,<-n]using lo.ownG gB go,by simpa[go_sem,<-n]using lo.grow s_,.inr ⟨h.length,by simp[go_sem,bU,jr],by simp[bU,jr]⟩,?_,?_,rfl,.refl _ _,rfl⟩ ?_
   ·intro i f;simp[go_sem,bj]at f;subst f;exact⟨x7,s_,λe=>by have:=Q.nodes.id_lt e;omega,λe=>by have:=OwnR.id_lt Q.forms e;omega⟩
   ·intro i f e;simp[go_sem,bj,<-n]at f e;have:=(lo i f).2.1;omega
   clear g0 g1 g2 g3 y3 A q6 go lo Q Z n gB x7 hk l;rintro m X h ⟨j,nj,fj,ks,k',k0,rfl,hj,g0,g3,y3,A,U,y4,y5,z7,z8,z9,y',D,k1,q9,E⟩;by_cases l:j<(cn d).1.length
   ·have I:(j:Int)<(cn d).1.length:=o_;have w2:=wS j o_;have q7:=FH (cn d).1 j l .unk;have k2:j<((cn d).1.map λa=>(eG s a.bind).1).length:=by simpa using l
    have y0:=λy=>Rw ((cn d).1.map λa=>(eG s a.bind).1) j k2 y
    have k3:=QE ((cn d).1.map λa=>(eG s a.bind).1)[j];simp only[List.getElem_map]at y0 k3;have ca:=j9 _ (aG l);have nv:=Ko hv z1 (aG l) ca;have k4:=q9.len;have hgf:=q9.flen;rw[aH l,gi]at E;have l2:=QG (cn d).1[j];have⟨k5,n,x8⟩:=Gd z7;generalize hA:(cn d).1[j]=a at *;have hfl2:=y5.len;simp[go_sem,A,U,I];refine VS 23 _ 16 (by rw[fu];decide) rfl k_ d_ ?_;simp only[ic,li,gQ,eX];generalize x9:h++List.replicate _ VObj.void=H0;have B:Pl h H0 16:=x9▸Pl.mk' _ 16;have hlen:=B.len;clear x9;refine bd (.ptr w 0) rfl rfl (B.isV (i:=0) d_) (by simp[opN,go_sem,g0]) (by simp only[AV.mv];rw[if_neg o_]) ?_;refine bd (.isl ((cn d).1.map iU) .unk) rfl rfl (B.isV (i:=1) d_) (by simp[opN,go_sem,A]) rfl ?_;refine bd (.int .i64 j) rfl rfl (B.isV (i:=2) d_) (by simp[opN,go_sem,U]) rfl ?_;refine bd (.iptr (iU a) 0) rfl rfl (B.isV (i:=3) d_) (by simp[opN,go_sem,q7]) rfl ?_;refine bd (.iptr (iU a) 2) rfl rfl (B.isV (i:=4) d_) (by simp[opN,go_sem]) rfl ?_;refine eP (.iptr (iU a) 2) (bF a.dem) g_ (l2 _) rfl (B.isV (i:=5) d_) rfl ?_;refine bd (X.get 13) rfl rfl (B.isV (i:=6) d_) (by simp[opN,go_sem]) (by rw[n];exact FC (λt ht=>by have:=x8 t ht;omega)) ?_;refine bd (.int .i64 j) rfl rfl (B.isV (i:=7) d_) (by simp[opN,go_sem,U]) rfl ?_;refine bd (.iptr (binds (eG s a.bind).1) 0) rfl rfl (B.isV (i:=8) d_) (by simp[opN,go_sem,n];simpa using y0 k5) rfl ?_;refine eP (.iptr (binds (eG s a.bind).1) 0) (binds (eG s a.bind).1) g_ (QE _ _) rfl (B.isV (i:=9) d_) rfl ?_;refine vX (parts:=[]) [] (.isl [] .full) rfl rfl (BF _) (B.isV (i:=10) d_) ?_;rw[show(AV.isl [] .full).mv H0.length (h.length+10)=.isl [] .full from rfl];refine bd (.isl (bU p) x3) rfl rfl (B.isV (i:=11) d_) (by simp[opN,go_sem,g3]) (FC (λt ht=>by have:=x0 t ht;omega)) ?_;have⟨v,k6,w',v2,k7,z',ids,qq,k8,k9,g',w0,y6,pa6,y7,g4,g5,w1,w3,w4,pa13,w5⟩:=UA (H0:=H0) (b:=h.length) p x3 j o_ o_ (λi f=>B.isV f);refine tL (.isl [] .full) (.isl (bU p) x3) v k6 w' g_ g_ k8 k9 rfl (B.isV (i:=12) d_) g' ?_;refine bd (.int .i64 j) rfl rfl (y6 13 d_ d_) (by simp[opN,go_sem,U]) rfl ?_;refine vX (parts:=[(0,.tmp 115)]) [(0,.int .i64 j)] (.isl [.int .i64 j] .full) (Ey g_ rfl) rfl (tI _ _) (y6 14 d_ d_) ?_;rw[show(AV.isl [.int .i64 j] .full).mv w'.length (h.length+14)=.isl [.int .i64 j] .full from rfl];refine tL (v.mv H0.length (h.length+12)) (.isl [.int .i64 j] .full) v2 k7 z' g_ g_ g4 g5 (by rw[y7];rcases w0 with e|e<;>rw[e]<;>simp) (y6 15 d_ d_) (by rw[y7];exact w1) ?_;rw[w3,y7];have gC:∀i,i<h.length->z'[i]?=h[i]?:=λi f=>by rw[w5 i f,B.old i f]
    have z0:h.length<=z'.length:=o_;obtain⟨r,h',cc,rfl,M,N,w6,q0⟩:=ih nj fj a.dem (eG s a.bind).1 (p++[(j:Int)]) z' w k' k0 .unk .unk (.tok qq) (y4.grow z0 gC) nv (by rw[aK];simp only[aF,aP];omega) o_ o_ (λt ht=>by cases ht;exact w4);have w7:=(y5.grow z0 gC).trans q0;have y8:=y'.ownG gC z9;have q1:=y'.grow z0;have y9:=z8.ownG gC z7;have q2:=z8.grow z0;have J:=q1.own q0 q4 y8;have z3:=q2.own q0 q4 y9;have K:=q1.step q0;have L:=q2.step q0;refine⟨?_,?_⟩
    ·unfold tR;generalize hb:Region.before _=b;have g6:(b.getD 15 0).testBit 12=true:=by rw[<-hb];kernel_rfl
     clear hb;rcases w0 with rfl|rfl
     ·simp[nw,tQ,dB,lN,List.range,List.range.loop]
     simp[nw,tQ,dB,lN,List.range,List.range.loop];simpa[ar]using g6
    simp only[bF,binds];generalize g7:fF F g nj fj a.dem (eG s a.bind).1 (p++[(j:Int)])=RR at *;by_cases z2:RR.err=0
    ·rw[if_neg (by simp[z2])]at E;obtain⟨v17,z4⟩:∃v,v=X.get 17:=⟨_,rfl⟩
     rw[<-z4]at J K D;have⟨v',g8,ha,ho,S,q8⟩:=zi (ys:=[(RR.ix:Int)]) (x:=.full) J (by simp only[jr,aU,aF,aP];omega);rw[show jr ks++[(RR.ix:Int)]=jr (ks++[RR.ix]) by simp[jr]]at ho;have x6:=S.1;have⟨z5,x',g9⟩:=K.app w6 w7 q4 S q8 o_ λi f=>OwnR.id_lt ho f
     simp only[bU,aS,au]at ha;have b53:=tI;simp[go_sem,cc,z2,<-z4,b53,ha,G z5.cell,g0,U,-Int.natCast_add,w2];refine⟨(cn d).1.length-(j+1),o_,j+1,RR.ns,RR.fs,ks++[RR.ix],M,N,rfl,l,g_,g_,g_,g_,g_,z5,x',?_,?_,by simpa[go_sem]using ho,by simpa[go_sem]using g9,?_,by simp[k1],q9.trans (g7▸Ap F g nj fj _ _ _),E⟩
     ·have:OwnR 45 g8 (X.get 13) _:=z3.keep S λi f e=>D i f e
      simpa[go_sem]using this
     ·simpa[go_sem]using L.grow x6
     intro i f e;have f:bj (X.get 13)=some i:=by simpa[go_sem]using f
     have e:bj v'=some i:=by simpa[go_sem]using e
     rcases q8 with k|⟨_,k⟩
     ·rw[k]at e;exact D i f e
     rw[k]at e;simp only[aA]at e;have:=(L i f).2.1;omega
    rw[if_pos z2]at E;rw[<-E,if_pos z2]at o;simp[go_sem,cc,z2];exact fin _ _ 0 RR.err _ _ _ _ g_ g_ o w6 w7
   have:j=(cn d).1.length:=o_;subst this;rw[aj,gi]at E;rw[<-E,if_neg s_]at o;have k4:=q9.len;have⟨y17,z4⟩:=z9.isl;have⟨id,h',e1,e2,z5,x'⟩:=y4.kids (k:=ns.length) o_ ks y17;simp[go_sem,g0,y3,A,U,G y4.cell,e1,z4,OI,e2];exact fin _ _ ns.length 0 _ _ _ _ g_ g_ o z5 (y5.trans x')
  simp[go_sem,z1];exact fin _ _ 0 (cn d).2 _ _ _ _ g_ g_ (by rw[fF,if_neg q,if_neg z,if_pos z1,u]) O q5
end Go.VZ
