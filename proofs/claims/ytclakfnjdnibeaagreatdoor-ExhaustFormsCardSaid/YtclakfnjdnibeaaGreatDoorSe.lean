/- A part of the proof. -/
import Derived.Test.YtclakfnjdnibeaaGreatDoorSd
import Derived.MakeChecks
import Derived.OpenShut
set_option maxHeartbeats 16000000
set_option maxRecDepth 8000
namespace Go.VZ
open Go Go.V Go.Proofs Tryz TL
theorem Ki{x y:T}{ps:Lb}{k:Nat}(hk:k<ps.length):okP x y (ps.take (k+1))=(okP x y (ps.take k)&&(decide (bc (jB x y ps[k].1)=0)&&decide (bc (jB x y ps[k].2)=0))):=by rw[<-dQ hk,okP,List.all_append,okP];simp
theorem Kg{x y:T}{s:Lb}{k:Nat}(hk:k<s.length):okS x y (s.take (k+1))=(okS x y (s.take k)&&decide (bc (jB x y s[k].2)=0)):=by rw[<-dQ hk,okS,List.all_append,okS];simp
theorem H8{x y:T}{ps:Lb}{k:Nat}(hk:k<ps.length):pc x y (ps.take k)++[(jB x y ps[k].1,jB x y ps[k].2)]=pc x y (ps.take (k+1)):=by rw[<-dQ hk,pc,pc,bY];rfl
def WJ(x y:T) (ps s:Lb) (m:Nat) (st:PT) (h:H):Prop:=∃(k:Nat) (v:AV),m=ps.length-k/\k<=ps.length/\h[0]?=some (.cells (enc x).cells .live)/\h[1]?=some (.cells (enc y).cells .live)/\st.get 2=binds ps/\st.get 3=binds s/\st.get 4=.ptr 0 0/\st.get 5=.ptr 1 0/\st.get 11=v/\st.get 12=.bool (okP x y (ps.take k))/\st.get 13=.int .i64 k /\
 OwnR 283 h v ((pc x y (ps.take k)).map bN)
def WI(x y:T) (ps s:Lb) (m:Nat) (st:PT) (h:H):Prop:=∃(k:Nat) (w v:AV) (o:Lb) (d:Bool),m=s.length-k/\k<=s.length/\o.length<=k+(if d=true then 1 else 0)/\h[0]?=some (.cells (enc x).cells .live)/\h[1]?=some (.cells (enc y).cells .live)/\st.get 3=binds s/\st.get 4=.ptr 0 0/\st.get 5=.ptr 1 0/\st.get 11=w/\st.get 12=.bool (okP x y ps&&okS x y (s.take k))/\st.get 15=v/\st.get 16=.bool d/\st.get 17=.int .i64 k /\
 OwnR 283 h w ((pc x y ps).map bN)/\OwnR 84 h v (o.map bN)/\jg (x,y) (lV x y s)=(if d=true then o++(lV x y s).drop k else o++jg (x,y) ((lV x y s).drop k))
def Ay(l:Lb):Prop:=∀p∈l,p.1.size<=400/\p.2.size<=400
theorem wC{x y t:T}(hy:y.size<=400) (ht:t.size<=400):(jB x y t).size<4000000:=by have:=IA (x:=x) 400 hy o_ t;have:400*t.size<=400*400:=kN _ ht;omega
theorem PZ(x y:T) (ps s:Lb) (hx:x.size<=400) (hy:y.size<=400) (hp:Ay ps) (hs:Ay s) (hpl:ps.length<4000000) (hsl:s.length<4000000) :
  ay C 323 [enc x,enc y,binds ps,binds s]=some (.tuple [binds (pc x y ps),binds (jg (x,y) (lV x y s)),.bool (okU x y ps s)]):=by
 refine bD func323 rfl λR hR=>?_
 have y3:=Nq ps;simp[go_sem,CR];refine bR (WJ x y ps s) ps.length ⟨0,.isl [] (.tok 4),rfl,aO _,rfl,rfl,g_,g_,g_,g_,g_,by simp[go_sem,okP],g_,.inr ⟨4,rfl,rfl⟩⟩ ?_;rintro m st h ⟨k,v,rfl,hk,m0,m1,g2,g3,g4,g5,L,e,X,go⟩;have z6:0<h.length:=(aB.1 m0).1;have z7:1<h.length:=(aB.1 m1).1;by_cases E:k<ps.length
 ·have q3:(k:Int)<ps.length:=o_;have K:bP C.P 284 (binds ps) (.int .i64 k)=some (.iptr (bN ps[k]) 0):=LK ps k E .unk;have w2:=wS k o_;have y0:=hp _ (aG E);have t:=Ki (x:=x) (y:=y) E;have z0:=H8 (x:=x) (y:=y) E;generalize ps[k]=p at K y0 t z0;obtain⟨A,eA⟩:∃A,A=jB x y p.1:=⟨_,rfl⟩
  obtain⟨B,eB⟩:∃B,B=jB x y p.2:=⟨_,rfl⟩
  have sA:A.size<4000000:=by rw[eA];exact wC hy y0.1
  have sB:B.size<4000000:=by rw[eB];exact wC hy y0.2
  have cA:=CN x y p.1 o_ o_ o_;have cB:=CN x y p.2 o_ o_ o_;rw[<-eA]at cA t z0;rw[<-eB]at cB t z0;simp[go_sem,g2,X,y3,q3];refine sU 6 _ (λc h'=>c.get 2=binds ps/\c.get 3=binds s/\c.get 4=.ptr 0 0/\c.get 5=.ptr 1 0/\c.get 11=v/\c.get 12=.bool (okP x y (ps.take k))/\c.get 13=.int .i64 k/\c.get 14=.ptr (h.length+17) 0/\h'[h.length+17]?=some (.cells (bN (A,B)).cells .live)/\Keep h h' none) (by rw[fu];decide) k_ ?_ ?_
  ·generalize M:h++List.replicate _ VObj.void=H0;have a:Pl h H0 19:=M▸Pl.mk' h 19;have z3:=a.len;clear M;have p0:=gH (a.get m0);have p1:=gH (a.get m1);have q7:cZ H0 dH [enc p.1,enc x,enc y]=[]:=(iu (h:=H0) (oY _ _ _) (by simp[aw]) dH (by simp[dH])).2;have y6:cZ H0 dH [enc p.2,enc x,enc y]=[]:=(iu (h:=H0) (oY _ _ _) (by simp[aw]) dH (by simp[dH])).2;refine bd (binds ps) rfl rfl (a.isV (i:=0) d_) (by simp[opN,go_sem,g2]) rfl ?_;refine bd (.int .i64 k) rfl rfl (a.isV (i:=1) d_) (by simp[opN,go_sem,X]) rfl ?_;refine bd (.iptr (bN p) 0) rfl rfl (a.isV (i:=2) d_) (by simp[opN,go_sem,K]) rfl ?_;refine bd (.iptr (bN p) 0) rfl rfl (a.isV (i:=3) d_) (by simp[opN,go_sem]) rfl ?_;refine eP (.iptr (bN p) 0) (enc p.1) g_ (jf p H0) (by simp[nw]) (a.isV (i:=4) d_) (fV _ _ _) ?_;refine eP (.ptr 0 0) (enc x) g_ p0 (kc o_) (a.isV (i:=5) d_) (fV _ _ _) ?_;refine eP (.ptr 1 0) (enc y) g_ p1 (kc o_) (a.isV (i:=6) d_) (fV _ _ _) ?_;refine vW (args:=[.tmp 29,.tmp 30,.tmp 31]) [enc p.1,enc x,enc y] (enc A) k_ rfl g_ q7 (cA _) (a.isV (i:=7) d_) (fV _ _ _) ?_;refine bd (binds ps) rfl rfl (a.isV (i:=8) d_) (by simp[opN,go_sem,g2]) rfl ?_;refine bd (.int .i64 k) rfl rfl (a.isV (i:=9) d_) (by simp[opN,go_sem,X]) rfl ?_;refine bd (.iptr (bN p) 0) rfl rfl (a.isV (i:=10) d_) (by simp[opN,go_sem,K]) rfl ?_;refine bd (.iptr (bN p) 4) rfl rfl (a.isV (i:=11) d_) (by simp[opN,go_sem]) rfl ?_;refine eP (.iptr (bN p) 4) (enc p.2) g_ (kL p H0) (by simp[nw]) (a.isV (i:=12) d_) (fV _ _ _) ?_;refine eP (.ptr 0 0) (enc x) g_ p0 (kc o_) (a.isV (i:=13) d_) (fV _ _ _) ?_;refine eP (.ptr 1 0) (enc y) g_ p1 (kc o_) (a.isV (i:=14) d_) (fV _ _ _) ?_;refine vW (args:=[.tmp 37,.tmp 38,.tmp 39]) [enc p.2,enc x,enc y] (enc B) k_ rfl g_ y6 (cB _) (a.isV (i:=15) d_) (fV _ _ _) ?_;refine bd (bN (A,B)) rfl rfl (a.isV (i:=16) d_) (by simp[opN,go_sem,fU,iD,MT]) rfl ?_;refine qQ _ Tg (a.isV (i:=17) d_) ?_;simp only[aa,Gj];have F:h.length+17<H0.length:=o_;obtain⟨H1,n⟩:∃g,g=H0.set (h.length+17) (.cells z8 .live):=⟨_,rfl⟩
   have q8:H1[h.length+17]?=some (.cells z8 .live):=by rw[n];exact aJ F
   have y4:dX H1[h.length+18]?=true:=by rw[n];exact kF (a.isV (i:=18) d_) o_
   rw[<-n];refine nE (h.length+17) 0 (bN (A,B)) _ g_ g_ (Tu (A,B) q8) o_ y4 ?_;rw[ss];refine⟨?_,?_⟩
   ·unfold tR;generalize hb:Region.before _=b;have q9:(b.getD 18 0).testBit 17=true:=by rw[<-hb];kernel_rfl
    clear hb;have o1:0≠h.length+7:=o_;have o2:0≠h.length+15:=o_;have o3:0≠h.length+17:=o_;have o4:0≠h.length+18:=o_;have o5:1≠h.length+7:=o_;have o6:1≠h.length+15:=o_;have o7:1≠h.length+17:=o_;have o8:1≠h.length+18:=o_;simp[nw,tQ,List.range,List.range.loop];simpa[ar]using q9
   have N:h.length+17<H1.length:=by rw[n];simpa using F
   refine⟨g_,g_,g_,g_,g_,g_,g_,g_,aJ N,?_⟩;exact⟨by rw[n];simp;omega,λj hj _=>by rw[aE o_,n,aE o_,a.old j hj]⟩
  rintro c h' ⟨g2,g3,g4,g5,L,e,X,z9,mp,kp⟩;have u:=kp.get m0 s_;have z:=kp.get m1 s_;have q':=go.keep kp s_;have lA:=Nx mp;have lB:=Nw mp;have lP:=UW mp;have vA:=kq A sA;have vB:=kq B sB;have⟨v',h2,ha,ho,f,y1⟩:=wX (ys:=[(A,B)]) (x:=.full) q' (by simp only[pc,aU,ac,aF,aP];omega);rw[z0]at ho;simp only[aS,au]at ha;cases V:okP x y (ps.take k)
  ·rw[V,gm]at t;rw[V]at e;simp[go_sem,L,e,X,z9,lP,nq,mW,ha,-Int.natCast_add,w2];exact⟨ps.length-(k+1),o_,k+1,v',rfl,E,f.get u (cK q' u),f.get z (cK q' z),g_,g_,g_,g_,g_,by simp[go_sem,t],g_,ho⟩
  rw[V,jc]at t;rw[V]at e;by_cases q1:bc A=0
  ·rw[decide_eq_true q1,jc]at t;by_cases q2:bc B=0
   ·rw[decide_eq_true q2]at t;simp[go_sem,L,e,X,z9,lA,lB,vA,vB,q1,q2,lP,nq,mW,ha,-Int.natCast_add,w2];exact⟨ps.length-(k+1),o_,k+1,v',rfl,E,f.get u (cK q' u),f.get z (cK q' z),g_,g_,g_,g_,g_,by simp[go_sem,t],g_,ho⟩
   rw[decide_eq_false q2]at t;simp[go_sem,L,e,X,z9,lA,lB,vA,vB,q1,q2,lP,nq,mW,ha,-Int.natCast_add,w2];exact⟨ps.length-(k+1),o_,k+1,v',rfl,E,f.get u (cK q' u),f.get z (cK q' z),g_,g_,g_,g_,g_,by simp[go_sem,t],g_,ho⟩
  rw[decide_eq_false q1,gm]at t;simp[go_sem,L,e,X,z9,lA,vA,q1,lP,nq,mW,ha,-Int.natCast_add,w2];exact⟨ps.length-(k+1),o_,k+1,v',rfl,E,f.get u (cK q' u),f.get z (cK q' z),g_,g_,g_,g_,g_,by simp[go_sem,t],g_,ho⟩
 have:k=ps.length:=o_;subst this;rw[ao]at go e;simp[go_sem,g2,X,y3];have z4:=wB s;refine bR (WI x y ps s) s.length ⟨0,v,.isl [] (.tok h.length),[],false,rfl,aO _,s_,ga m0,ga m1,g_,g_,g_,g_,by simp[go_sem,e,okS],g_,g_,g_,go.keep (Keep.append _ _ none) s_,.inr ⟨h.length,rfl,s_⟩,s_⟩ ?_;clear z6 z7 go X e L g5 g4 g3 g2 m0 m1 st h v;rintro m st h ⟨k,w,v,o,d,rfl,hk,Y,m0,m1,g3,g4,g5,L,e,I,q4,D,gw,gv,z2⟩;have lx:=gH m0;have ly:=gH m1;have y9:o.length<=k+1:=by split at Y<;>omega
 by_cases E:k<s.length
 ·have q3:(k:Int)<s.length:=o_;have K:bP C.P 45 (binds s) (.int .i64 k)=some (.iptr (bN s[k]) 0):=pH s k E .unk;have w2:=wS k o_;have y5:=hs _ (aG E);have t:=Kg (x:=x) (y:=y) E;have z':(lV x y s).drop k=(s[k].1,jB x y s[k].2)::(lV x y s).drop (k+1):=by
   rw[aH (by simpa[lV]using E)];congr 1
   simp[lV]
  generalize s[k]=b at K y5 t z';obtain⟨B,eB⟩:∃B,B=jB x y b.2:=⟨_,rfl⟩
  have sB:B.size<4000000:=by rw[eB];exact wC hy y5.2
  have cB:=CN x y b.2 o_ o_ o_;rw[<-eB]at cB t z';have lb:=jf b;have y':=rG x b.1 o_ o_;cases d
  ·by_cases q:x.cmp b.1<0
   ·have⟨v1,Z,z5,y2,z1,_⟩:=jb (ys:=[(x,y)]) (x:=.full) gv (by simp only[aF,aP];omega);simp only[aS,au]at z5;have y7:=gw.keep z1 (ug d_ gw gv);have n0:=z1.get m0 (cK gv m0);have n1:=z1.get m1 (cK gv m1);simp[go_sem,g3,g4,g5,I,q4,D,z4,q3,K,pJ,lb,lx,ly,y',q,th,nq,iD,eV,z5];refine sU 17 _ (λc h'=>c.get 3=binds s/\c.get 4=.ptr 0 0/\c.get 5=.ptr 1 0/\c.get 11=w/\c.get 12=.bool (okP x y ps&&okS x y (s.take k))/\c.get 15=v1/\c.get 16=.bool true/\c.get 17=.int .i64 k/\c.get 18=.ptr (Z.length+14) 0/\h'[Z.length+14]?=some (.cells (bN (b.1,B)).cells .live)/\Keep Z h' none) (by rw[fu];decide) k_ ?_ ?_
    ·have z6:0<Z.length:=(aB.1 n0).1;have z7:1<Z.length:=(aB.1 n1).1;generalize M:Z++List.replicate _ VObj.void=H0;have a:Pl Z H0 16:=M▸Pl.mk' Z 16;have z3:=a.len;clear M;have p0:=gH (a.get n0);have p1:=gH (a.get n1);have q7:cZ H0 dH [enc b.2,enc x,enc y]=[]:=(iu (h:=H0) (oY _ _ _) (by simp[aw]) dH (by simp[dH])).2;refine bd (binds s) rfl rfl (a.isV (i:=0) d_) (by simp[opN,go_sem,g3]) rfl ?_;refine bd (.int .i64 k) rfl rfl (a.isV (i:=1) d_) (by simp[opN,go_sem,D]) rfl ?_;refine bd (.iptr (bN b) 0) rfl rfl (a.isV (i:=2) d_) (by simp[opN,go_sem,K]) rfl ?_;refine bd (.iptr (bN b) 0) rfl rfl (a.isV (i:=3) d_) (by simp[opN,go_sem,pJ]) rfl ?_;refine eP (.iptr (bN b) 0) (enc b.1) g_ (jf b H0) (by simp[nw]) (a.isV (i:=4) d_) (fV _ _ _) ?_;refine bd (binds s) rfl rfl (a.isV (i:=5) d_) (by simp[opN,go_sem,g3]) rfl ?_;refine bd (.int .i64 k) rfl rfl (a.isV (i:=6) d_) (by simp[opN,go_sem,D]) rfl ?_;refine bd (.iptr (bN b) 0) rfl rfl (a.isV (i:=7) d_) (by simp[opN,go_sem,K]) rfl ?_;refine bd (.iptr (bN b) 4) rfl rfl (a.isV (i:=8) d_) (by simp[opN,go_sem,xh]) rfl ?_;refine eP (.iptr (bN b) 4) (enc b.2) g_ (kL b H0) (by simp[nw]) (a.isV (i:=9) d_) (fV _ _ _) ?_;refine eP (.ptr 0 0) (enc x) g_ p0 (kc o_) (a.isV (i:=10) d_) (fV _ _ _) ?_;refine eP (.ptr 1 0) (enc y) g_ p1 (kc o_) (a.isV (i:=11) d_) (fV _ _ _) ?_;refine vW (args:=[.tmp 92,.tmp 93,.tmp 94]) [enc b.2,enc x,enc y] (enc B) k_ rfl g_ q7 (cB _) (a.isV (i:=12) d_) (fV _ _ _) ?_;refine bd (bN (b.1,B)) rfl rfl (a.isV (i:=13) d_) (by simp[opN,go_sem,fU,iD,th]) rfl ?_;refine qQ _ Jq (a.isV (i:=14) d_) ?_;simp only[aa,Gj];have F:Z.length+14<H0.length:=o_;obtain⟨H1,n⟩:∃g,g=H0.set (Z.length+14) (.cells z8 .live):=⟨_,rfl⟩
     have q8:H1[Z.length+14]?=some (.cells z8 .live):=by rw[n];exact aJ F
     have q5:dX H1[Z.length+15]?=true:=by rw[n];exact kF (a.isV (i:=15) d_) o_
     rw[<-n];refine nE (Z.length+14) 0 (bN (b.1,B)) _ g_ g_ (J8 (b.1,B) q8) o_ q5 ?_;rw[ss];refine⟨?_,?_⟩
     ·unfold tR;generalize hb:Region.before _=bb;have q9:(bb.getD 15 0).testBit 14=true:=by rw[<-hb];kernel_rfl
      clear hb;have o1:0≠Z.length+12:=o_;have o2:0≠Z.length+14:=o_;have o3:0≠Z.length+15:=o_;have o4:1≠Z.length+12:=o_;have o5:1≠Z.length+14:=o_;have o6:1≠Z.length+15:=o_;simp[nw,tQ,List.range,List.range.loop];simpa[ar]using q9
     have N:Z.length+14<H1.length:=by rw[n];simpa using F
     refine⟨g_,g_,g_,g_,g_,g_,g_,g_,g_,aJ N,?_⟩;exact⟨by rw[n];simp;omega,λj hj _=>by rw[aE o_,n,aE o_,a.old j hj]⟩
    rintro c h' ⟨g3,g4,g5,L,e,I,q4,D,O,mp,kp⟩;have u:=kp.get n0 s_;have z:=kp.get n1 s_;have q6:=y7.keep kp s_;have J:=y2.keep kp s_;have lB:=Nw mp;have lP:=ldB mp;have vB:=kq B sB;have⟨v',h2,ha,ho,f,y1⟩:=jb (ys:=[(b.1,B)]) (x:=.full) J (by simp only[aK,aF,aP];omega);simp only[aS,au]at ha;have Q:=q6.keep f (ug d_ q6 J);have S:=cK J u;have U:=cK J z;have G:jg (x,y) (lV x y s)=(if true=true then((o++[(x,y)])++[(b.1,B)])++(lV x y s).drop (k+1)else((o++[(x,y)])++[(b.1,B)])++jg (x,y) ((lV x y s).drop (k+1))):=by rw[z2,z'];simp[jg,q]
    cases V:(okP x y ps&&okS x y (s.take k))
    ·rw[V]at e;have r:(okP x y ps&&okS x y (s.take (k+1)))=false:=by rw[t,<-gD,V,gm]
     simp[go_sem,e,I,D,O,lP,nq,eV,ha,-Int.natCast_add,w2];exact⟨s.length-(k+1),o_,k+1,w,v',_,true,rfl,E,by simp at Y ⊢;omega,f.get u S,f.get z U,g_,g_,g_,g_,by simp[go_sem,r],g_,g_,g_,Q,ho,G⟩
    rw[V]at e;by_cases q1:bc B=0
    ·have r:(okP x y ps&&okS x y (s.take (k+1)))=true:=by rw[t,<-gD,V,decide_eq_true q1];rfl
     simp[go_sem,e,I,D,O,lB,vB,q1,lP,nq,eV,ha,-Int.natCast_add,w2];exact⟨s.length-(k+1),o_,k+1,w,v',_,true,rfl,E,by simp at Y ⊢;omega,f.get u S,f.get z U,g_,g_,g_,g_,by simp[go_sem,r],g_,g_,g_,Q,ho,G⟩
    have r:(okP x y ps&&okS x y (s.take (k+1)))=false:=by rw[t,<-gD,V,decide_eq_false q1];rfl
    simp[go_sem,e,I,D,O,lB,vB,q1,lP,nq,eV,ha,-Int.natCast_add,w2];exact⟨s.length-(k+1),o_,k+1,w,v',_,true,rfl,E,by simp at Y ⊢;omega,f.get u S,f.get z U,g_,g_,g_,g_,by simp[go_sem,r],g_,g_,g_,Q,ho,G⟩
   simp[go_sem,g3,g4,q4,D,z4,q3,K,pJ,lb,lx,y',q];refine sU 17 _ (λc h'=>c.get 3=binds s/\c.get 4=.ptr 0 0/\c.get 5=.ptr 1 0/\c.get 11=w/\c.get 12=.bool (okP x y ps&&okS x y (s.take k))/\c.get 15=v/\c.get 16=.bool false/\c.get 17=.int .i64 k/\c.get 18=.ptr (h.length+14) 0/\h'[h.length+14]?=some (.cells (bN (b.1,B)).cells .live)/\Keep h h' none) (by rw[fu];decide) k_ ?_ ?_
   ·have z6:0<h.length:=(aB.1 m0).1;have z7:1<h.length:=(aB.1 m1).1;generalize M:h++List.replicate _ VObj.void=H0;have a:Pl h H0 16:=M▸Pl.mk' h 16;have z3:=a.len;clear M;have p0:=gH (a.get m0);have p1:=gH (a.get m1);have q7:cZ H0 dH [enc b.2,enc x,enc y]=[]:=(iu (h:=H0) (oY _ _ _) (by simp[aw]) dH (by simp[dH])).2;refine bd (binds s) rfl rfl (a.isV (i:=0) d_) (by simp[opN,go_sem,g3]) rfl ?_;refine bd (.int .i64 k) rfl rfl (a.isV (i:=1) d_) (by simp[opN,go_sem,D]) rfl ?_;refine bd (.iptr (bN b) 0) rfl rfl (a.isV (i:=2) d_) (by simp[opN,go_sem,K]) rfl ?_;refine bd (.iptr (bN b) 0) rfl rfl (a.isV (i:=3) d_) (by simp[opN,go_sem,pJ]) rfl ?_;refine eP (.iptr (bN b) 0) (enc b.1) g_ (jf b H0) (by simp[nw]) (a.isV (i:=4) d_) (fV _ _ _) ?_;refine bd (binds s) rfl rfl (a.isV (i:=5) d_) (by simp[opN,go_sem,g3]) rfl ?_;refine bd (.int .i64 k) rfl rfl (a.isV (i:=6) d_) (by simp[opN,go_sem,D]) rfl ?_;refine bd (.iptr (bN b) 0) rfl rfl (a.isV (i:=7) d_) (by simp[opN,go_sem,K]) rfl ?_;refine bd (.iptr (bN b) 4) rfl rfl (a.isV (i:=8) d_) (by simp[opN,go_sem,xh]) rfl ?_;refine eP (.iptr (bN b) 4) (enc b.2) g_ (kL b H0) (by simp[nw]) (a.isV (i:=9) d_) (fV _ _ _) ?_;refine eP (.ptr 0 0) (enc x) g_ p0 (kc o_) (a.isV (i:=10) d_) (fV _ _ _) ?_;refine eP (.ptr 1 0) (enc y) g_ p1 (kc o_) (a.isV (i:=11) d_) (fV _ _ _) ?_;refine vW (args:=[.tmp 92,.tmp 93,.tmp 94]) [enc b.2,enc x,enc y] (enc B) k_ rfl g_ q7 (cB _) (a.isV (i:=12) d_) (fV _ _ _) ?_;refine bd (bN (b.1,B)) rfl rfl (a.isV (i:=13) d_) (by simp[opN,go_sem,fU,iD,th]) rfl ?_;refine qQ _ Jq (a.isV (i:=14) d_) ?_;simp only[aa,Gj];have F:h.length+14<H0.length:=o_;obtain⟨H1,n⟩:∃g,g=H0.set (h.length+14) (.cells z8 .live):=⟨_,rfl⟩
    have q8:H1[h.length+14]?=some (.cells z8 .live):=by rw[n];exact aJ F
    have q5:dX H1[h.length+15]?=true:=by rw[n];exact kF (a.isV (i:=15) d_) o_
    rw[<-n];refine nE (h.length+14) 0 (bN (b.1,B)) _ g_ g_ (J8 (b.1,B) q8) o_ q5 ?_;rw[ss];refine⟨?_,?_⟩
    ·unfold tR;generalize hb:Region.before _=bb;have q9:(bb.getD 15 0).testBit 14=true:=by rw[<-hb];kernel_rfl
     clear hb;have o1:0≠h.length+12:=o_;have o2:0≠h.length+14:=o_;have o3:0≠h.length+15:=o_;have o4:1≠h.length+12:=o_;have o5:1≠h.length+14:=o_;have o6:1≠h.length+15:=o_;simp[nw,tQ,List.range,List.range.loop];simpa[ar]using q9
    have N:h.length+14<H1.length:=by rw[n];simpa using F
    refine⟨g_,g_,g_,g_,g_,g_,g_,g_,g_,aJ N,?_⟩;exact⟨by rw[n];simp;omega,λj hj _=>by rw[aE o_,n,aE o_,a.old j hj]⟩
   rintro c h' ⟨g3,g4,g5,L,e,I,q4,D,O,mp,kp⟩;have u:=kp.get m0 s_;have z:=kp.get m1 s_;have q6:=gw.keep kp s_;have J:=gv.keep kp s_;have lB:=Nw mp;have lP:=ldB mp;have vB:=kq B sB;have⟨v',h2,ha,ho,f,y1⟩:=jb (ys:=[(b.1,B)]) (x:=.full) J (by simp only[aF,aP];omega);simp only[aS,au]at ha;have Q:=q6.keep f (ug d_ q6 J);have S:=cK J u;have U:=cK J z;have G:jg (x,y) (lV x y s)=(if false=true then(o++[(b.1,B)])++(lV x y s).drop (k+1)else(o++[(b.1,B)])++jg (x,y) ((lV x y s).drop (k+1))):=by rw[z2,z'];simp[jg,q]
   cases V:(okP x y ps&&okS x y (s.take k))
   ·rw[V]at e;have r:(okP x y ps&&okS x y (s.take (k+1)))=false:=by rw[t,<-gD,V,gm]
    simp[go_sem,e,I,D,O,lP,nq,eV,ha,-Int.natCast_add,w2];exact⟨s.length-(k+1),o_,k+1,w,v',_,false,rfl,E,by simp at Y ⊢;omega,f.get u S,f.get z U,g_,g_,g_,g_,by simp[go_sem,r],g_,g_,g_,Q,ho,G⟩
   rw[V]at e;by_cases q1:bc B=0
   ·have r:(okP x y ps&&okS x y (s.take (k+1)))=true:=by rw[t,<-gD,V,decide_eq_true q1];rfl
    simp[go_sem,e,I,D,O,lB,vB,q1,lP,nq,eV,ha,-Int.natCast_add,w2];exact⟨s.length-(k+1),o_,k+1,w,v',_,false,rfl,E,by simp at Y ⊢;omega,f.get u S,f.get z U,g_,g_,g_,g_,by simp[go_sem,r],g_,g_,g_,Q,ho,G⟩
   have r:(okP x y ps&&okS x y (s.take (k+1)))=false:=by rw[t,<-gD,V,decide_eq_false q1];rfl
   simp[go_sem,e,I,D,O,lB,vB,q1,lP,nq,eV,ha,-Int.natCast_add,w2];exact⟨s.length-(k+1),o_,k+1,w,v',_,false,rfl,E,by simp at Y ⊢;omega,f.get u S,f.get z U,g_,g_,g_,g_,by simp[go_sem,r],g_,g_,g_,Q,ho,G⟩
  simp[go_sem,g3,q4,D,z4,q3];refine sU 17 _ (λc h'=>c.get 3=binds s/\c.get 4=.ptr 0 0/\c.get 5=.ptr 1 0/\c.get 11=w/\c.get 12=.bool (okP x y ps&&okS x y (s.take k))/\c.get 15=v/\c.get 16=.bool true/\c.get 17=.int .i64 k/\c.get 18=.ptr (h.length+14) 0/\h'[h.length+14]?=some (.cells (bN (b.1,B)).cells .live)/\Keep h h' none) (by rw[fu];decide) k_ ?_ ?_
  ·have z6:0<h.length:=(aB.1 m0).1;have z7:1<h.length:=(aB.1 m1).1;generalize M:h++List.replicate _ VObj.void=H0;have a:Pl h H0 16:=M▸Pl.mk' h 16;have z3:=a.len;clear M;have p0:=gH (a.get m0);have p1:=gH (a.get m1);have q7:cZ H0 dH [enc b.2,enc x,enc y]=[]:=(iu (h:=H0) (oY _ _ _) (by simp[aw]) dH (by simp[dH])).2;refine bd (binds s) rfl rfl (a.isV (i:=0) d_) (by simp[opN,go_sem,g3]) rfl ?_;refine bd (.int .i64 k) rfl rfl (a.isV (i:=1) d_) (by simp[opN,go_sem,D]) rfl ?_;refine bd (.iptr (bN b) 0) rfl rfl (a.isV (i:=2) d_) (by simp[opN,go_sem,K]) rfl ?_;refine bd (.iptr (bN b) 0) rfl rfl (a.isV (i:=3) d_) (by simp[opN,go_sem,pJ]) rfl ?_;refine eP (.iptr (bN b) 0) (enc b.1) g_ (jf b H0) (by simp[nw]) (a.isV (i:=4) d_) (fV _ _ _) ?_;refine bd (binds s) rfl rfl (a.isV (i:=5) d_) (by simp[opN,go_sem,g3]) rfl ?_;refine bd (.int .i64 k) rfl rfl (a.isV (i:=6) d_) (by simp[opN,go_sem,D]) rfl ?_;refine bd (.iptr (bN b) 0) rfl rfl (a.isV (i:=7) d_) (by simp[opN,go_sem,K]) rfl ?_;refine bd (.iptr (bN b) 4) rfl rfl (a.isV (i:=8) d_) (by simp[opN,go_sem,xh]) rfl ?_;refine eP (.iptr (bN b) 4) (enc b.2) g_ (kL b H0) (by simp[nw]) (a.isV (i:=9) d_) (fV _ _ _) ?_;refine eP (.ptr 0 0) (enc x) g_ p0 (kc o_) (a.isV (i:=10) d_) (fV _ _ _) ?_;refine eP (.ptr 1 0) (enc y) g_ p1 (kc o_) (a.isV (i:=11) d_) (fV _ _ _) ?_;refine vW (args:=[.tmp 92,.tmp 93,.tmp 94]) [enc b.2,enc x,enc y] (enc B) k_ rfl g_ q7 (cB _) (a.isV (i:=12) d_) (fV _ _ _) ?_;refine bd (bN (b.1,B)) rfl rfl (a.isV (i:=13) d_) (by simp[opN,go_sem,fU,iD,th]) rfl ?_;refine qQ _ Jq (a.isV (i:=14) d_) ?_;simp only[aa,Gj];have F:h.length+14<H0.length:=o_;obtain⟨H1,n⟩:∃g,g=H0.set (h.length+14) (.cells z8 .live):=⟨_,rfl⟩
   have q8:H1[h.length+14]?=some (.cells z8 .live):=by rw[n];exact aJ F
   have q5:dX H1[h.length+15]?=true:=by rw[n];exact kF (a.isV (i:=15) d_) o_
   rw[<-n];refine nE (h.length+14) 0 (bN (b.1,B)) _ g_ g_ (J8 (b.1,B) q8) o_ q5 ?_;rw[ss];refine⟨?_,?_⟩
   ·unfold tR;generalize hb:Region.before _=bb;have q9:(bb.getD 15 0).testBit 14=true:=by rw[<-hb];kernel_rfl
    clear hb;have o1:0≠h.length+12:=o_;have o2:0≠h.length+14:=o_;have o3:0≠h.length+15:=o_;have o4:1≠h.length+12:=o_;have o5:1≠h.length+14:=o_;have o6:1≠h.length+15:=o_;simp[nw,tQ,List.range,List.range.loop];simpa[ar]using q9
   have N:h.length+14<H1.length:=by rw[n];simpa using F
   refine⟨g_,g_,g_,g_,g_,g_,g_,g_,g_,aJ N,?_⟩;exact⟨by rw[n];simp;omega,λj hj _=>by rw[aE o_,n,aE o_,a.old j hj]⟩
  rintro c h' ⟨g3,g4,g5,L,e,I,q4,D,O,mp,kp⟩;have u:=kp.get m0 s_;have z:=kp.get m1 s_;have q6:=gw.keep kp s_;have J:=gv.keep kp s_;have lB:=Nw mp;have lP:=ldB mp;have vB:=kq B sB;have⟨v',h2,ha,ho,f,y1⟩:=jb (ys:=[(b.1,B)]) (x:=.full) J (by simp only[aF,aP];omega);simp only[aS,au]at ha;have Q:=q6.keep f (ug d_ q6 J);have S:=cK J u;have U:=cK J z;have G:jg (x,y) (lV x y s)=(if true=true then(o++[(b.1,B)])++(lV x y s).drop (k+1)else(o++[(b.1,B)])++jg (x,y) ((lV x y s).drop (k+1))):=by rw[z2,z'];simp
  cases V:(okP x y ps&&okS x y (s.take k))
  ·rw[V]at e;have r:(okP x y ps&&okS x y (s.take (k+1)))=false:=by rw[t,<-gD,V,gm]
   simp[go_sem,e,I,D,O,lP,nq,eV,ha,-Int.natCast_add,w2];exact⟨s.length-(k+1),o_,k+1,w,v',_,true,rfl,E,by simp at Y ⊢;omega,f.get u S,f.get z U,g_,g_,g_,g_,by simp[go_sem,r],g_,g_,g_,Q,ho,G⟩
  rw[V]at e;by_cases q1:bc B=0
  ·have r:(okP x y ps&&okS x y (s.take (k+1)))=true:=by rw[t,<-gD,V,decide_eq_true q1];rfl
   simp[go_sem,e,I,D,O,lB,vB,q1,lP,nq,eV,ha,-Int.natCast_add,w2];exact⟨s.length-(k+1),o_,k+1,w,v',_,true,rfl,E,by simp at Y ⊢;omega,f.get u S,f.get z U,g_,g_,g_,g_,by simp[go_sem,r],g_,g_,g_,Q,ho,G⟩
  have r:(okP x y ps&&okS x y (s.take (k+1)))=false:=by rw[t,<-gD,V,decide_eq_false q1];rfl
  simp[go_sem,e,I,D,O,lB,vB,q1,lP,nq,eV,ha,-Int.natCast_add,w2];exact⟨s.length-(k+1),o_,k+1,w,v',_,true,rfl,E,by simp at Y ⊢;omega,f.get u S,f.get z U,g_,g_,g_,g_,by simp[go_sem,r],g_,g_,g_,Q,ho,G⟩
 have:k=s.length:=o_;subst this;rw[ao]at e;have z':(lV x y s).drop s.length=[]:=by rw[show s.length=(lV x y s).length by simp[lV],aj]
 rw[z']at z2;have fin:∀(st:PT) (h:H) (e1 e2:Ext) (l:Lb),st.get 8=.isl ((pc x y ps).map bN) e1->st.get 9=.isl (l.map bN) e2->st.get 10=.bool (okP x y ps&&okS x y s)->l=jg (x,y) (lV x y s)->R .ret st h:=λst h e1 e2 l h8 h9 y8 hl=>by refine hR ⟨.tuple [.isl ((pc x y ps).map bN) e1,.isl (l.map bN) e2,.bool (okP x y ps&&okS x y s)],by simp[ag,df,cG,f323,h8,h9,y8],?_⟩;rw[<-hl];exact cw rfl rfl s_
 obtain⟨e1,rfl⟩:=gw.isl;cases d
 ·have⟨v1,Z,z5,y2,z1,_⟩:=jb (ys:=[(x,y)]) (x:=.full) gv (by simp only[aF,aP];omega);simp only[aS,au]at z5;obtain⟨e2,rfl⟩:=y2.isl;simp[go_sem,g3,g4,g5,L,e,I,q4,D,z4,lx,ly,th,nq,iD,eV,z5];exact fin _ _ e1 e2 (o++[(x,y)]) g_ g_ g_ (by rw[z2];simp[jg])
 obtain⟨e2,rfl⟩:=gv.isl;simp[go_sem,g3,L,e,I,q4,D,z4];exact fin _ _ e1 e2 o g_ g_ g_ (by rw[z2];simp)
def HT(h:H) (x:Ext):Prop:=∀t,x=.tok t->t<h.length
theorem FC{es:LA}{x:Ext}{n k:Nat}(hx:∀t,x=.tok t->t<n):(AV.isl es x).mv n k=.isl es x:=by
 cases x with
 |tok t=>have:=hx t rfl;simp[AV.mv];omega
 |full=>rfl
 |unk=>rfl
theorem Gd{e:TypeId}{h:H}{v:AV}{xs:LA}(o:OwnR e h v xs):∃x,v=.isl xs x/\HT h x:=by
 rcases o with rfl|⟨id,rfl,b⟩
 ·exact⟨.full,rfl,λt a=>by cases a⟩
 exact⟨.tok id,rfl,λt a=>by cases a;exact(aB.1 b).1⟩
theorem KJ(p:T × T) (ps:Lb) (x:Ext):∃x',iO C.P 284 (.isl ((p::ps).map bN) x) (some (.int .i64 1)) none none=some (.isl (ps.map bN) x')/\(x'=.full\/x'=.unk):=by have a:=yC (p::ps);refine⟨if x=.full then .full else .unk,?_,by split<;>simp⟩;simp only[aS]at a;have b:(1:Int)<=(ps.length:Int)+1:=o_;have c:List.take ps.length (List.map bN ps)=List.map bN ps:=de s_;simp[iO,Hf,En,nM,sS,a,b,c]
def Vl(a b:T) (i5 i6:Nat) (ps s:Lb) (x x':Ext) (m:Nat) (st:PT) (h:H):Prop:=∃(k:Nat) (v:AV),m=a.kids.length-k/\k<=a.kids.length/\h[i5]?=some (.cells (enc a).cells .live)/\h[i6]?=some (.cells (enc b).cells .live)/\st.get 0=.isl (ps.map bN) x/\st.get 4=.isl (s.map bN) x'/\st.get 5=.ptr i5 0/\st.get 6=.ptr i6 0/\st.get 7=v/\st.get 8=.int .i64 k /\
 OwnR 283 h v (((qR a b).take k).map bN)
def Vd(U:Lq) (K:Nat) (r:Lb) (e:Int) (m:Nat) (st:PT) (h:H):Prop:=∃(ps s:Lb) (x x':Ext),jY jg m ps s=some (r,e)/\InvU U K ps s/\st.get 0=.isl (ps.map bN) x/\st.get 4=.isl (s.map bN) x'/\HT h x
theorem O6(x y:T) (ps s:Lb) (e1 e2:Ext) (hx:x.size<=400) (hy:y.size<=400) (hp:Ay ps) (hs:Ay s) (hpl:ps.length<4000000) (hsl:s.length<4000000) (h:H) :
  az C h (.func 323 []) (some [enc x,enc y,.isl (ps.map bN) e1,.isl (s.map bN) e2])=some (.tuple [binds (pc x y ps),binds (jg (x,y) (lV x y s)),.bool (okU x y ps s)],h):=
 ah (args':=[enc x,enc y,binds ps,binds s]) (by rw[bJ x,bJ y];rfl) (by simp[aw];exact⟨rfl,rfl⟩) s_ (PZ x y ps s hx hy hp hs hpl hsl)
theorem InvU.le{U K ps s}(h:InvU U K ps s):Ay ps/\Ay s:=⟨λp a=>⟨(cT (h.valid p a).1).2.1,(cT (h.valid p a).2).2.1⟩,λb c=>⟨(cT (h.bval b c).1).2.1,(cT (h.bval b c).2).2.1⟩⟩
theorem KF(U:Lq) (K:Nat) (hK:K<=3000000) (hU:U.length<=3000000) (n:Nat) (ps0 r:Lb) (e:Int) (hi0:InvU U K ps0 []) (hr0:jY jg n ps0 []=some (r,e)):ay C 296 [binds ps0]=some (.tuple [binds r,.int .i64 e]):=by
 refine gu rfl func296 rfl k_ (by simp[f296]) λR hR=>?_
 have fin:∀(st:PT) (h:H) (x:Ext) (l:Lb) (e':Int),st.get 2=.isl (l.map bN) x->st.get 3=.int .i64 e'->l=r->e'=e->∀w,(w=.normal\/w=.ret)->R w st h:=λst h x l e' h2 h3 hl he w hw=>by refine hR _ _ _ hw ⟨.tuple [.isl (l.map bN) x,.int .i64 e'],by simp[ag,df,cG,f296,h2,h3],?_⟩;rw[hl,he];exact cw rfl rfl s_
 simp[go_sem];refine bR (Vd U K r e) n ⟨ps0,[],.unk,.tok 1,hr0,hi0,by simp[go_sem];rfl,g_,λt O=>by cases O⟩ ?_;clear hr0 hi0;rintro n st h ⟨o,s,x,x',c,d,F,g4,hx⟩;have f:=Kw o x;match o,n,c,d,F,f with
 |[],n,c,d,F,f=>
  have hh:s=r/\(0:Int)=e:=by simpa[jY]using c
  simp only[au,aP]at F f;simp[go_sem,F,f];exact fin _ _ x' s 0 g_ g_ hh.1 hh.2 _ (.inr rfl)
 |(a,b)::o,0,c,_,_,_=>simp[jY]at c
 |(a,b)::o,n+1,c,d,F,f=>
  have⟨va,vb⟩:=d.valid _ cJ;have sa:=(cT va).2.1;have sb:=(cT vb).2.1;have z5:=d.plen;have x7:=d.slen;simp only[aF]at z5;have y:bP C.P 284 (.isl (((a,b)::o).map bN) x) (.int .i64 0)=some (.iptr (bN (a,b)) 0):=LK ((a,b)::o) 0 s_ x;have⟨x1,Q,z6⟩:=KJ (a,b) o x;have q0:∀h:H,HT h x1:=λh t O=>by rcases z6 with e|e<;>rw[e]at O<;>cases O
  obtain⟨N,hN⟩:∃N,N=((a,b)::o).length:=⟨_,rfl⟩
  have q4:0<N:=by rw[hN];simp
  rw[<-hN]at f;generalize hE:((a,b)::o).map bN=E at F f y Q;rw[jY]at c;simp[go_sem,F,f,q4];refine sU 3 _ (λz u=>z.get 0=.isl E x/\z.get 4=.isl (s.map bN) x'/\z.get 5=.ptr (h.length+8) 0/\z.get 6=.ptr (h.length+9) 0/\u[h.length+8]?=some (.cells (enc a).cells .live)/\u[h.length+9]?=some (.cells (enc b).cells .live)) (by rw[fu];decide) k_ ?_ ?_
  ·generalize q5:h++List.replicate _ VObj.void=H0;have A:Pl h H0 12:=q5▸Pl.mk' h 12;have x6:=A.len;clear q5;have mE:∀k,(AV.isl E x).mv H0.length k=.isl E x:=λk=>FC λt O=>by have:=hx t O;omega
   refine bd (.isl E x) rfl rfl (A.isV (i:=0) d_) (by simp[opN,go_sem,F]) (mE _) ?_;refine bd (.iptr (bN (a,b)) 0) rfl rfl (A.isV (i:=1) d_) (by simp[opN,go_sem,y]) rfl ?_;refine bd (.iptr (bN (a,b)) 0) rfl rfl (A.isV (i:=2) d_) (by simp[opN,go_sem]) rfl ?_;refine eP (.iptr (bN (a,b)) 0) (enc a) g_ (jf (a,b) H0) (by simp[nw]) (A.isV (i:=3) d_) (fV _ _ _) ?_;refine bd (.isl E x) rfl rfl (A.isV (i:=4) d_) (by simp[opN,go_sem,F]) (mE _) ?_;refine bd (.iptr (bN (a,b)) 0) rfl rfl (A.isV (i:=5) d_) (by simp[opN,go_sem,y]) rfl ?_;refine bd (.iptr (bN (a,b)) 4) rfl rfl (A.isV (i:=6) d_) (by simp[opN,go_sem]) rfl ?_;refine eP (.iptr (bN (a,b)) 4) (enc b) g_ (kL (a,b) H0) (by simp[nw]) (A.isV (i:=7) d_) (fV _ _ _) ?_;refine qQ _ GM (A.isV (i:=8) d_) ?_;rw[show VObj.mv H0.length (h.length+8) (.cells (AV.agg zc).cells .live)=.cells zc .live from rfl];obtain⟨Z,B⟩:∃g,g=H0.set (h.length+8) (.cells zc .live):=⟨_,rfl⟩
   have z7:Z.length=H0.length:=by rw[B];simp
   have q8:Z[h.length+8]?=some (.cells zc .live):=by rw[B];exact aJ o_
   have u9:dX Z[h.length+9]?=true:=by rw[B];exact kF (A.isV (i:=9) d_) o_
   have z8:dX Z[h.length+10]?=true:=by rw[B];exact kF (A.isV (i:=10) d_) o_
   have z9:dX Z[h.length+11]?=true:=by rw[B];exact kF (A.isV (i:=11) d_) o_
   rw[<-B];refine qQ _ GM u9 ?_;rw[show VObj.mv Z.length (h.length+9) (.cells (AV.agg zc).cells .live)=.cells zc .live from rfl];obtain⟨H2,D⟩:∃g,g=Z.set (h.length+9) (.cells zc .live):=⟨_,rfl⟩
   have y':H2.length=H0.length:=by rw[D];simp[z7]
   have r8:H2[h.length+8]?=some (.cells zc .live):=by rw[D,aE o_];exact q8
   have r9:H2[h.length+9]?=some (.cells zc .live):=by rw[D];exact aJ o_
   have y0:dX H2[h.length+10]?=true:=by rw[D];exact kF z8 o_
   have y1:dX H2[h.length+11]?=true:=by rw[D];exact kF z9 o_
   rw[<-D];refine nE (h.length+8) 0 (enc a) _ g_ g_ (tu a r8) o_ y0 ?_;rw[sr];have t9:(H2.set (h.length+8) (.cells (enc a).cells .live))[h.length+9]?=some (.cells zc .live):=by rw[aE o_];exact r9
   refine nE (h.length+9) 0 (enc b) _ g_ g_ (tu b t9) o_ (kF y1 o_) ?_;rw[sr];refine⟨?_,?_⟩
   ·unfold tR;generalize hb:Region.before _=bb;have q6:(bb.getD 10 0).testBit 8=true:=by rw[<-hb];kernel_rfl
    have q7:(bb.getD 11 0).testBit 9=true:=by rw[<-hb];kernel_rfl
    clear hb;simp[nw,tQ,List.range,List.range.loop];simp at q6 q7;exact⟨q6,q7⟩
   refine⟨g_,g_,g_,g_,?_,aJ (by simp[y'];omega)⟩;rw[aE o_];exact aJ o_
  rintro z u ⟨q9,J,G,I,S,L⟩;clear F g4 f q4 y;have x8:a.size<=400:=sa;have x9:b.size<=400:=sb;have w':a.kids.length<=8:=vq (ee (cT va).1);have w0:b.kids.length<=8:=vq (ee (cT vb).1);have y3:=(aB.1 L).1;clear hx;have cs:=lg a b o_ o_;have ca:=O8 a b o_ o_;have la:=gH S;have lb:=gH L;simp[go_sem,q9,Q,G,I,la,lb,cs];by_cases q1:a.cmp b=0
  ·rw[if_pos q1]at c;simp[go_sem,q1];exact⟨n,o_,o,s,x1,x',c,d.skip,g_,by simp[go_sem,J],q0 _⟩
  rw[if_neg q1]at c;simp[go_sem,q1,G,I,la,lb,ca];cases q2:iy a b
  ·rw[q2,if_neg s_]at c;have cc:=O7 a b o_ o_;have j:=Dq a b;obtain⟨⟨X,Y,e1⟩,hX⟩:∃X,jR a b=X:=⟨_,rfl⟩
   rw[hX]at cc j;have s1:cr C.P (u++[.cells zc .live,.cells zc .live]) 39 (.ptr u.length 0) (enc X)=some (u++[.cells (enc X).cells .live,.cells zc .live]):=by rw[tu X s_];simp
   have s2:cr C.P (u++[.cells (enc X).cells .live,.cells zc .live]) 39 (.ptr (u.length+1) 0) (enc Y)=some (u++[.cells (enc X).cells .live,.cells (enc Y).cells .live]):=by rw[tu Y s_];simp
   have l1:aX C.P (u++[.cells (enc X).cells .live,.cells (enc Y).cells .live]) 39 (.ptr u.length 0)=some (enc X):=gH s_;have l2:aX C.P (u++[.cells (enc X).cells .live,.cells (enc Y).cells .live]) 39 (.ptr (u.length+1) 0)=some (enc Y):=gH s_;simp[go_sem,G,I,la,lb,cc,GM,s1,s2];generalize z':kG a b=cu at c j;cases cu with
   |bad e2=>obtain⟨rfl,y4⟩:=j;simp only[aA,aD]at c;simp[go_sem,y4];exact fin _ _ _ [] e1 (by simp[go_sem];rfl) g_ c.1 c.2 _ (.inr rfl)
   |ok x2 y2=>
    simp only[aD]at j;obtain⟨rfl,rfl,rfl⟩:=j;have z0:a≠b:=λq=>q1 (by rw[q];exact cmp_refl b)
    have z1:=(BD va vb z0 z').2.2;have y5:X.size<=400:=by rcases z1 with⟨p,_⟩|⟨p,_⟩<;>rw[p]<;>assumption
    have y6:Y.size<=400:=by rcases z1 with⟨_,p⟩|⟨_,p⟩<;>rw[p]<;>assumption
    have z2:=d.skip.le;have cb:=O6 X Y o s x1 x' y5 y6 z2.1 z2.2 o_ o_;dsimp only at c;simp[go_sem,l1,l2,J,cb];cases q3:okU X Y o s
    ·rw[q3,if_neg s_]at c;simp only[aA,aD]at c;simp[go_sem];exact fin _ _ _ [] 3 (by simp[go_sem];rfl) g_ c.1 c.2 _ (.inr rfl)
    rw[q3,if_pos rfl]at c;simp[go_sem];exact⟨n,o_,pc X Y o,jg (X,Y) (lV X Y s),.unk,.unk,c,(d.bind z0 z' q3).1.perm (lD _ _).symm,by simp[go_sem];rfl,by simp[go_sem];rfl,λt O=>by cases O⟩
  rw[q2,if_pos rfl]at c;have y7:a.kids.length=b.kids.length:=by simp only[iy,aq,decide_eq_true_eq]at q2;exact q2.2
  have w1:(qR a b).length=a.kids.length:=by simp[qR,y7]
  simp[go_sem];refine bR (Vl a b (h.length+8) (h.length+9) o s x1 x') a.kids.length ⟨0,.isl [] (.tok u.length),rfl,aO _,ga S,ga L,g_,by simp[go_sem,J],by simp[go_sem,G],by simp[go_sem,I],g_,g_,.inr ⟨u.length,rfl,s_⟩⟩ ?_;generalize h.length+8=i5;generalize h.length+9=i6;clear I G J q9 la lb S L y3 z u;rintro m st h ⟨k,v,rfl,hk,S,L,F,g4,g5,g6,g7,g8,V⟩;have l5:=Gq S;have l6:=Gq L;by_cases z3:k<a.kids.length
  ·have z4:(k:Int)<a.kids.length:=o_;have y:=fL a.kids k z3;have y8:=fL b.kids k o_;have w2:=wS k o_;have⟨v',h2,M,ho,q',y9⟩:=wX (ys:=[(a.kids[k],b.kids[k])]) (x:=.full) V (by simp only[ac,aF,aP];omega);have x0:(qR a b).take k++[(a.kids[k],b.kids[k])]=(qR a b).take (k+1):=by rw[<-dQ (by omega:k<(qR a b).length)];simp[qR]
   rw[x0]at ho;simp only[aS,au]at M;simp[go_sem,g5,g8,l5,z4,fK];refine gJ 11 _ (by simp[fu]) rfl ?_;simp[go_sem,g5,g6,g7,g8,l5,l6,y,y8,iT,MT,nq,mW,M,-Int.natCast_add,w2];refine⟨?_,a.kids.length-(k+1),o_,k+1,v',rfl,z3,q'.get S (cK V S),q'.get L (cK V L),g_,g_,g_,g_,g_,g_,ho⟩;have x3:=cK V S;have x4:=cK V L;rcases V with rfl|⟨id,rfl,hd⟩
   ·simp[go_sem,ip,iF,iI,kK,er,dB]
   simp only[bj,ne_eq,aA]at x3 x4;simp[go_sem,ip,iF,iI,kK,er,dB]
   (try omega)
  have:k=a.kids.length:=o_;subst this;rw[de o_]at V;have⟨v',h2,M,ho,q',y9⟩:=wX (ys:=o) (x:=x1) V o_;obtain⟨xx,rfl,x5⟩:=Gd ho;simp[go_sem,g5,g8,l5,fK,g7,F,M];exact⟨n,o_,qR a b++o,s,xx,x',c,d.kids,g_,g_,x5⟩
theorem PG(ps r:Lb) (e:Int) (x:Ext) (h:H) (hs:ay C 296 [binds ps]=some (.tuple [binds r,.int .i64 e])):az C h (.func 296 []) (some [.isl (ps.map bN) x])=some (.tuple [binds r,.int .i64 e],h):=
 ah (args':=[binds ps]) rfl (by simp[short]) s_ hs
theorem vu{u t:T}:∀ {l:Lq},t∈l->u∈cU bS t->u∈ii bS l
 |[],h,_=>by simp at h
 |a::l,h,hu=>by
  rw[ii,aZ];rcases ak.1 h with rfl|h
  ·exact .inl hu
  exact .inr (vu h hu)
def varsU(l:Lq):Lq:=(ii bS l).filter λt=>decide (t.kind=1)
theorem wa:∀ {l:Lq},(∀t∈l,bc t=0)->sizes l<=400*l.length
 |[],_=>by simp[sizes]
 |a::l,h=>by
  have h1:=(cT (h a cJ)).2.1;have c:=wa λt b=>h t (be _ b)
  rw[sizes,aF];omega
theorem HZ{l:Lq}(h:∀t∈l,bc t=0):(varsU l).length<=400*l.length:=by have a:(varsU l).length<=(ii bS l).length:=cO _ _;have b:=qU bS (λ_=>by simp[bS]) l;have c:=wa h;omega
theorem FF{l m:Lq}(hvl:∀t∈l,bc t=0) (hvm:∀t∈m,bc t=0):InvU (varsU (l++m)) (l.length+400*(varsU (l++m)).length) (l.zip m) []:=by
 have c:∀p∈l.zip m,p.1∈l/\p.2∈m:=λp a=>⟨(dh a).1,(dh a).2⟩
 have f:=Lz (varsU (l++m)) (l.zip m);refine⟨λp a=>⟨hvl _ (c p a).1,hvm _ (c p a).2⟩,λp a u d h=>?_,λu d=>?_,λb e=>by simp at e,λb e=>by simp at e,.nil,⟨[],l.zip m,rfl,s_,?_⟩,by simpa using f⟩
 ·refine bm.2 ⟨?_,by simpa using d⟩;rcases h with h|h
  ·exact vu (dP _ (c p a).1) h
  exact vu (dw _ (c p a).2) h
 ·simpa using(bm.1 d).2
 have:=kN 400 f;rw[List.length_zip];omega
theorem Qb:C.P.underlying 178=some (.slice 181):=underlying178
theorem Tz:cS C.P 181=some 4:=k_
theorem X0:eW C.P 181=some true:=k_
attribute [go_sem] Qb Tz X0
def my(s:Sy):AV:=.agg [.str s.name,.int .i64 s.least,.int .i64 s.most,.int .i64 s.kind]
def GU:AV:=.isl (syms.map my) .unk
theorem OS(e:AV):bH C.P 181 (.iptr e 0) 0=some (.iptr e 0):=k_
theorem OR(e:AV):bH C.P 181 (.iptr e 0) 1=some (.iptr e 1):=k_
theorem OQ(e:AV):bH C.P 181 (.iptr e 0) 2=some (.iptr e 2):=k_
theorem OP(e:AV):bH C.P 181 (.iptr e 0) 3=some (.iptr e 3):=k_
attribute [go_sem] OS OR OQ OP
theorem Ky(l:List Sy) (x:Ext):fW C.P 178 (.isl (l.map my) x)=some (.int .i64 l.length):=by simp[fW,Qb]
theorem LM(l:List Sy) (k:Nat) (hk:k<l.length) (x:Ext):bP C.P 178 (.isl (l.map my) x) (.int .i64 k)=some (.iptr (my l[k]) 0):=by simp[bP,Qb,Tz,hk,my,aa]
theorem UK(s:Sy) (h:H):aX C.P h 9 (.iptr (my s) 0)=some (.str s.name):=by simp[aX,ae,a9,s9,my,aa]
theorem XQ(s:Sy) (h:H):aX C.P h 3 (.iptr (my s) 1)=some (.int .i64 s.least):=by simp[aX,ae,a3,s3,my,aa]
theorem XP(s:Sy) (h:H):aX C.P h 3 (.iptr (my s) 2)=some (.int .i64 s.most):=by simp[aX,ae,a3,s3,my,aa]
theorem XO(s:Sy) (h:H):aX C.P h 3 (.iptr (my s) 3)=some (.int .i64 s.kind):=by simp[aX,ae,a3,s3,my,aa]
noncomputable def T5(m:Nat) (f:FuncId) (args:LA) (v:AV):Bool:=match eL C m f args []with
 |some (r,h)=>match gE (bi h) dH r with
  |some u=>AV.same u v
  |none=>false
 |none=>false
theorem Qz{m:Nat}{f:FuncId}{args:LA}{v:AV}(h:T5 m f args v=true):ay C f args=some v:=by
 unfold T5 at h;split at h<;>try(cases h;done)
 rename_i r c a;split at h<;>try(cases h;done)
 rename_i u b;unfold ay;rw[HW m a,<-AV.same_eq h];exact b
theorem EZ:ay C 166 []=some GU:=Qz (m:=100) k_
theorem HG(h:H):az C h (.func 166 []) (some [])=some (GU,h):=ah rfl rfl s_ EZ
def WE(n:ByteArray) (l:List Sy) (m:Nat) (st:PT) (_h:H):Prop:=∃k:Nat,m=l.length-k/\k<=l.length/\st.get 0=.str n/\st.get 3=.isl (l.map my) .unk/\st.get 4=.int .i64 k/\(l.drop k).find? (λs=>decide (s.name=n))=l.find? λs=>decide (s.name=n)
theorem N0(n:ByteArray):ay C 109 [.str n]=some (.int .i64 (rf n)):=by
 refine bD func109 rfl λR hR=>?_
 have c1:=HG;simp[go_sem,c1];have hsy:GU=.isl (syms.map my) .unk:=rfl;rw[hsy];generalize hl:syms=l;have hlen:l.length=21:=by rw[<-hl];rfl
 refine bR (WE n l) l.length ⟨0,rfl,aO _,g_,g_,g_,rfl⟩ ?_;rintro m st h ⟨k,rfl,hk,g0,g3,g4,hd⟩;have hln:=Ky l .unk;by_cases hlt:k<l.length
 ·have hlt':(k:Int)<l.length:=o_;have hix:=LM l k hlt .unk;have w2:=wS k o_;have e0:=UK l[k];have e3:=XO l[k];rw[aH hlt,List.find?_cons]at hd;by_cases he:l[k].name=n
  ·simp only[he,decide_true]at hd;simp[go_sem,g0,g3,g4,hln,hlt',hix,e0,e3,fM,he];refine hR ⟨_,rfl,?_⟩;have:rf n=l[k].kind:=by rw[rf,uY,hl,<-hd];rfl
   rw[this];simp[go_sem];exact aL rfl rfl
  ·simp only[he,decide_false]at hd
   simp[go_sem,g0,g3,g4,hln,hlt',hix,e0,fM,he,-Int.natCast_add,w2]
   exact⟨l.length-(k+1),by omega,k+1,rfl,hlt,by simp[go_sem,g0],by simp[go_sem,g3],by simp[go_sem],hd⟩
 have:k=l.length:=o_;subst this;rw[aj,List.find?_nil]at hd;simp[go_sem,g3,g4,hln];refine hR ⟨_,rfl,?_⟩;have:rf n=0:=by rw[rf,uY,hl,<-hd];rfl
 rw[this];simp[go_sem];exact aL rfl rfl
theorem xl(n:ByteArray) (h:H):az C h (.func 109 []) (some [.str n])=some (.int .i64 (rf n),h):=ah rfl rfl s_ (N0 n)
theorem Xh(t:T) (n:ByteArray):ay C 29 [enc t,.str n]=some (.bool (iH t n)):=by
 refine bD func29 rfl λR a=>?_
 by_cases h:t.kind=3
 ·simp +contextual [go_sem,xN,sC,fM,h];refine a ⟨_,rfl,?_⟩;simp[go_sem,iH,h];exact aL rfl rfl
 simp +contextual [go_sem,xN,sC,fM,h];refine a ⟨_,rfl,?_⟩;simp[go_sem,iH,h];exact aL rfl rfl
theorem wR(t:T) (n:ByteArray) (h:H):az C h (.func 29 []) (some [enc t,.str n])=some (.bool (iH t n),h):=ah (args':=[enc t,.str n]) (by rw[bJ t];rfl) (by simp[aw];rfl) s_ (Xh t n)
theorem Sf(n:ByteArray):ay C 225 [.str n]=some (.bool (ED n)):=by
 refine bD func225 rfl λR a=>?_
 simp +contextual [go_sem,fM];refine a ⟨_,rfl,?_⟩;simp[go_sem,ED];exact aL rfl rfl
theorem O9(n:ByteArray) (h:H):az C h (.func 225 []) (some [.str n])=some (.bool (ED n),h):=ah rfl rfl s_ (Sf n)
def Vx(t:T) (l:List Sy) (m:Nat) (st:PT) (h:H):Prop:=∃k:Nat,m=l.length-k/\k<=l.length/\h=[.cells (tc t) .live]/\st.get 1=.ptr 0 0/\st.get 3=.isl (l.map my) .unk/\st.get 4=.int .i64 k/\(l.drop k).find? (λs=>decide (s.name=t.name))=l.find? λs=>decide (s.name=t.name)
theorem OE(t:T) (_hs:t.size<4000000):ay C 276 [enc t]=some (.bool (nU t)):=by
 refine bD func276 rfl λR hR=>?_
 have c1:=HG;have hlen2:=len_sizes t.kids;have hsz:=size_kids t;simp[go_sem,c1];have hsy:GU=.isl (syms.map my) .unk:=rfl;rw[hsy];generalize hl:syms=l;have hlen:l.length=21:=by rw[<-hl];rfl
 refine bR (Vx t l) l.length ⟨0,rfl,aO _,rfl,g_,g_,g_,rfl⟩ ?_;rintro m st h ⟨k,rfl,hk,rfl,g1,g3,g4,hd⟩;have hln:=Ky l .unk;have hfit:nU t=match l.find? λs=>decide (s.name=t.name)with
  |some s=>decide (s.least<=(t.kids.length:Int))&&decide ((t.kids.length:Int)<=s.most)
  |none=>false:=by rw[nU,uY,hl];cases l.find? λs=>decide (s.name=t.name)<;>rfl
 by_cases hlt:k<l.length
 ·have hlt':(k:Int)<l.length:=o_;have hix:=LM l k hlt .unk;have w2:=wS k o_;have e0:=UK l[k];have e1:=XQ l[k];have e2:=XP l[k];rw[aH hlt,List.find?_cons]at hd;by_cases he:l[k].name=t.name
  ·simp only[he,decide_true]at hd;rw[<-hd]at hfit;dsimp only at hfit;by_cases h3:l[k].least<=(t.kids.length:Int)
   ·simp +contextual [go_sem,tc,g1,g3,g4,hln,hlt',hix,e0,e1,e2,fM,he,sC,jG,dq,h3];refine hR ⟨_,rfl,?_⟩;rw[hfit];simp[go_sem,h3];exact aL rfl rfl
   simp +contextual [go_sem,tc,g1,g3,g4,hln,hlt',hix,e0,e1,e2,fM,he,sC,jG,dq,h3];refine hR ⟨_,rfl,?_⟩;rw[hfit];simp[go_sem,h3];exact aL rfl rfl
  ·simp only[he,decide_false]at hd
   simp[go_sem,tc,g1,g3,g4,hln,hlt',hix,e0,fM,he,sC,-Int.natCast_add,w2]
   exact⟨l.length-(k+1),by omega,k+1,rfl,hlt,rfl,by simp[go_sem,g1],by simp[go_sem,g3],by simp[go_sem],hd⟩
 have:k=l.length:=o_;subst this;rw[aj,List.find?_nil]at hd;rw[<-hd]at hfit;simp[go_sem,g3,g4,hln];refine hR ⟨_,rfl,?_⟩;rw[hfit];simp[go_sem];exact aL rfl rfl
theorem O2(t:T) (hs:t.size<4000000) (h:H):az C h (.func 276 []) (some [enc t])=some (.bool (nU t),h):=ah (dC _) (by simp[aw]) s_ (OE t hs)
def Vw(t:T) (m:Nat) (st:PT) (h:H):Prop:=∃k:Nat,m=t.kids.length-k/\k<=t.kids.length/\h=[.cells (tc t) .live]/\st.get 1=.ptr 0 0/\st.get 3=.int .i64 k/\((t.kids.drop k).all λk=>decide (k.kind≠3)&&decide (k.sort=1))=t.kids.all λk=>decide (k.kind≠3)&&decide (k.sort=1)
theorem tC(e:AV):bH C.P 39 (.iptr e 0) 2=some (.iptr e 2):=k_
theorem QI(t:T) (h:H):aX C.P h 3 (.iptr (enc t) 2)=some (.int .i64 t.sort):=by simp[aX,ae,a3,s3,bB]
theorem Jh(t:T) (hs:t.size<4000000) (hn:t.name=C8->t.kids≠[]):ay C 277 [enc t]=some (.bool (pT t)):=by
 refine bD func277 rfl λR hR=>?_
 have hlen2:=len_sizes t.kids;have hsz:=size_kids t;by_cases h1:t.name=C8
 ·have h0:0<t.kids.length:=gO.2 (hn h1);have hix:=lE t.kids 0 h0 .unk;simp only[Int.natCast_zero]at hix;have e0:=A3 t.kids[0];have h1':t.name=⟨#[110,101,119]⟩:=h1;simp[go_sem,aQ,sC,jG,fM,h1',hix,mg,e0];refine hR ⟨_,rfl,?_⟩;simp[go_sem,pT,h1,aC h0];exact aL rfl rfl
 have h1':¬t.name=⟨#[110,101,119]⟩:=h1;simp[go_sem,aQ,sC,fM,h1'];refine bR (Vw t) t.kids.length ⟨0,rfl,aO _,rfl,g_,g_,rfl⟩ ?_;rintro m st h ⟨k,rfl,hk,rfl,g1,g3,hd⟩;have hag:pT t=t.kids.all λk=>decide (k.kind≠3)&&decide (k.sort=1):=by rw[pT,if_neg h1]
 by_cases hlt:k<t.kids.length
 ·have hlt':(k:Int)<t.kids.length:=o_;have hix:=lE t.kids k hlt .unk;have w2:=wS k o_;have e0:=A3 t.kids[k];have e2:=QI t.kids[k];rw[aH hlt,dp]at hd;by_cases k3:t.kids[k].kind=3
  ·simp +contextual [go_sem,tc,g1,g3,hlt',jG,dq,hix,mg,tC,e0,e2,k3];refine hR ⟨_,rfl,?_⟩;rw[hag,<-hd];simp[go_sem,k3];exact aL rfl rfl
  by_cases k1:t.kids[k].sort=1
  ·simp +contextual [go_sem,tc,g1,g3,hlt',jG,dq,hix,mg,tC,e0,e2,k3,k1,-Int.natCast_add,w2]
   refine⟨t.kids.length-(k+1),by omega,k+1,rfl,hlt,rfl,by simp[go_sem,g1],by simp[go_sem],?_⟩
   rw[<-hd];simp[k3,k1]
  simp +contextual [go_sem,tc,g1,g3,hlt',jG,dq,hix,mg,tC,e0,e2,k3,k1];refine hR ⟨_,rfl,?_⟩;rw[hag,<-hd];simp[go_sem,k3,k1];exact aL rfl rfl
 have:k=t.kids.length:=o_;subst this;simp[go_sem,tc,g1,g3,jG,dq];refine hR ⟨_,rfl,?_⟩;rw[hag,<-hd,aj];simp[go_sem];exact aL rfl rfl
theorem O1(t:T) (hs:t.size<4000000) (hn:t.name=C8->t.kids≠[]) (h:H):az C h (.func 277 []) (some [enc t])=some (.bool (pT t),h):=ah (dC _) (by simp[aw]) s_ (Jh t hs hn)
theorem Kn{t:T}(h:nU t=true) (hn:t.name=C8):t.kids≠[]:=by
 have e:uY C8=some ⟨C8,1,8,2⟩:=by rfl
 rw[nU,hn,e]at h;simp only[aq,decide_eq_true_eq]at h;intro a;rw[a]at h;simp at h
def QT(t:T) (n:Nat) (s:PT) (h:H):Prop:=∃k:Nat,n=t.kids.length-k/\k<=t.kids.length/\h=[.cells (tc t) .live]/\s.get 1=.ptr 0 0/\s.get 4=.int .i64 k/\jk (t.kids.drop k)=jk t.kids
theorem Kk(t:T) (hs:t.size<4000000) (hc:∀k∈t.kids,ay C 224 [enc k]=some (.int .i64 (gh k))):ay C 224 [enc t]=some (.int .i64 (gh t)):=by
 refine bD func224 rfl λR l=>?_
 have u:=xl t.name;have x:=O2 t hs;have p:=Ao t;have lt:=wj t;by_cases c:t.kind=3
 ·have f:=lt;rw[c]at f;by_cases i:rf t.name=0
  ·simp +contextual [go_sem,aQ,xN,sC,u,c,i];refine l ⟨_,rfl,?_⟩;have e:gh t=10:=by rw[p];simp[c,i]
   rw[e];simp[go_sem];exact aL rfl rfl
  by_cases j:nU t=true
  ·have c3:=O1 t hs (Kn j);by_cases r:rf t.name=2
   ·by_cases y:pT t=true
    ·have e:gh t=jk t.kids:=by rw[p];simp[c,j,r,y]
     simp +contextual [go_sem,aQ,xN,sC,f,u,x,c3,c,j,r,y];refine bR (QT t) t.kids.length ⟨0,rfl,aO _,by simp[tc,c],g_,g_,rfl⟩ ?_
     skip
     rintro n s h ⟨k,rfl,B,rfl,m,o,d⟩;have v:=len_sizes t.kids;have z:=size_kids t;by_cases a:k<t.kids.length
     ·have b:(k:Int)<t.kids.length:=o_;have g:=lE t.kids k a .unk;have w:∀h,az C h (.func 224 []) (some [enc t.kids[k]])=some (.int .i64 (gh t.kids[k]),h):=λh=>ah (dC _) (by simp[aw]) s_ (hc _ (aG a))
      have A:=wS k o_;rw[aH a,jk]at d;by_cases q:gh t.kids[k]=0
      ·rw[q]at d;simp[go_sem,tc,jG,dq,m,o,b,g,iT,w,q,-Int.natCast_add,A];exact⟨t.kids.length-(k+1),o_,k+1,rfl,a,rfl,g_,g_,by rw[<-d];rfl⟩
      simp[go_sem,tc,jG,dq,m,o,b,g,iT,w,q];refine l ⟨_,rfl,?_⟩;rw[e,<-d];simp[go_sem,thn,q];exact aL rfl rfl
     have:k=t.kids.length:=o_;subst this;simp[go_sem,tc,jG,dq,m,o];refine l ⟨_,rfl,?_⟩;rw[aj,jk]at d;rw[e,<-d];simp[go_sem];exact aL rfl rfl
    simp +contextual [go_sem,aQ,xN,sC,f,u,x,c3,c,j,r,y];refine l ⟨_,rfl,?_⟩;have e:gh t=10:=by rw[p];simp[c,j,r,y]
    rw[e];simp[go_sem];exact aL rfl rfl
   have e:gh t=jk t.kids:=by rw[p];simp[c,i,j,r]
   simp +contextual [go_sem,aQ,xN,sC,f,u,x,c3,c,i,j,r];refine bR (QT t) t.kids.length ⟨0,rfl,aO _,by simp[tc,c],g_,g_,rfl⟩ ?_
   skip
   rintro n s h ⟨k,rfl,B,rfl,m,o,d⟩;have v:=len_sizes t.kids;have z:=size_kids t;by_cases a:k<t.kids.length
   ·have b:(k:Int)<t.kids.length:=o_;have g:=lE t.kids k a .unk;have w:∀h,az C h (.func 224 []) (some [enc t.kids[k]])=some (.int .i64 (gh t.kids[k]),h):=λh=>ah (dC _) (by simp[aw]) s_ (hc _ (aG a))
    have A:=wS k o_;rw[aH a,jk]at d;by_cases q:gh t.kids[k]=0
    ·rw[q]at d;simp[go_sem,tc,jG,dq,m,o,b,g,iT,w,q,-Int.natCast_add,A];exact⟨t.kids.length-(k+1),o_,k+1,rfl,a,rfl,g_,g_,by rw[<-d];rfl⟩
    simp[go_sem,tc,jG,dq,m,o,b,g,iT,w,q];refine l ⟨_,rfl,?_⟩;rw[e,<-d];simp[go_sem,thn,q];exact aL rfl rfl
   have:k=t.kids.length:=o_;subst this;simp[go_sem,tc,jG,dq,m,o];refine l ⟨_,rfl,?_⟩;rw[aj,jk]at d;rw[e,<-d];simp[go_sem];exact aL rfl rfl
  simp +contextual [go_sem,aQ,xN,sC,f,u,x,c,i,j];refine l ⟨_,rfl,?_⟩;have e:gh t=6:=by rw[p];simp[c,i,j]
  rw[e];simp[go_sem];exact aL rfl rfl
 simp +contextual [go_sem,aQ,xN,c];refine l ⟨_,rfl,?_⟩;have e:gh t=0:=by rw[p];simp[c]
 rw[e];simp[go_sem];exact aL rfl rfl
theorem Be(t:T):t.size<4000000->ay C 224 [enc t]=some (.int .i64 (gh t)):=by
 induction t using T.ind with
 |_ t b=>exact λc=>Kk t c (λk a=>b k a (by have:=kid_size a;omega))
theorem PA(t:T) (hs:t.size<4000000) (h:H):az C h (.func 224 []) (some [enc t])=some (.int .i64 (gh t),h):=ah (dC _) (by simp[aw]) s_ (Be t hs)
theorem Jw(t:T) (hs:t.size<4000000):ay C 162 [enc t]=some (.int .i64 (dW t)):=by
 refine bD func162 rfl λR b=>?_
 have c:=kq t hs;have d:=PA t hs;have lt:=wj t;by_cases a:bc t=0
 ·simp[go_sem,aQ,lt,c,d,a];refine b ⟨_,rfl,?_⟩;simp[go_sem,dW,thn,a];exact aL rfl rfl
 simp[go_sem,aQ,lt,c,a];refine b ⟨_,rfl,?_⟩;simp[go_sem,dW,thn,a];exact aL rfl rfl
theorem vR(t:T) (hs:t.size<4000000) (h:H):az C h (.func 162 []) (some [enc t])=some (.int .i64 (dW t),h):=ah (dC _) (by simp[aw]) s_ (Jw t hs)
def okY(y:T):Bool:=!(decide (y.kind=3)&&gF y.name)
def V7(l:Lq) (m:Nat) (st:PT) (_h:H):Prop:=∃k:Nat,m=l.length-k/\k<=l.length/\st.get 3=aQ l/\st.get 4=.int .i64 k/\(l.drop k).all okY=l.all okY
theorem OC(t:T) (hs:t.size<4000000):ay C 163 [enc t]=some (.bool (tg t)):=by
 refine gu rfl func163 rfl k_ (by simp[f163]) λR i=>?_
 have v:=vR t hs;have x:=vQ t hs;have c3:=O9;have o:=xl;have lt:=wj t;by_cases p:dW t=0
 ·have z:=kB bS jI t;have y:tg t=(cU bS t).all okY:=by rw[tg,p];rfl
  simp[go_sem,aQ,lt,v,x,p];rw[y]at i;generalize cU bS t=l at *;have b:=fK l;refine bR (V7 l) l.length ⟨0,rfl,aO _,by simp[go_sem,aQ],g_,rfl⟩ ?_;rintro m A h ⟨k,rfl,B,j,n,f⟩;by_cases c:k<l.length
  ·have a:(k:Int)<l.length:=o_;have d:=fL l k c;have w:=wS k o_;have q:=A3 l[k];have r:∀h,aX C.P h 9 (.iptr (enc l[k]) 1)=some (.str l[k].name):=λh=>by simp[aX,ae,a9,s9,bB]
   have s:bH C.P 39 (.iptr (enc l[k]) 0) 1=some (.iptr (enc l[k]) 1):=k_;rw[aH c,dp]at f;by_cases e:l[k].kind=3
   ·by_cases g:ED l[k].name=true
    ·simp +contextual [go_sem,j,n,a,b,d,mg,s,q,r,c3,o,e,g];refine i _ _ _ (.inr rfl) ⟨_,rfl,?_⟩;rw[<-f];simp[go_sem,okY,gF,e,g];exact aL rfl rfl
    by_cases u:rf l[k].name=3
    ·simp +contextual [go_sem,j,n,a,b,d,mg,s,q,r,c3,o,e,g,u];refine i _ _ _ (.inr rfl) ⟨_,rfl,?_⟩;rw[<-f];simp[go_sem,okY,gF,e,g,u];exact aL rfl rfl
    simp +contextual [go_sem,j,n,a,b,d,mg,s,q,r,c3,o,e,g,u,-Int.natCast_add,w];refine⟨l.length-(k+1),o_,k+1,rfl,c,g_,g_,?_⟩;rw[<-f];simp[okY,gF,e,g,u]
   simp +contextual [go_sem,j,n,a,b,d,mg,s,q,r,c3,o,e,-Int.natCast_add,w];refine⟨l.length-(k+1),o_,k+1,rfl,c,g_,g_,?_⟩;rw[<-f];simp[okY,e]
  have:k=l.length:=o_;subst this;simp[go_sem,j,n,b];refine i _ _ _ (.inr rfl) ⟨_,rfl,?_⟩;rw[<-f,aj];simp[go_sem];exact aL rfl rfl
 simp[go_sem,aQ,lt,v,p];refine i _ _ _ (.inr rfl) ⟨_,rfl,?_⟩;simp[go_sem,tg,p];exact aL rfl rfl
theorem PJ(t:T) (hs:t.size<4000000) (h:H):az C h (.func 163 []) (some [enc t])=some (.bool (tg t),h):=ah (dC _) (by simp[aw]) s_ (OC t hs)
def cz(d:Dm):AV:=.agg [aQ d.knows,.int .i64 d.term.kind,.str d.term.name,.int .i64 d.term.sort,aQ d.term.kids]
def bF(l:List Dm):AV:=.isl (l.map cz) .unk
theorem u22:C.P.underlying 22=some (.slice 41):=underlying22
theorem s41:cS C.P 41=some 5:=k_
theorem s22:cS C.P 22=some 1:=k_
theorem a41:eW C.P 41=some true:=k_
theorem a22:eW C.P 22=some false:=k_
theorem b41:gl C.P 41=some 80:=k_
theorem z41:fe C.P 41=true:=k_
theorem Xi:iG C.P 22=some 41:=k_
attribute [go_sem] u22 s41 s22 a41 a22 Xi
theorem Lh(i:Nat):bH C.P 41 (.ptr i 0) 0=some (.ptr i 0):=k_
theorem SB(i:Nat):bH C.P 41 (.ptr i 0) 1=some (.ptr i 1):=k_
theorem OK(e:AV):bH C.P 41 (.iptr e 0) 0=some (.iptr e 0):=k_
theorem OJ(e:AV):bH C.P 41 (.iptr e 0) 1=some (.iptr e 1):=k_
attribute [go_sem] Lh SB OK OJ
def dc(d:Dm):LA:=[aQ d.knows,.int .i64 d.term.kind,.str d.term.name,.int .i64 d.term.sort,aQ d.term.kids]
theorem UN(l:List Dm) (x:Ext):fW C.P 22 (.isl (l.map cz) x)=some (.int .i64 l.length):=by simp[fW,u22]
theorem qo(l:List Dm):fW C.P 22 (bF l)=some (.int .i64 l.length):=UN l _
theorem A5(l:List Dm) (k:Nat) (hk:k<l.length) (x:Ext):bP C.P 22 (.isl (l.map cz) x) (.int .i64 k)=some (.iptr (cz l[k]) 0):=by simp[bP,u22,s41,hk,cz,aa]
theorem sH(l:List Dm) (k:Nat) (hk:k<l.length):bP C.P 22 (bF l) (.int .i64 k)=some (.iptr (cz l[k]) 0):=A5 l k hk _
theorem Rn(d:Dm) (h:H):aX C.P h 41 (.iptr (cz d) 0)=some (cz d):=by simp[aX,ae,a41,s41,cz,aa]
theorem uw(d:Dm) (h:H):aX C.P h 37 (.iptr (cz d) 0)=some (aQ d.knows):=by simp[aX,ae,a23,s23,cz,aa]
theorem Az(d:Dm) (h:H):aX C.P h 39 (.iptr (cz d) 1)=some (enc d.term):=by simp[aX,ae,a25,s25,cz,aa];rw[bJ]
theorem Bp(d:Dm) (h:H):aX C.P h 3 (.iptr (cz d) 1)=some (.int .i64 d.term.kind):=by simp[aX,ae,a3,s3,cz,aa]
theorem D3(d:Dm) (h:H):mX C.P h 41 (cz d)=some (.ptr h.length 0,h++[.cells (dc d) .live]):=by simp[mX,cz,aa,s41,bV,dc]
theorem Xa{h:H}{i:Nat}{d:Dm}(hi:h[i]?=some (.cells (dc d) .live)):aX C.P h 37 (.ptr i 0)=some (aQ d.knows):=by simp[aX,hi,ae,a23,s23,dc]
theorem XZ{h:H}{i:Nat}{d:Dm}(hi:h[i]?=some (.cells (dc d) .live)):aX C.P h 39 (.ptr i 1)=some (enc d.term):=by simp[aX,hi,ae,a25,s25,dc];rw[bJ]
theorem U3(d:Dm):mz [cz d]=some [cz d]:=rfl
theorem NT(d:Dm):short (cz d)=true:=rfl
def WF(l:Lq) (hd:List VObj) (m:Nat) (st:PT) (h:H):Prop:=∃k:Nat,m=l.length-k/\k<=l.length/\h=hd/\st.get 1=.ptr 0 0/\st.get 4=aQ l/\st.get 5=.int .i64 k/\((l.drop k).any λv=>decide (v.sort=1)||decide (v.sort=5))=l.any λv=>decide (v.sort=1)||decide (v.sort=5)
theorem KM(t:T) (hs:t.size<4000000):ay C 105 [enc t]=some (.int .i64 (eM t)):=by
 refine bD func105 rfl λR i=>?_
 have x:=vR t hs;have A:=xk t hs;have c3:=PJ t hs;have y:=CO t hs;have lt:=wj t;by_cases s:dW t=0
 ·have D:=vZ t;have p:eM t=if((fI t).any λv=>decide (v.sort=1)||decide (v.sort=5))=true then 10 else if tg t=false then 10 else if 60<t.size then 3 else 0:=by rw[eM,if_neg (by simp[s])]
  simp[go_sem,aQ,lt,x,A,s];generalize fI t=l at *;have a:=fK l;refine bR (WF l _) l.length ⟨0,rfl,aO _,rfl,g_,by simp[go_sem,aQ],g_,rfl⟩ ?_;rintro m E h ⟨k,rfl,F,rfl,j,n,o,c⟩;by_cases d:k<l.length
  ·have b:(k:Int)<l.length:=o_;have f:=fL l k d;have B:=wS k o_;have w:=QI l[k];rw[aH d,List.any_cons]at c;by_cases r:l[k].sort=1
   ·simp +contextual [go_sem,n,o,b,a,f,tC,w,r];refine i ⟨_,rfl,?_⟩;have e:eM t=10:=by rw[p,<-c];simp[r]
    rw[e];simp[go_sem];exact aL rfl rfl
   by_cases u:l[k].sort=5
   ·simp +contextual [go_sem,n,o,b,a,f,tC,w,u];refine i ⟨_,rfl,?_⟩;have e:eM t=10:=by rw[p,<-c];simp[u]
    rw[e];simp[go_sem];exact aL rfl rfl
   simp +contextual [go_sem,n,o,b,a,f,tC,w,r,u,-Int.natCast_add,B];refine⟨l.length-(k+1),o_,k+1,rfl,d,rfl,g_,g_,g_,?_⟩;rw[<-c];simp[r,u]
  have:k=l.length:=o_;subst this;rw[aj]at c;by_cases q:tg t=true
  ·by_cases z:60<t.size
   ·have g:(60:Int)<t.size:=o_;simp[go_sem,j,n,o,a,lt,c3,y,q,g];refine i ⟨_,rfl,?_⟩;have e:eM t=3:=by rw[p,<-c];simp[q,z]
    rw[e];simp[go_sem];exact aL rfl rfl
   have g:¬(60:Int)<t.size:=o_;simp[go_sem,j,n,o,a,lt,c3,y,q,g];refine i ⟨_,rfl,?_⟩;have e:eM t=0:=by rw[p,<-c];simp[q,z]
   rw[e];simp[go_sem];exact aL rfl rfl
  simp[go_sem,j,n,o,a,lt,c3,q];refine i ⟨_,rfl,?_⟩;have e:eM t=10:=by rw[p,<-c];simp[q]
  rw[e];simp[go_sem];exact aL rfl rfl
 simp[go_sem,aQ,lt,x,s];refine i ⟨_,rfl,?_⟩;have e:eM t=dW t:=by rw[eM,if_pos s]
 rw[e];simp[go_sem];exact aL rfl rfl
theorem HJ(t:T) (hs:t.size<4000000) (h:H):az C h (.func 105 []) (some [enc t])=some (.int .i64 (eM t),h):=ah (dC _) (by simp[aw]) s_ (KM t hs)
theorem c3:prog.cellsOf 3=1:=k_
theorem c9:prog.cellsOf 9=1:=k_
theorem c23:prog.cellsOf 37=1:=k_
theorem c25:prog.cellsOf 39=4:=k_
section
variable {H:Type}{ec:TypeId × Value->H}{w:World}
noncomputable abbrev TR(ec:TypeId × Value->H) (w:World) (n:Nat) (t:TypeId) (cs:List Value):Option (DataW H × List MemPlace):=DataW.trod ec prog w 0 (λ_=>true) true n t cs
theorem UM{α:Type}{l:List α}(h:l.length=4):∃a b c d,l=[a,b,c,d]:=by
 match l,h with
 |[a,b,c,d],_=>exact⟨a,b,c,d,rfl⟩
theorem Ll(t:T):(enc t).cells.length=4/\bV (enc t)=true/\∀c∈(enc t).cells,c.one=true:=by rw[bB];refine⟨rfl,by rw[bJ];rfl,λc a=>?_⟩;simp only[ak,dV,or_false]at a;rcases a with rfl|rfl|rfl|rfl<;>rfl
theorem Df:∀(fuel:Nat) (cs:List Value) (y:DataW H × List MemPlace),cs.length=4->TR ec w fuel 39 cs=some y->∃t:T,t.size<=oL y.1/\∀(j:Nat) c u,(enc t).cells[j]?=some c->cs[j]?=some u->IRel (λ_ _=>True) w c u:=by
 intro fuel;induction fuel using Nat.strongRecOn with
 |_ fuel v=>
  intro cs y f h;obtain⟨d,n,rfl,rfl,I,x,e⟩:=DataW.trod_struct underlying39 h;have i:TR ec w n 3 ((cs.drop 0).take (prog.cellsOf 3))=d[0]?:=e 0 _ rfl;have k:TR ec w n 9 ((cs.drop 1).take (prog.cellsOf 9))=d[1]?:=e 1 _ rfl;have o:TR ec w n 3 ((cs.drop 2).take (prog.cellsOf 3))=d[2]?:=e 2 _ rfl;have p:TR ec w n 37 ((cs.drop 3).take (prog.cellsOf 37))=d[3]?:=e 3 _ rfl;obtain⟨J,K,L,M,rfl⟩:=UM f;obtain⟨N,O,Q,S,rfl⟩:=UM (l:=d) x;simp only[c3,c9,c23,eX,gQ,ic,li,bt,dK]at i k o p;obtain⟨z,q,rfl,_⟩:=DataW.trod_int underlying3 i;obtain⟨A,r,rfl,_⟩:=DataW.trod_string underlying9 k;obtain⟨B,s,rfl,_⟩:=DataW.trod_int underlying3 o;simp only[cH,and_true]at q r s;subst q;subst r;subst s;have⟨l,D,E,g⟩:=wQ (toV:=enc) (sz:=T.size) underlying37 c25 o_ Ll (λm U cs y F G=>v m o_ cs y F G) p;refine⟨.mk z A B l,?_,λj c u a b=>?_⟩
  ·rw[size_kids];show sizes l+1<=_;rw[sizes_eq];simp only[aS,au,oL,YtclakfnjdnibeaaGreatDoor.Rows.uptoBulk,YtclakfnjdnibeaaGreatDoor.Rows.uptoBulkAll]at g ⊢;omega
  rw[bB]at a;match j,a,b with
  |0,a,b=>simp at a b;subst a;subst b;exact .int _ _
  |1,a,b=>simp at a b;subst a;subst b;exact .str _
  |2,a,b=>simp at a b;subst a;subst b;exact .int _ _
  |3,a,b=>simp at a b;subst a;subst b;exact D
  |j+4,a,b=>simp at a
theorem JB{n:Nat}{v:Value}{x:DataW H × List MemPlace}(h:TR ec w n 37 [v]=some x):∃l:Lq,IRel (λ_ _=>True) w (aQ l) v/\l.length+1<=oL x.1/\(l.map T.size).sum+1<=oL x.1:=
 wQ (toV:=enc) (sz:=T.size) underlying37 c25 o_ Ll (λm _ a y b c=>Df m a y b c) h
theorem c41:prog.cellsOf 41=5:=k_
theorem XW{α:Type}{l:List α}(h:l.length=5):∃a b c d e,l=[a,b,c,d,e]:=by
 match l,h with
 |[a,b,c,d,e],_=>exact⟨a,b,c,d,e,rfl⟩
theorem Ls{n:Nat}{v:Value}{x:DataW H × List MemPlace}(h:TR ec w n 22 [v]=some x):∃l:List Dm,IRel (λ_ _=>True) w (bF l) v:=by
 have⟨l,q,_,_⟩:=wQ (toV:=cz) (sz:=λ_=>0) underlying22 c41 o_ (λb=>⟨rfl,rfl,λc d=>by
  simp only[cz,aa,ak,dV,or_false]at d;rcases d with rfl|rfl|rfl|rfl|rfl<;>rfl⟩) (λm _ i y f r=>by
  obtain⟨g,n,rfl,rfl,B,s,k⟩:=DataW.trod_struct underlying41 r;have o:TR ec w n 37 ((i.drop 0).take (prog.cellsOf 37))=g[0]?:=k 0 _ rfl;have p:TR ec w n 39 ((i.drop 1).take (prog.cellsOf 39))=g[1]?:=k 1 _ rfl;obtain⟨D,E,F,G,I,rfl⟩:=XW f;obtain⟨J,K,rfl⟩:∃a b,g=[a,b]:=by
   match g,s with
   |[a,b],_=>exact⟨a,b,rfl⟩
  simp only[c23,c25,eX,gQ,ic,li,bt,dK]at o p;have⟨t,z,_⟩:=JB o;have⟨A,_,f⟩:=Df _ _ _ rfl p;rw[bB]at f;refine⟨⟨t,A⟩,aO _,λj c u d e=>?_⟩;simp only[cz,aa]at d;match j,d,e with
  |0,d,e=>simp at d e;subst d;subst e;exact z
  |1,d,e=>exact f 0 c u d e
  |2,d,e=>exact f 1 c u d e
  |3,d,e=>exact f 2 c u d e
  |4,d,e=>exact f 3 c u d e
  |j+5,d,e=>simp at d) h
 exact⟨l,q⟩
end
end Go.VZ
namespace Go.VZ
open Go Go.V Go.Proofs Tryz TL
theorem Wy:prog.underlying 333=some (.array 20 157):=k_
theorem Wz:prog.underlying 157=some (.int .u64):=k_
theorem Xv:prog.cellsOf 157=1:=k_
theorem Xu:prog.cellsOf 333=20:=k_
def KY{H:Type}:List (DataW H):=(List.range 20).map λi=>.lit (.int .u64 ((10 ^ i:Nat):Int))
theorem IC{H:Type}:YtclakfnjdnibeaaGreatDoor.Rows.laid_internal_strconv_uint64pow10 (H:=H)=.agg KY:=k_
theorem Ew{H:Type}{enc:TypeId × Value->H}{w:World}{base:Nat}{sp:Nat->Bool}{held:Bool}{fuel:Nat}{cs:List Value}{p:List MemPlace}(hr:DataW.trod enc prog w base sp held fuel 333 cs=some (YtclakfnjdnibeaaGreatDoor.Rows.laid_internal_strconv_uint64pow10,p)):cs.length=20/\∀i,i<20->cs[i]?=some (.int .u64 ((10 ^ i:Nat):Int)):=by
 have⟨b,m,_,g,a,l,c⟩:=DataW.trod_array Wy hr;rw[Xu]at a;refine⟨a,λi h=>?_⟩;have d:=c i h;rw[Xv,nF]at d;have j:b[i]?=some (b[i]' o_):=aC o_;rw[j]at d;have⟨n,e,o,_⟩:=DataW.trod_int Wz d;rw[IC]at g;have q:KY=b.map (·.1):=by have:=congrArg Prod.fst g;simpa using this
 have f:=congrArg (·[i]?) q;simp only[KY,bW,dt h,j,bf,aA,o]at f;simp only[DataW.lit.injEq,Lit.int.injEq,true_and]at f;have k:=congrArg (·[0]?) e;simp only[kX (show 0<1 by decide),bk,dS,bt]at k;rw[k,<-f]
theorem Ip{w:World}(h:laidMetH prog YtclakfnjdnibeaaGreatDoor.Rows.exhaustFormsRow.laid w):kW (λ_ _=>True) w:=by
 rw[MakeChecks.laidMetH_plain _ _ _ k_]at h;have⟨I,h,_,_⟩:=h;have⟨_,_,_,_,_,_,_,_,_,_,h,_⟩:=h;have⟨_,_,_,_,_,_,_,_,_,_,h,_⟩:=h;have⟨g,t,n,s,p,q,y,z,k,A,h,_⟩:=h;have u:prog.globalNamed "internal/strconv.uint64pow10" = some 1:=k_;have B:(prog.globals[1]?).map (·.type)=some 333:=k_;have D:g=1:=Option.some.inj (y.symm.trans u);subst D;have E:t=333:=Option.some.inj (z.symm.trans B);subst E;have a:∃v x,w.heap[1]?=some (.cells n v x):=by
  unfold World.var? at k;rw[show prog.globalNamed _=some 1 from u]at k;simp only[cN]at k;split at k
  ·rename_i v x F;simp only[aA]at k;subst k;exact⟨_,_,F⟩
  cases k
 have⟨l,m⟩:=Ew A;have⟨J,K,a⟩:=a;refine⟨λG L d=>?_,λG M d=>?_⟩
 rotate_left
 ·unfold uz at d;split at d
  ·rename_i e;subst e;simp only[aA]at d;subst d;exact⟨_,_,_,a,by simpa using l⟩
  cases d
 unfold sI at d;split at d
 ·rename_i e;subst e;simp only[aA]at d;subst d;refine IRel.iptr (off:=0) (b:=1) (o:=0) (λj=>.int .u64 ((10 ^ j:Nat):Int)) ?_ ?_ ?_
  ·intro c f;simp only[AV.cells,bA]at f;obtain⟨i,_,rfl⟩:=f;rfl
  ·intro j c f;have r:j<20:=by have:=(aB.1 f).1;simpa[AV.cells]using this
   refine⟨trivial,?_⟩;have:=m j r;simp only[World.cell?,a,bn];simpa using this
  intro j c f;have r:j<20:=by have:=(aB.1 f).1;simpa[AV.cells]using this
  simp only[AV.cells,bW,dt r,bf,aA]at f;subst f;exact .int _ _
 cases d
def lH(n:Nat):List UInt8:=if n<10 then [UInt8.ofNat (48+n)]else lH (n/10)++[UInt8.ofNat (48+n%10)]
termination_by n
theorem ny(n:Nat):lH n=if n<10 then [UInt8.ofNat (48+n)]else lH (n/10)++[UInt8.ofNat (48+n%10)]:=by rw[lH]
theorem wP{k:Nat}(h:k<10):(UInt8.ofNat (48+k)).toNat=48+k:=by simp[UInt8.toNat_ofNat'];omega
theorem zC:∀(n:Nat),lH n≠[]/\∀c∈lH n,48<=c/\c<=57:=by
 intro n;induction n using Nat.strongRecOn with
 |_ n b=>
  have one:∀k,k<10->48<=UInt8.ofNat (48+k)/\UInt8.ofNat (48+k)<=57:=λk d=>by rw[UInt8.le_iff_toNat_le,UInt8.le_iff_toNat_le,wP d];exact⟨by show 48<=_;omega,by show _<=57;omega⟩
  rw[lH];split
  ·rename_i h;exact⟨s_,λc a=>by rw[bL.1 a];exact one n h⟩
  rename_i h;refine⟨s_,λc a=>?_⟩;rcases aZ.1 a with a|a
  ·exact(b (n/10) o_).2 c a
  rw[bL.1 a];exact one _ o_
theorem Lt:∀(n m:Nat),lH n=lH m->n=m:=by
 intro n;induction n using Nat.strongRecOn with
 |_ n g=>
  intro m h;have f:∀ {a b:Nat},a<10->b<10->UInt8.ofNat (48+a)=UInt8.ofNat (48+b)->a=b:=fun {a b} i j e=>by have:=congrArg UInt8.toNat e;rw[wP i,wP j]at this;omega
  have len:∀k,¬k<10->2<=(lH k).length:=λk l=>by rw[lH,if_neg l,aK];have:=(zC (k/10)).1;have:0<(lH (k/10)).length:=gO.2 this;simp;omega
  by_cases d:n<10
  ·by_cases c:m<10
   ·rw[ny n,if_pos d,ny m,if_pos c]at h;exact f d c (by simpa using h)
   have:=len m c;rw[<-h,ny n,if_pos d]at this;simp at this
  by_cases c:m<10
  ·have:=len n d;rw[h,ny m,if_pos c]at this;simp at this
  rw[ny n,if_neg d,ny m,if_neg c]at h;have⟨o,p⟩:=List.append_inj' h rfl;have:=g (n/10) o_ (m/10) o;have:=f o_ o_ (by simpa using p:UInt8.ofNat (48+n%10)=UInt8.ofNat (48+m%10));omega
def yV(n:Nat) (s:Int):T:=.mk 2 ⟨(101::35::lH n).toArray⟩ s []
theorem Nf(n:Nat){s:Int}(h:0<=s/\s<=5):pf (yV n s)=true:=by
 have d:zw ⟨(101::35::lH n).toArray⟩=true:=by
  have a:=zC n;have f:0<(lH n).length:=gO.2 a.1;simp only[zw,ByteArray.size,aq,decide_eq_true_eq,bM];refine⟨⟨?_,?_⟩,?_⟩
  ·simp;omega
  ·simp
  intro c b;simp at b;have:=a.2 c b;exact⟨by simpa using this.1,by simpa using this.2⟩
 have e:s=0\/s=1\/s=2\/s=3\/s=4\/s=5:=o_;unfold pf yV;simp only[pG,T.sort,pE];rcases e with rfl|rfl|rfl|rfl|rfl|rfl<;>simp[d]
def gx(n:Nat):T:=.mk 2 ⟨(118::35::35::lH n).toArray⟩ 0 []
theorem Gz{n m:Nat}(h:gx n=gx m):n=m:=by simp only[gx,T.mk.injEq,ByteArray.mk.injEq,and_true,true_and]at h;have:=congrArg Array.toList h;simp at this;exact Lt _ _ this
theorem N8(n:Nat):pf (gx n)=false:=by
 unfold pf gx;simp only[pG,T.sort,pE];have a:zw ⟨(118::35::35::lH n).toArray⟩=false:=by simp[zw]
 simp[a]
def tP(t:T):Prop:=pf t=true
structure Al where
 rule:Int
 bind:Lb
 dem:List Dm
structure AltOk (l:List Dm) (a:Al):Prop where
 sol:∀θ,Sol tP θ a.dem->Sol tP (after θ a.bind) l
 nf:∀b∈a.bind,nf gF b.2
 dup:(a.bind.map (·.1)).Nodup
 valid:bp a.dem=0
structure GoodN (l0:List Dm) (d:List Dm) (s:Lb):Prop where
 sol:∀θ,Sol tP θ d->Sol tP (after θ s) l0
 nf:∀b∈s,nf gF b.2
 dup:(s.map (·.1)).Nodup
 valid:bp d=0
theorem AZ{P:T->Prop}{θ θ':T->T}{l:List Dm}(h:∀t,nC θ t=nC θ' t) (hs:Sol P θ l):Sol P θ' l:=λd a=>by rw[<-h];refine qv (λt b=>?_) (hs d a);obtain⟨k,c,rfl⟩:=b;exact .ax ⟨k,c,h k⟩
theorem BN(θ:T->T):∀t,nC (after θ []) t=nC θ t:=λt=>by
 rw[mY];congr 1
 revert t
 refine T.ind λt a=>?_
 rw[fk];split
 ·rfl
 have:t.kids.map (cE [])=t.kids:=by
  conv=>rhs;rw[<-List.map_id t.kids]
  exact fP λk b=>a k b
 rw[this];exact pg t
theorem Io{l:List Dm}(h:bp l=0):GoodN l l []:=⟨λθ a=>AZ (λt=>(BN θ t).symm) a,s_,s_,h⟩
theorem JG{s u:Lb}(hs:(s.map (·.1)).Nodup) (hu:(u.map (·.1)).Nodup):((kV s u).map (·.1)).Nodup:=by have p:=mS (vL s u) [];rw[bz]at p;rw[kV,(p.map _).nodup_iff];exact(wx hs hu).sublist ((nY).map _)
theorem In{l0 d:List Dm}{s:Lb}{a:Al}(h:GoodN l0 d s) (ha:AltOk d a):GoodN l0 a.dem (kV s a.bind):=
 ⟨λθ b=>KH h.dup ha.dup (h.sol _ (ha.sol θ b)),Nj h.nf ha.nf,JG h.dup ha.dup,ha.valid⟩
theorem Ph(l:Lb):∀t:T,nC (eK l) t=cE l t:=by
 refine T.ind λt b=>?_
 rw[fk];by_cases k:t.kind=1
 ·rw[if_pos k,vU k]
 rw[if_neg k,oJ k];congr 1
 exact fP λa c=>b a c
def mC(own s:Lb) (vars:Lq):Lb:=vars.map λx=>(x,cE own (cE s x))
theorem DS{own s:Lb}:∀ {vars:Lq}{x:T},x∈vars->eK (mC own s vars) x=cE own (cE s x)
 |[],x,h=>by simp at h
 |a::vars,x,h=>by
  rw[mC,aS,eK];by_cases e:a.cmp x=0
  ·rw[if_pos e,cmp_zero.1 e]
  rw[if_neg e];exact DS ((ak.1 h).elim (λq=>absurd (cmp_zero.2 q.symm) e) id)
theorem KU{own s:Lb}{vars:Lq}:∀t:T,(∀y∈cU bS t,y.kind=1->y∈vars)->cE (mC own s vars) t=cE own (cE s t):=by
 refine T.ind λt c h=>?_
 by_cases k:t.kind=1
 ·rw[fk,if_pos k,DS (h t (eU t) k)]
 rw[fk,if_neg k,fk s,if_neg k,fk own,pG,if_neg k,pE,Br,iK];congr 1
 exact fP λa b=>c a b λy d=>h y (mem_walk.2 (.inr ⟨a,b,d⟩))
theorem wH{l:Lq}{t y:T}(ht:t∈l) (hy:y∈cU bS t) (k:y.kind=1):y∈cR l:=by rw[cR,mem_setS,bh];exact⟨t,ht,by rw[fI,mem_setS,bm];exact⟨hy,by simp[isK,k]⟩⟩
theorem FL{l0 d:List Dm}{s own:Lb}(h:GoodN l0 d s) (hs:∀e∈d,e.term.kind=1) (ho:∀e∈d,pf (eK own e.term)=true){e:Dm}(he:e∈l0) :
  Dr tP (λt=>∃k∈e.knows,t=cE (mC own s (cR (bE l0))) k) (cE (mC own s (cR (bE l0))) e.term):=by
 have c:∀t∈bE l0,cE (mC own s (cR (bE l0))) t=nC (after (eK own) s) t:=λt b=>by rw[KU t λy f k=>wH b f k,mY,Ph]
 have g:∀k∈e.knows,k∈bE l0:=λk a=>bh.2 ⟨e,he,dP _ a⟩
 have i:e.term∈bE l0:=bh.2 ⟨e,he,s_⟩;have:=h.sol (eK own) (NP hs ho) e he;rw[c _ i];refine qv (λt b=>?_) this;obtain⟨k,a,rfl⟩:=b;exact .ax ⟨k,a,(c k (g k a)).symm⟩
theorem Ni{bad:ByteArray->Bool}{own s:Lb}{vars:Lq}(ho:∀b∈own,nf bad b.2) (hs:∀b∈s,nf bad b.2) (hv:∀x∈vars,nf bad x):∀b∈mC own s vars,nf bad b.2:=λb a=>by obtain⟨x,c,rfl⟩:=bA.1 a;exact vr ho _ (vr hs _ (hv x c))
def iq(vars:Lq) (ns:List Nat):Lb:=vars.zip (ns.map gx)
def xr(ts:Lq) (ns:List Nat):Prop:=ns.Nodup/\∀n∈ns,∀t∈ts,∀y∈cU bS t,y.kind=2->y.name≠(gx n).name
theorem Rz{vars:Lq}{ns:List Nat}(h:ns.Nodup):N9 (iq vars ns):=by
 refine⟨λb c=>?_,?_⟩
 ·have⟨n,_,e⟩:=bA.1 (dh c).2;rw[<-e];rfl
 have:(ns.map gx).Pairwise (·≠·):=by rw[eR];exact h.imp λd e=>d (Gz e)
 have f:∀(a b:Lq),b.Pairwise (·≠·)->(a.zip b).Pairwise λx y=>x.2≠y.2:=by
  intro a;induction a with
  |nil=>intro b _;simp
  |cons x a g=>
   intro b c;cases b with
   |nil=>simp
   |cons y b=>rw[cI]at c;rw[kw,cI];exact⟨λp i=>c.1 _ (dh i).2,g b c.2⟩
 exact f _ _ this
theorem Au:∀ {a b:Lq}{x:T},x∈a->a.length<=b.length->∃p∈a.zip b,p.1=x
 |[],_,x,h,_=>by simp at h
 |y::a,[],x,_,h=>by simp at h
 |y::a,z::b,x,h,hl=>by
  rcases ak.1 h with rfl|h
  ·exact⟨(x,z),s_,rfl⟩
  ·obtain⟨p,hp,e⟩:=Au h (by simpa using hl)
   exact⟨p,be _ hp,e⟩
theorem jD{t:T}(h:dW t=0):bc t=0/\gh t=0:=thn_zero.1 h
theorem OA{vars:Lq}{ns:List Nat}{ts:Lq}(hl:vars.length<=ns.length) (hu:xr ts ns){t:T}(ht:t∈ts) (hv:bc t=0) (hvs:∀y∈cU bS t,y.kind=1->y∈vars):A6 (iq vars ns) t:=λy a=>by
 have c:=ee (kE t (cT hv).1 y a);rcases IS c with k|k|k
 ·refine .inl ⟨k,qE c (.inl k),?_⟩;have⟨p,f,e⟩:=Au (b:=ns.map gx) (hvs y a k) (by simpa using hl);exact⟨p,f,e⟩
 ·refine .inr (.inl ⟨k,qE c (.inr k),λb g e=>?_⟩);have⟨n,d,h⟩:=bA.1 (dh g).2;exact hu.2 n d t ht y a k (by rw[<-e,<-h])
 exact .inr (.inr k)
theorem Oe{l pre post:List Dm}{d:Dm}{ns:List Nat}(hv:bp l=0) (e:l=pre++d::post) (hl:(cR (bE l)).length<=ns.length) (hu:xr (bE l) ns)
  (hd:Dr tP (λt=>∃k,(k∈d.knows\/∃e∈pre,k=e.term)/\t=cE (iq (cR (bE l)) ns) k) (cE (iq (cR (bE l)) ns) d.term)) (θ:T->T) (h:Sol tP θ (pre++post)):Sol tP θ l:=by
 have ok:∀t∈bE l,A6 (iq (cR (bE l)) ns) t:=λt f=>OA hl hu f (jD (jJ (pV hv t f)).1).1 λy j k=>wH f j k
 have m:∀x∈l,∀k∈x.knows,k∈bE l:=λx c k g=>bh.2 ⟨x,c,dP _ g⟩
 have i:∀x∈l,x.term∈bE l:=λx c=>bh.2 ⟨x,c,s_⟩
 have a:∀x∈pre++d::post,x∈l:=λx c=>by rw[e];exact c
 have o:∀b∈iq (cR (bE l)) ns,¬tP b.2:=λb p=>by have⟨n,_,q⟩:=bA.1 (dh p).2;rw[<-q,tP,N8];simp
 have:=KG (P:=tP) (Rz hu.1) (λt f=>KX f) o ((nZ hv).2 pre d post e).2 (λk g=>ok k (m d (a d s_) k g)) (λx c=>ok _ (i x (a x (by simp[c])))) (ok _ (i d (a d s_))) hd h;rw[e];exact this
mutual
def jL:T->List UInt8
 |.mk k n s l=>[UInt8.ofNat k.toNat,UInt8.ofNat s.toNat,UInt8.ofNat l.length]++n.data.toList++[40]++dM l++[41]
def dM:Lq->List UInt8
 |[]=>[]
 |t::l=>jL t++44::dM l
end
theorem sq(t:T):jL t=[UInt8.ofNat t.kind.toNat,UInt8.ofNat t.sort.toNat,UInt8.ofNat t.kids.length]++t.name.data.toList++[40]++dM t.kids++[41]:=by cases t;rw[jL];rfl
theorem Ci{c:UInt8}:∀ {a b r q:List UInt8},c∉a->c∉b->a++c::r=b++c::q->a=b/\r=q
 |[],[],r,q,_,_,h=>by simpa using h
 |[],y::b,r,q,_,hb,h=>by simp only[bz,cP,cH]at h;exact absurd (cJ (a:=y) (l:=b)) (by rw[<-h.1];rw[<-h.1]at hb;exact hb)
 |x::a,[],r,q,ha,_,h=>by simp only[bz,cP,cH]at h;exact absurd (cJ (a:=x) (l:=a)) (by rw[h.1];rw[h.1]at ha;exact ha)
 |x::a,y::b,r,q,ha,hb,h=>by simp only[cP,cH]at h;simp only[ak,not_or]at ha hb;have⟨h1,h2⟩:=Ci ha.2 hb.2 h.2;exact⟨by rw[h.1,h1],h2⟩
theorem qD{t:T}(h:iE t=0):(t.kind=1\/t.kind=2\/t.kind=3)/\0<=t.sort/\t.sort<=5/\jt t.name=true/\t.kids.length<=8:=by
 have d:=vq h;unfold iE at h;split at h
 ·cases h
 rename_i c;split at h
 ·cases h
 rename_i e;simp only[tU,bZ,aq,decide_eq_true_eq,not_or,not_and,Decidable.not_not]at c;refine⟨?_,o_,o_,by simpa using e,d⟩;by_cases a:t.kind=1
 ·exact .inl a
 by_cases b:t.kind=2
 ·exact .inr (.inl b)
 exact .inr (.inr (c.1.1.1.1 ⟨a,b⟩))
theorem ofNat_inj{a b:Nat}(ha:a<=200) (hb:b<=200) (h:UInt8.ofNat a=UInt8.ofNat b):a=b:=by have:=congrArg UInt8.toNat h;simp[UInt8.toNat_ofNat']at this;omega
theorem yS:∀ {l m:Lq}{r q:List UInt8},l.length=m.length->(∀t∈l,∀(t':T) (r q:List UInt8),dG t'=0->jL t++r=jL t'++q->t=t'/\r=q)->(∀t∈m,dG t=0)->dM l++r=dM m++q->l=m/\r=q
 |[],[],r,q,_,_,_,h=>by simpa[dM]using h
 |[],_::_,_,_,hl,_,_,_=>by simp at hl
 |_::_,[],_,_,hl,_,_,_=>by simp at hl
 |t::l,t'::m,r,q,hl,ih,hm,h=>by rw[dM,dM,dD,dD]at h;have⟨h1,h2⟩:=ih t s_ t' _ _ (hm t' s_) h;simp only[cP,cH,true_and]at h2;have⟨b,c⟩:=yS (by simpa using hl) (λx a=>ih x (by simp[a])) (λx a=>hm x (by simp[a])) h2;exact⟨by rw[h1,b],c⟩
theorem IG(hnm:∀n:ByteArray,jt n=true->(40:UInt8)∉n.data.toList):∀t:T,dG t=0->∀(t':T) (r q:List UInt8),dG t'=0->jL t++r=jL t'++q->t=t'/\r=q:=by
 refine T.ind λt e c t' r q a h=>?_
 have f:=qD (ee c);have g:=qD (ee a);rw[sq,sq t']at h;simp only[cP,bz,dD,cH]at h;have⟨i,j,l,m⟩:=h;have o:t.kind=t'.kind:=by have:=ofNat_inj o_ o_ i;omega
 have p:t.sort=t'.sort:=by have:=ofNat_inj o_ o_ j;omega
 have y:=ofNat_inj o_ o_ l;have⟨s,u⟩:=Ci (hnm _ f.2.2.2.1) (hnm _ g.2.2.2.1) m;have⟨v,d⟩:=yS o_ (λk b t' r q w x=>e k b (kE t c k (mem_walk.2 (.inr ⟨k,b,eU k⟩))) t' r q w x) (λk b=>kE t' a k (mem_walk.2 (.inr ⟨k,b,eU k⟩))) u;simp only[cH,true_and]at d;refine⟨?_,d⟩;rw[<-pg t,<-pg t',o,p,v,name_inj.1 s]
def ixU(u:Lq) (t:T):Nat:=u.findIdx λx=>decide (x.cmp t=0)
theorem Bs{u:Lq}{t:T}(h:t∈u):u[ixU u t]?=some t:=by
 have a:ixU u t<u.length:=ll ⟨t,h,by simp[cmp_zero]⟩;have:=List.findIdx_getElem (w:=a);rw[aC a];have e:(u[ixU u t]).cmp t=0:=by simp only[decide_eq_true_eq]at this;exact this
 rw[cmp_zero.1 e]
theorem sF{u:Lq}{t:T}(h:t∈u):ixU u t<u.length:=ll ⟨t,h,by simp[cmp_zero]⟩
theorem K7{u:Lq}(hn:u.Nodup){i:Nat}{t:T}(h:u[i]?=some t):ixU u t=i:=by have a:=Bs (aW h);have b:=(aB.1 h).1;exact((List.getElem?_inj b hn).1 (h.trans a.symm)).symm
def knT(u:Lq) (kn:List Bool) (t:T):Bool:=kn.getD (ixU u t) false
theorem su{u:Lq}{kn:List Bool}(hn:u.Nodup) (_hl:kn.length=u.length){t:T}(ht:t∈u):knT u kn t=true↔yi u kn t:=by
 unfold knT yi;rw[bK];constructor
 ·intro h;refine⟨ixU u t,Bs ht,?_⟩;cases e:kn[ixU u t]? with
  |none=>rw[e]at h;simp at h
  |some b=>rw[e]at h;simp at h;rw[h]
 rintro⟨j,a,c⟩;rw[K7 hn a,c];rfl
def oZ(u:Lq) (kn:List Bool) (t:T):Bool:=bld t&&t.kids.all (knT u kn)
def iS(u:Lq) (kn:List Bool) (t:T):Lq:=
 if iH t qF=true then t.kids
 else if iH t oR=true\/((qp t).map (knT u kn)).getD false=true then t.kids.take 1 else []
theorem Ai{u:Lq}{kn:List Bool}{t v:T}(h:v∈iS u kn t):v∈t.kids:=by
 unfold iS at h;split at h
 ·exact h
 split at h
 ·exact bX h
 simp at h
theorem Kp:qF≠oR/\uA≠qF/\oS≠qF/\uA≠oR/\oS≠oR:=by refine⟨?_,?_,?_,?_,?_⟩<;>simp[qF,oR,uA,oS]
theorem IJ{u:Lq}{kn:List Bool}{t v:T}{ks:Lq}(h:Prt t v ks) (hk:∀k∈ks,knT u kn k=true):v∈iS u kn t:=by
 have⟨d,f,g,j,n⟩:=Kp;have b:∀ {v:T},t.kids[0]?=some v->v∈t.kids.take 1:=fun {v} h=>by
  cases c:t.kids with
  |nil=>rw[c]at h;simp at h
  |cons a l=>rw[c]at h;simp at h;simp[h]
 unfold iS;cases h with
 |pair a m=>rw[if_pos a];exact m
 |sign a m=>rw[if_neg (λe=>d ((eE e).2.symm.trans (eE a).2)),if_pos (.inl a)];exact b m
 |key a m=>
  have i:iH t qF≠true:=λe=>by
   have:=(eE e).2;rcases(qI a).2 with q|q
   ·exact f (q.symm.trans this)
   exact g (q.symm.trans this)
  rw[if_neg i,if_pos (.inr (by rw[a];exact hk _ s_))];exact b m
theorem Ke{P K:T->Prop}{u:Lq}{kn:List Bool}{t v:T}(h:v∈iS u kn t) (ht:Dr P K t) (hk:∀k,knT u kn k=true->Dr P K k):Dr P K v:=by
 unfold iS at h;split at h
 ·rename_i a;exact .opn ht (.pair a h) s_
 split at h
 ·rename_i a;have c:t.kids[0]?=some v:=by
   cases d:t.kids with
   |nil=>rw[d]at h;simp at h
   |cons b l=>rw[d]at h;simp at h;simp[h]
  rcases a with a|a
  ·exact .opn ht (.sign a c) s_
  cases e:qp t with
  |none=>rw[e]at a;simp at a
  |some k=>rw[e]at a;exact .opn ht (.key e c) (by simpa using hk k (by simpa using a))
 simp at h
theorem Fs{u:Lq}{kn:List Bool}(hn:u.Nodup) (hl:kn.length=u.length) (hu:∀t∈u,∀k∈t.kids,k∈u){t:T}(ht:t∈u)
  (h1:knT u kn t=false->pf t=false/\oZ u kn t=false) (h2:knT u kn t=true->∀v∈iS u kn t,knT u kn v=true):Do u kn t:=by
 have c:=su (kn:=kn) hn hl ht;refine⟨λa=>?_,λi l=>?_,λd v n a f=>?_⟩
 ·cases e:knT u kn t with
  |true=>exact c.1 e
  |false=>rw[(h1 e).1]at a;cases a
 ·cases e:knT u kn t with
  |true=>exact c.1 e
  |false=>have:=(h1 e).2;rw[oZ,i,jc,iM]at this;exact absurd (bM.2 λk b=>(su hn hl (hu t ht k b)).2 (l k b)) this
 have m:v∈u:=hu t ht v (Gb a);refine(su hn hl m).1 (h2 (c.2 d) v (IJ a λk b=>?_));have⟨j,h,g⟩:=f k b;exact(su hn hl (aW h)).2 ⟨j,h,g⟩
def lS(d:Dm):Prop:=(∀t∈d.knows,t.size<4000000)/\d.term.size<4000000/\d.knows.length<4000000
def Vp(d:Dm) (m:Nat) (st:PT) (h:H):Prop:=∃k:Nat,m=d.knows.length-k/\k<=d.knows.length/\h=[.cells (dc d) .live]/\st.get 1=.ptr 0 0/\st.get 3=.int .i64 k/\oP (d.knows.drop k)=oP d.knows
theorem UC(d:Dm) (hs:lS d):ay C 65 [cz d]=some (.int .i64 (kz d)):=by
 have⟨w,x,D⟩:=hs;refine bD func65 rfl λR n=>?_
 have b:=fK d.knows;obtain⟨s,a⟩:∃g:H,g=[.cells (dc d) .live]:=⟨_,rfl⟩
 have j:aX C.P s 37 (.ptr 0 0)=some (aQ d.knows):=Xa (by rw[a];rfl);have y:aX C.P s 39 (.ptr 0 1)=some (enc d.term):=XZ (by rw[a];rfl);by_cases q:40<d.knows.length
 ·have o:(40:Int)<d.knows.length:=o_;simp[go_sem,D3];rw[<-a];simp[go_sem,j,b,o];refine n ⟨_,rfl,?_⟩;have e:kz d=3:=by rw[kz,if_pos q]
  rw[e];simp[go_sem];exact aL rfl rfl
 have o:¬(40:Int)<d.knows.length:=o_;have t:kz d=if oP d.knows≠0 then oP d.knows else eM d.term:=by rw[kz,if_neg q]
 simp[go_sem,D3];rw[<-a];simp[go_sem,j,b,o];refine bR (Vp d) d.knows.length ⟨0,rfl,aO _,a,g_,g_,rfl⟩ ?_;rintro m E h ⟨k,rfl,F,u,p,r,i⟩;rw[<-a]at u;subst u;by_cases c:k<d.knows.length
 ·have f:(k:Int)<d.knows.length:=o_;have l:=fL d.knows k c;have A:=wS k o_;have v:=HJ d.knows[k] (w _ (aG c));rw[aH c,oP]at i;by_cases z:eM d.knows[k]=0
  ·rw[if_neg (by simp[z])]at i;simp[go_sem,p,r,j,b,f,l,iT,v,z,-Int.natCast_add,A];exact⟨d.knows.length-(k+1),o_,k+1,rfl,c,a,g_,g_,i⟩
  rw[if_pos z]at i;simp[go_sem,p,r,j,b,f,l,iT,v,z];refine n ⟨_,rfl,?_⟩;have e:kz d=eM d.knows[k]:=by rw[t,<-i,if_pos z]
  rw[e];simp[go_sem];exact aL rfl rfl
 have:k=d.knows.length:=o_;subst this;rw[aj,oP]at i;have B:=HJ d.term x;simp[go_sem,p,r,j,y,b,B];refine n ⟨_,rfl,?_⟩;have e:kz d=eM d.term:=by rw[t,<-i];rfl
 rw[e];simp[go_sem];exact aL rfl rfl
theorem SR(d:Dm) (hs:lS d) (h:H):az C h (.func 65 []) (some [cz d])=some (.int .i64 (kz d),h):=ah (U3 d) (by simp[NT]) s_ (UC d hs)
theorem CM(l:Lq) (x:Ext) (t:T) (hl:∀y∈l,y.size<4000000) (hn:l.length<4000000) (ht:t.size<4000000) (h:H):az C h (.func 66 []) (some [.isl (l.map enc) x,enc t])=some (.bool (oi l t),h):=by
 have e:oi l t=decide (t∈l):=by rw[eZ,yc];simp
 rw[e];exact ah (args':=[aQ l,enc t]) (by rw[bJ t];rfl) (by simp[aw];rfl) s_ (LO l t hl ht hn)
def fN(l:List Dm) (k:Nat):Lq:=(l.take k).flatMap λd=>fI d.term
def iY(l:List Dm) (k:Nat):Lq:=if k=0 then []else((l[k-1]?).map Dm.knows).getD []
theorem yQ{l:List Dm}{k:Nat}(hk:k<l.length):iY l (k+1)=l[k].knows:=by simp[iY,hk]
theorem nB{l:List Dm}{k:Nat}(hk:k<l.length):fN l (k+1)=fN l k++fI l[k].term:=by rw[fN,aI hk,ig];simp[fN]
def X9(l:List Dm) (m:Nat) (st:PT) (h:H):Prop:=∃k:Nat,m=l.length-k/\k<=l.length/\st.get 0=bF l/\st.get 4=.int .i64 k/\OwnR 39 h (st.get 3) ((fN l k).map enc)/\(fN l k).length<=60*k/\(∀y∈fN l k,y.size<4000000)/\lL (iY l k) (fN l k) (l.drop k)=lL [] [] l
def X7(l:List Dm) (k:Nat) (v3:AV) (h0:H) (m:Nat) (st:PT) (h:H):Prop:=∃j:Nat,m=(iY l k).length-j/\j<=(iY l k).length/\h=h0/\st.get 0=bF l/\st.get 3=v3/\st.get 4=.int .i64 k/\st.get 6=.int .i64 j/\∀d,l[k]?=some d->((iY l k).drop j).all (oi d.knows)=(iY l k).all (oi d.knows)
def Vc(l:List Dm) (k:Nat) (v3:AV) (b vs:Lq) (h0:H) (m:Nat) (st:PT) (h:H):Prop:=∃j:Nat,m=vs.length-j/\j<=vs.length/\h=h0/\st.get 0=bF l/\st.get 3=v3/\st.get 4=.int .i64 k/\st.get 7=aQ vs/\st.get 8=.int .i64 j/\(vs.drop j).all (oi b)=vs.all (oi b)
theorem wn{l:Lq}(h:∀t∈l,eM t=0):sizes l<=60*l.length:=by
 induction l with
 |nil=>simp[sizes]
 |cons a l b=>
  have d:=(jJ (h a s_)).2.2.2;have e:=b λt c=>h t (by simp[c])
  rw[sizes,aF];omega
theorem M7(l:List Dm) (hs:∀d∈l,lS d) (hl:l.length<4000000):ay C 34 [bF l]=some (.int .i64 (bp l)):=by
 refine bD func34 rfl λR hR=>?_
 have fin:∀(st:PT) (h:H) (e:Int),st.get 2=.int .i64 e->bp l=e->R .ret st h:=λst h e h2 he=>hR ⟨.int .i64 e,by simp[ag,cG,f34,h2],by rw[he];exact aL rfl rfl⟩
 have B:=qo l;by_cases q:40<l.length
 ·have q':(40:Int)<l.length:=o_;simp[go_sem,B,q'];exact fin _ _ 3 g_ (by rw[bp,if_pos q])
 have q':¬(40:Int)<l.length:=o_;have hv:bp l=lL [] [] l:=by rw[bp,if_neg q]
 simp[go_sem,B,q'];refine bR (X9 l) l.length ⟨0,rfl,aO _,g_,g_,.inr ⟨0,by simp[go_sem,fN]⟩,by simp[fN],by simp[fN],by simp[iY,fN]⟩ ?_;rintro m st h ⟨k,rfl,hk,g0,g4,go,z7,q2,c⟩;obtain⟨v3,e3⟩:∃v,v=st.get 3:=⟨_,rfl⟩
 rw[<-e3]at go;by_cases b:k<l.length
 ·have s:(k:Int)<l.length:=o_;have g:=sH l k b;have p:=hs _ (aG b);have c1:=SR l[k] p;rw[aH b,lL]at c;by_cases z:kz l[k]=0
  ·have⟨z8,q3,z0⟩:=oQ z;have z9:=(jJ z0).2.2.2;have q4:(iY l k).length<=4000000/\∀y∈iY l k,y.size<4000000:=by
    unfold iY;split
    ·simp
    cases e:l[k-1]? with
    |none=>simp
    |some d=>have:=hs d (aW e);exact⟨by simpa using kI this.2.2,by simpa using this.1⟩
   have w1:0<k->IntKind.i64.wrap ((k:Int)-1)=((k-1:Nat):Int):=λh0=>by rw[av o_];omega
   have w2:=wS k o_;simp[go_sem,g0,g4,B,s,g,Rn,c1,z];refine bR (X7 l k v3 h) (iY l k).length ⟨0,rfl,aO _,rfl,g_,by simp[go_sem,<-e3],g_,g_,λd c=>rfl⟩ ?_;rintro m2 y0 h2 ⟨j,rfl,hj,rfl,Y,p3,Z,p6,pd⟩;have D:=pd l[k] (aC b);have q5:=λy (J:y.size<4000000)=>CM l[k].knows .unk y p.1 p.2.2 J
   by_cases z1:0<k/\j<(iY l k).length
   ·have⟨q0,E⟩:=z1;have O:(0:Int)<k:=o_;have r:iY l k=l[k-1].knows:=by unfold iY;rw[if_neg o_,aC o_];rfl
    have t:=sH l (k-1) o_;have ww:=w1 q0;rw[r]at E hj D q4;have Q:(j:Int)<l[k-1].knows.length:=o_;have u:=fK l[k-1].knows;have S:=fL l[k-1].knows j E;have U:=q5 _ (q4.2 _ (aG E));have w3:=wS j o_;rw[aH E,dp]at D;have F:aQ l[k].knows=.isl (l[k].knows.map enc) .unk:=rfl;by_cases y:oi l[k].knows l[k-1].knows[j]=true
    ·simp[go_sem,Y,Z,p6,q0,ww,t,uw,u,Q,g,S,iT,F,U,y,-Int.natCast_add,w3];refine⟨(iY l k).length-(j+1),by rw[r];omega,j+1,rfl,by rw[r];exact E,rfl,by simp[go_sem,Y],by simp[go_sem,p3],by simp[go_sem,Z],g_,λd c=>?_⟩;rw[aC b,aA]at c;subst c;rw[r,<-D,y];simp
    simp[go_sem,Y,Z,p6,q0,ww,t,uw,u,Q,g,S,iT,F,U,y];have y':oi l[k].knows l[k-1].knows[j]=false:=by simpa using y
    have e:lR (iY l k) (fN l k) l[k]=9:=by rw[lR,if_neg (by simp[z]),if_pos (by rw[r,<-D,y'];rfl)]
    rw[e,if_pos d_]at c;exact fin _ _ 9 g_ (by rw[hv,<-c])
   have q6:(iY l k).all (oi l[k].knows)=true:=by
    by_cases k0:k=0
    ·simp[iY,k0]
    have:j=(iY l k).length:=o_;rw[<-D,this,aj];rfl
   have q7:=zS l[k].knows .unk p.1 (by have:=wn q3;omega);have y1:=lJ l[k].knows;have z5:=mq (l[k].knows.flatMap fI);have y2:=wn q3;have q8:∀y∈cR l[k].knows,y.size<4000000:=λy J=>by have⟨a,ha,J⟩:=bh.1 (mem_setS.1 J);exact ol (p.1 a ha) y J
   have y3:(cR l[k].knows).length<=2400:=by unfold cR;omega
   have⟨x3,w⟩:=go.isl;have q9:=λy (J:y.size<4000000)=>CM (fN l k) x3 y q2 o_ J
   have z':=xk l[k].term p.2.1;have F:aQ l[k].knows=.isl (l[k].knows.map enc) .unk:=rfl;have y4:=vZ l[k].term;have⟨v',h',ha,ho,_,_⟩:=dz (ys:=fI l[k].term) (x:=.unk) go o_;rw[<-nB b]at ho;change cL C.P false h2 37 v3 (aQ (fI l[k].term))=some (v',h')at ha;have K:lR (iY l k) (fN l k) l[k]=if((cR l[k].knows).all (oi (fN l k)))=false then 13 else 0:=by rw[lR,if_neg (by simp[z]),if_neg (by simp[q6])]
   have V:(fN l (k+1)).length<=60*(k+1):=by rw[nB b,aK];omega
   have X:∀y∈fN l (k+1),y.size<4000000:=λy J=>by rw[nB b,aZ]at J;exact J.elim (q2 y) (ol p.2.1 y)
   generalize z6:cR l[k].knows=vs at *;have A:=fK vs;by_cases k0:0<k
   ·have z2:(0:Int)<k:=o_;have r:iY l k=l[k-1].knows:=by unfold iY;rw[if_neg o_,aC o_];rfl
    have t:=sH l (k-1) o_;have ww:=w1 k0;have z3:¬(j:Int)<l[k-1].knows.length:=by rw[<-r];omega
    have u:=fK l[k-1].knows;simp[go_sem,Y,Z,p6,k0,ww,t,uw,u,z3,g,F,q7];refine bR (Vc l k v3 (fN l k) vs h2) vs.length ⟨0,rfl,aO _,rfl,by simp[go_sem,Y],by simp[go_sem,p3],by simp[go_sem,Z],g_,g_,rfl⟩ ?_;rintro m3 z4 h3 ⟨i,rfl,hi,rfl,G,L,M,N,r8,I⟩;by_cases f:i<vs.length
    ·have n:(i:Int)<vs.length:=o_;have o:=fL vs i f;have U:=q9 _ (q8 _ (aG f));have w3:=wS i o_;rw[aH f,dp]at I;by_cases y:oi (fN l k) vs[i]=true
     ·simp[go_sem,L,N,r8,A,n,o,iT,w,U,y,-Int.natCast_add,w3];exact⟨vs.length-(i+1),o_,i+1,rfl,f,rfl,by simp[go_sem,G],by simp[go_sem,L,w],by simp[go_sem,M],by simp[go_sem,N],g_,by rw[<-I,y];simp⟩
     simp[go_sem,L,N,r8,A,n,o,iT,w,U,y];have y':oi (fN l k) vs[i]=false:=by simpa using y
     have e:lR (iY l k) (fN l k) l[k]=13:=by rw[K,if_pos (by rw[<-I,y'];rfl)]
     rw[e,if_pos d_]at c;exact fin _ _ 13 g_ (by rw[hv,<-c])
    have q1:i=vs.length:=o_;subst q1;rw[aj]at I;have e:lR (iY l k) (fN l k) l[k]=0:=by rw[K,if_neg (by rw[<-I];simp)]
    rw[e,if_neg s_]at c;simp[go_sem,G,L,M,N,r8,A,g,Az,z',ha,-Int.natCast_add,w2];exact⟨l.length-(k+1),o_,k+1,rfl,b,by simp[go_sem,G],g_,by simpa[go_sem]using ho,V,X,by rw[yQ b,nB b];exact c⟩
   simp[go_sem,Y,Z,p6,k0,g,uw,F,q7];refine bR (Vc l k v3 (fN l k) vs h2) vs.length ⟨0,rfl,aO _,rfl,by simp[go_sem,Y],by simp[go_sem,p3],by simp[go_sem,Z],g_,g_,rfl⟩ ?_;rintro m3 z4 h3 ⟨i,rfl,hi,rfl,G,L,M,N,r8,I⟩;by_cases f:i<vs.length
   ·have n:(i:Int)<vs.length:=o_;have o:=fL vs i f;have U:=q9 _ (q8 _ (aG f));have w3:=wS i o_;rw[aH f,dp]at I;by_cases y:oi (fN l k) vs[i]=true
    ·simp[go_sem,L,N,r8,A,n,o,iT,w,U,y,-Int.natCast_add,w3];exact⟨vs.length-(i+1),o_,i+1,rfl,f,rfl,by simp[go_sem,G],by simp[go_sem,L,w],by simp[go_sem,M],by simp[go_sem,N],g_,by rw[<-I,y];simp⟩
    simp[go_sem,L,N,r8,A,n,o,iT,w,U,y];have y':oi (fN l k) vs[i]=false:=by simpa using y
    have e:lR (iY l k) (fN l k) l[k]=13:=by rw[K,if_pos (by rw[<-I,y'];rfl)]
    rw[e,if_pos d_]at c;exact fin _ _ 13 g_ (by rw[hv,<-c])
   have q1:i=vs.length:=o_;subst q1;rw[aj]at I;have e:lR (iY l k) (fN l k) l[k]=0:=by rw[K,if_neg (by rw[<-I];simp)]
   rw[e,if_neg s_]at c;simp[go_sem,G,L,M,N,r8,A,g,Az,z',ha,-Int.natCast_add,w2];exact⟨l.length-(k+1),o_,k+1,rfl,b,by simp[go_sem,G],g_,by simpa[go_sem]using ho,V,X,by rw[yQ b,nB b];exact c⟩
  have e:lR (iY l k) (fN l k) l[k]=kz l[k]:=by rw[lR,if_pos z]
  rw[e,if_pos z]at c;simp[go_sem,g0,g4,B,s,g,Rn,c1,z];exact fin _ _ (kz l[k]) g_ (by rw[hv,<-c])
 have:k=l.length:=o_;subst this;rw[aj,lL]at c;simp[go_sem,g0,g4,B];exact fin _ _ 0 g_ (by rw[hv,<-c])
theorem sR(l:List Dm) (x:Ext) (hs:∀d∈l,lS d) (hl:l.length<4000000) (h:H):az C h (.func 34 []) (some [.isl (l.map cz) x])=some (.int .i64 (bp l),h):=ah (args':=[bF l]) rfl rfl s_ (M7 l hs hl)
def kM(k:Nat):List Dm->Int
 |[]=>-1
 |d::l=>if d.term.kind≠1 then k else kM (k+1) l
def dv(l:List Dm):Int:=kM 0 l
theorem yp:∀ {l:List Dm}{k:Nat},kM k l<0->kM k l = -1/\∀d∈l,d.term.kind=1
 |[],k,_=>⟨rfl,s_⟩
 |d::l,k,h=>by
  rw[kM]at h ⊢;by_cases e:d.term.kind=1
  ·rw[if_neg (by simp[e])]at h ⊢;have⟨h1,h2⟩:=yp h;exact⟨h1,λx a=>by rcases ak.1 a with rfl|a;exact e;exact h2 x a⟩
  rw[if_pos e]at h;omega
theorem uH:∀ {l:List Dm}{k:Nat},0<=kM k l->∃pre d post,l=pre++d::post/\kM k l=((k+pre.length:Nat):Int)/\d.term.kind≠1/\∀e∈pre,e.term.kind=1
 |[],k,h=>by rw[kM]at h;omega
 |d::l,k,h=>by
  rw[kM]at h ⊢;by_cases e:d.term.kind=1
  ·rw[if_neg (by simp[e])]at h ⊢;have⟨pre,x,post,h1,h2,h3,h4⟩:=uH h;refine⟨d::pre,x,post,by rw[h1];rfl,by rw[h2,aF];omega,h3,λy a=>?_⟩;rcases ak.1 a with rfl|a
   ·exact e
   exact h4 y a
  rw[if_pos e];exact⟨[],d,l,rfl,s_,e,s_⟩
def P1(l:List Dm) (m:Nat) (st:PT) (_h:H):Prop:=∃k:Nat,m=l.length-k/\k<=l.length/\st.get 0=bF l/\st.get 3=.int .i64 k/\kM k (l.drop k)=dv l
theorem BA(e:AV):bH C.P 39 (.iptr e 1) 0=some (.iptr e 1):=k_
theorem Ld(l:List Dm) (hl:l.length<4000000):ay C 131 [bF l]=some (.int .i64 (dv l)):=by
 refine bD func131 rfl λR hR=>?_
 have fin:∀(st:PT) (h:H) (e:Int),st.get 2=.int .i64 e->dv l=e->R .ret st h:=λst h e h2 he=>hR ⟨.int .i64 e,by simp[ag,cG,f131,h2],by rw[he];exact aL rfl rfl⟩
 have hln:=qo l;simp[go_sem];refine bR (P1 l) l.length ⟨0,rfl,aO _,g_,g_,rfl⟩ ?_;rintro m st h ⟨k,rfl,hk,g0,g3,hd⟩;by_cases hlt:k<l.length
 ·have hlt':(k:Int)<l.length:=o_;have hix:=sH l k hlt;have w2:=wS k o_;have e0:=Bp l[k];rw[aH hlt,kM]at hd;by_cases z:l[k].term.kind=1
  ·rw[if_neg (by simp[z])]at hd
   simp[go_sem,g0,g3,hln,hlt',hix,BA,e0,z,-Int.natCast_add,w2]
   exact⟨l.length-(k+1),by omega,k+1,rfl,hlt,by simp[go_sem,g0],by simp[go_sem],hd⟩
  rw[if_pos z]at hd;simp[go_sem,g0,g3,hln,hlt',hix,BA,e0,z];exact fin _ _ k g_ hd.symm
 have:k=l.length:=o_;subst this;rw[aj,kM]at hd;simp[go_sem,g0,g3,hln];exact fin _ _ (-1) g_ hd.symm
theorem HH(l:List Dm) (x:Ext) (hl:l.length<4000000) (h:H):az C h (.func 131 []) (some [.isl (l.map cz) x])=some (.int .i64 (dv l),h):=ah (args':=[bF l]) rfl rfl s_ (Ld l hl)
theorem KD(l:List Dm) (hl:l.length<4000000):ay C 88 [bF l]=some (.bool (decide (dv l<0))):=by
 refine bD func88 rfl λR a=>?_
 have b:∀h,az C h (.func 131 []) (some [bF l])=some (.int .i64 (dv l),h):=HH l .unk hl;simp[go_sem,b];refine a ⟨_,rfl,?_⟩;simp[go_sem];exact aL rfl rfl
theorem SQ(l:List Dm) (x:Ext) (hl:l.length<4000000) (h:H):az C h (.func 88 []) (some [.isl (l.map cz) x])=some (.bool (decide (dv l<0)),h):=ah (args':=[bF l]) rfl rfl s_ (KD l hl)
end Go.VZ
