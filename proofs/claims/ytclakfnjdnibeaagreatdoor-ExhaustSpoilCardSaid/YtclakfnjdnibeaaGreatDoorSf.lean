/- A part of the proof. -/
import Derived.Test.YtclakfnjdnibeaaGreatDoorSe
import Derived.MakeChecks
import Derived.OpenShut
set_option maxHeartbeats 16000000
set_option maxRecDepth 8000
namespace Go.VZ
open Go Go.V Go.Proofs Tryz TL
def JZ(h:H) (x:Ext):Prop:=∀t,x=.tok t->t<h.length
theorem HB{es:LA}{x:Ext}{n k:Nat}(hx:∀t,x=.tok t->t<n):(AV.isl es x).mv n k=.isl es x:=by
 cases x with
 |tok t=>have:=hx t rfl;simp[AV.mv];omega
 |full=>rfl
 |unk=>rfl
theorem Ii{e:TypeId}{h:H}{v:AV}{xs:LA}(o:OwnR e h v xs):∃x,v=.isl xs x/\JZ h x:=by
 rcases o with rfl|⟨id,rfl,b⟩
 ·exact⟨.full,rfl,λt a=>by cases a⟩
 exact⟨.tok id,rfl,λt a=>by cases a;exact(aB.1 b).1⟩
theorem Mk(p:T × T) (ps:Lb) (x:Ext):∃x',fP C.P 284 (.isl ((p::ps).map bS) x) (some (.int .i64 1)) none none=some (.isl (ps.map bS) x')/\(x'=.full\/x'=.unk):=by have a:=zi (p::ps);refine⟨if x=.full then .full else .unk,?_,by split<;>simp⟩;simp only[aS]at a;have b:(1:Int)<=(ps.length:Int)+1:=o_;have c:List.take ps.length (List.map bS ps)=List.map bS ps:=cq s_;simp[fP,Jm,Gh,mb,qy,a,b,c]
def Y3(a b:T) (i5 i6:Nat) (ps s:Lb) (x x':Ext) (m:Nat) (st:PT) (h:H):Prop:=∃(k:Nat) (v:AV),m=a.kids.length-k/\k<=a.kids.length/\h[i5]?=some (.cells (enc a).cells .live)/\h[i6]?=some (.cells (enc b).cells .live)/\st.get 0=.isl (ps.map bS) x/\st.get 4=.isl (s.map bS) x'/\st.get 5=.ptr i5 0/\st.get 6=.ptr i6 0/\st.get 7=v/\st.get 8=.int .i64 k /\
 OwnR 283 h v (((rB a b).take k).map bS)
def Yx(U:Lq) (K:Nat) (r:Lb) (e:Int) (m:Nat) (st:PT) (h:H):Prop:=∃(ps s:Lb) (x x':Ext),kB kI m ps s=some (r,e)/\InvU U K ps s/\st.get 0=.isl (ps.map bS) x/\st.get 4=.isl (s.map bS) x'/\JZ h x
theorem SC(x y:T) (ps s:Lb) (e1 e2:Ext) (hx:x.size<=400) (hy:y.size<=400) (hp:CC ps) (hs:CC s) (hpl:ps.length<4000000) (hsl:s.length<4000000) (h:H) :
  ak C h (.func 323 []) (some [enc x,enc y,.isl (ps.map bS) e1,.isl (s.map bS) e2])=some (.tuple [binds (qO x y ps),binds (kI (x,y) (mU x y s)),.bool (okU x y ps s)],h):=
 aX (args':=[enc x,enc y,binds ps,binds s]) (by rw[bE x,bE y];rfl) (by simp[aq];exact⟨rfl,rfl⟩) s_ (Sf x y ps s hx hy hp hs hpl hsl)
theorem InvU.le{U K ps s}(h:InvU U K ps s):CC ps/\CC s:=⟨λp a=>⟨(cz (h.valid p a).1).2.1,(cz (h.valid p a).2).2.1⟩,λb c=>⟨(cz (h.bval b c).1).2.1,(cz (h.bval b c).2).2.1⟩⟩
theorem Mf(U:Lq) (K:Nat) (hK:K<=3000000) (hU:U.length<=3000000) (n:Nat) (ps0 r:Lb) (e:Int) (hi0:InvU U K ps0 []) (hr0:kB kI n ps0 []=some (r,e)):az C 296 [binds ps0]=some (.tuple [binds r,.int .i64 e]):=by
 refine hJ rfl func296 rfl k_ (by simp[f296]) λR hR=>?_
 have fin:∀(st:PT) (h:H) (x:Ext) (l:Lb) (e':Int),st.get 2=.isl (l.map bS) x->st.get 3=.int .i64 e'->l=r->e'=e->∀w,(w=.normal\/w=.ret)->R w st h:=λst h x l e' h2 h3 hl he w hw=>by refine hR _ _ _ hw ⟨.tuple [.isl (l.map bS) x,.int .i64 e'],by simp[aY,dx,cC,f296,h2,h3],?_⟩;rw[hl,he];exact dF rfl rfl s_
 simp[go_sem];refine bL (Yx U K r e) n ⟨ps0,[],.unk,.tok 1,hr0,hi0,by simp[go_sem];rfl,g_,λt O=>by cases O⟩ ?_;clear hr0 hi0;rintro n st h ⟨o,s,x,x',c,d,F,g4,hx⟩;have f:=NW o x;match o,n,c,d,F,f with
 |[],n,c,d,F,f=>
  have hh:s=r/\(0:Int)=e:=by simpa[kB]using c
  simp only[bD,aQ]at F f;simp[go_sem,F,f];exact fin _ _ x' s 0 g_ g_ hh.1 hh.2 _ (.inr rfl)
 |(a,b)::o,0,c,_,_,_=>simp[kB]at c
 |(a,b)::o,n+1,c,d,F,f=>
  have⟨va,vb⟩:=d.valid _ cJ;have sa:=(cz va).2.1;have sb:=(cz vb).2.1;have z5:=d.plen;have x7:=d.slen;simp only[aG]at z5;have y:bH C.P 284 (.isl (((a,b)::o).map bS) x) (.int .i64 0)=some (.iptr (bS (a,b)) 0):=Ns ((a,b)::o) 0 s_ x;have⟨x1,Q,z6⟩:=Mk (a,b) o x;have q0:∀h:H,JZ h x1:=λh t O=>by rcases z6 with e|e<;>rw[e]at O<;>cases O
  obtain⟨N,hN⟩:∃N,N=((a,b)::o).length:=⟨_,rfl⟩
  have q4:0<N:=by rw[hN];simp
  rw[<-hN]at f;generalize hE:((a,b)::o).map bS=E at F f y Q;rw[kB]at c;simp[go_sem,F,f,q4];refine tu 3 _ (λz u=>z.get 0=.isl E x/\z.get 4=.isl (s.map bS) x'/\z.get 5=.ptr (h.length+8) 0/\z.get 6=.ptr (h.length+9) 0/\u[h.length+8]?=some (.cells (enc a).cells .live)/\u[h.length+9]?=some (.cells (enc b).cells .live)) (by rw[gM];decide) k_ ?_ ?_
  ·generalize q5:h++List.replicate _ VObj.void=H0;have A:Pl h H0 12:=q5▸Pl.mk' h 12;have x6:=A.len;clear q5;have mE:∀k,(AV.isl E x).mv H0.length k=.isl E x:=λk=>HB λt O=>by have:=hx t O;omega
   refine bc (.isl E x) rfl rfl (A.isV (i:=0) d_) (by simp[opN,go_sem,F]) (mE _) ?_;refine bc (.iptr (bS (a,b)) 0) rfl rfl (A.isV (i:=1) d_) (by simp[opN,go_sem,y]) rfl ?_;refine bc (.iptr (bS (a,b)) 0) rfl rfl (A.isV (i:=2) d_) (by simp[opN,go_sem]) rfl ?_;refine eF (.iptr (bS (a,b)) 0) (enc a) g_ (kH (a,b) H0) (by simp[nH]) (A.isV (i:=3) d_) (fR _ _ _) ?_;refine bc (.isl E x) rfl rfl (A.isV (i:=4) d_) (by simp[opN,go_sem,F]) (mE _) ?_;refine bc (.iptr (bS (a,b)) 0) rfl rfl (A.isV (i:=5) d_) (by simp[opN,go_sem,y]) rfl ?_;refine bc (.iptr (bS (a,b)) 4) rfl rfl (A.isV (i:=6) d_) (by simp[opN,go_sem]) rfl ?_;refine eF (.iptr (bS (a,b)) 4) (enc b) g_ (nI (a,b) H0) (by simp[nH]) (A.isV (i:=7) d_) (fR _ _ _) ?_;refine rA _ IN (A.isV (i:=8) d_) ?_;rw[show VObj.mv H0.length (h.length+8) (.cells (AV.agg zc).cells .live)=.cells zc .live from rfl];obtain⟨Z,B⟩:∃g,g=H0.set (h.length+8) (.cells zc .live):=⟨_,rfl⟩
   have z7:Z.length=H0.length:=by rw[B];simp
   have q8:Z[h.length+8]?=some (.cells zc .live):=by rw[B];exact aH o_
   have u9:dZ Z[h.length+9]?=true:=by rw[B];exact kw (A.isV (i:=9) d_) o_
   have z8:dZ Z[h.length+10]?=true:=by rw[B];exact kw (A.isV (i:=10) d_) o_
   have z9:dZ Z[h.length+11]?=true:=by rw[B];exact kw (A.isV (i:=11) d_) o_
   rw[<-B];refine rA _ IN u9 ?_;rw[show VObj.mv Z.length (h.length+9) (.cells (AV.agg zc).cells .live)=.cells zc .live from rfl];obtain⟨H2,D⟩:∃g,g=Z.set (h.length+9) (.cells zc .live):=⟨_,rfl⟩
   have y':H2.length=H0.length:=by rw[D];simp[z7]
   have r8:H2[h.length+8]?=some (.cells zc .live):=by rw[D,aE o_];exact q8
   have r9:H2[h.length+9]?=some (.cells zc .live):=by rw[D];exact aH o_
   have y0:dZ H2[h.length+10]?=true:=by rw[D];exact kw z8 o_
   have y1:dZ H2[h.length+11]?=true:=by rw[D];exact kw z9 o_
   rw[<-D];refine lR (h.length+8) 0 (enc a) _ g_ g_ (vI a r8) o_ y0 ?_;rw[uM];have t9:(H2.set (h.length+8) (.cells (enc a).cells .live))[h.length+9]?=some (.cells zc .live):=by rw[aE o_];exact r9
   refine lR (h.length+9) 0 (enc b) _ g_ g_ (vI b t9) o_ (kw y1 o_) ?_;rw[uM];refine⟨?_,?_⟩
   ·unfold ri;generalize hb:Region.before _=bb;have q6:(bb.getD 10 0).testBit 8=true:=by rw[<-hb];kernel_rfl
    have q7:(bb.getD 11 0).testBit 9=true:=by rw[<-hb];kernel_rfl
    clear hb;simp[nH,rW,List.range,List.range.loop];simp at q6 q7;exact⟨q6,q7⟩
   refine⟨g_,g_,g_,g_,?_,aH (by simp[y'];omega)⟩;rw[aE o_];exact aH o_
  rintro z u ⟨q9,J,G,I,S,L⟩;clear F g4 f q4 y;have x8:a.size<=400:=sa;have x9:b.size<=400:=sb;have w':a.kids.length<=8:=xP (gF (cz va).1);have w0:b.kids.length<=8:=xP (gF (cz vb).1);have y3:=(aB.1 L).1;clear hx;have cs:=lr a b o_ o_;have ca:=SE a b o_ o_;have la:=gi S;have lb:=gi L;simp[go_sem,q9,Q,G,I,la,lb,cs];by_cases q1:a.cmp b=0
  ·rw[if_pos q1]at c;simp[go_sem,q1];exact⟨n,o_,o,s,x1,x',c,d.skip,g_,by simp[go_sem,J],q0 _⟩
  rw[if_neg q1]at c;simp[go_sem,q1,G,I,la,lb,ca];cases q2:jY a b
  ·rw[q2,if_neg s_]at c;have cc:=SD a b o_ o_;have j:=FS a b;obtain⟨⟨X,Y,e1⟩,hX⟩:∃X,jr a b=X:=⟨_,rfl⟩
   rw[hX]at cc j;have s1:cL C.P (u++[.cells zc .live,.cells zc .live]) 39 (.ptr u.length 0) (enc X)=some (u++[.cells (enc X).cells .live,.cells zc .live]):=by rw[vI X s_];simp
   have s2:cL C.P (u++[.cells (enc X).cells .live,.cells zc .live]) 39 (.ptr (u.length+1) 0) (enc Y)=some (u++[.cells (enc X).cells .live,.cells (enc Y).cells .live]):=by rw[vI Y s_];simp
   have l1:aW C.P (u++[.cells (enc X).cells .live,.cells (enc Y).cells .live]) 39 (.ptr u.length 0)=some (enc X):=gi s_;have l2:aW C.P (u++[.cells (enc X).cells .live,.cells (enc Y).cells .live]) 39 (.ptr (u.length+1) 0)=some (enc Y):=gi s_;simp[go_sem,G,I,la,lb,cc,IN,s1,s2];generalize z':kz a b=cu at c j;cases cu with
   |bad e2=>obtain⟨rfl,y4⟩:=j;simp only[aA,aD]at c;simp[go_sem,y4];exact fin _ _ _ [] e1 (by simp[go_sem];rfl) g_ c.1 c.2 _ (.inr rfl)
   |ok x2 y2=>
    simp only[aD]at j;obtain⟨rfl,rfl,rfl⟩:=j;have z0:a≠b:=λq=>q1 (by rw[q];exact cmp_refl b)
    have z1:=(CT va vb z0 z').2.2;have y5:X.size<=400:=by rcases z1 with⟨p,_⟩|⟨p,_⟩<;>rw[p]<;>assumption
    have y6:Y.size<=400:=by rcases z1 with⟨_,p⟩|⟨_,p⟩<;>rw[p]<;>assumption
    have z2:=d.skip.le;have cb:=SC X Y o s x1 x' y5 y6 z2.1 z2.2 o_ o_;dsimp only at c;simp[go_sem,l1,l2,J,cb];cases q3:okU X Y o s
    ·rw[q3,if_neg s_]at c;simp only[aA,aD]at c;simp[go_sem];exact fin _ _ _ [] 3 (by simp[go_sem];rfl) g_ c.1 c.2 _ (.inr rfl)
    rw[q3,if_pos rfl]at c;simp[go_sem];exact⟨n,o_,qO X Y o,kI (X,Y) (mU X Y s),.unk,.unk,c,(d.bind z0 z' q3).1.perm (mH _ _).symm,by simp[go_sem];rfl,by simp[go_sem];rfl,λt O=>by cases O⟩
  rw[q2,if_pos rfl]at c;have y7:a.kids.length=b.kids.length:=by simp only[jY,am,decide_eq_true_eq]at q2;exact q2.2
  have w1:(rB a b).length=a.kids.length:=by simp[rB,y7]
  simp[go_sem];refine bL (Y3 a b (h.length+8) (h.length+9) o s x1 x') a.kids.length ⟨0,.isl [] (.tok u.length),rfl,aN _,ga S,ga L,g_,by simp[go_sem,J],by simp[go_sem,G],by simp[go_sem,I],g_,g_,.inr ⟨u.length,rfl,s_⟩⟩ ?_;generalize h.length+8=i5;generalize h.length+9=i6;clear I G J q9 la lb S L y3 z u;rintro m st h ⟨k,v,rfl,hk,S,L,F,g4,g5,g6,g7,g8,V⟩;have l5:=Iv S;have l6:=Iv L;by_cases z3:k<a.kids.length
  ·have z4:(k:Int)<a.kids.length:=o_;have y:=eJ a.kids k z3;have y8:=eJ b.kids k o_;have w2:=wS k o_;have⟨v',h2,M,ho,q',y9⟩:=xz (ys:=[(a.kids[k],b.kids[k])]) (x:=.full) V (by simp only[ag,aG,aQ];omega);have x0:(rB a b).take k++[(a.kids[k],b.kids[k])]=(rB a b).take (k+1):=by rw[<-dL (by omega:k<(rB a b).length)];simp[rB]
   rw[x0]at ho;simp only[aS,bD]at M;simp[go_sem,g5,g8,l5,z4,fI];refine gS 11 _ (by simp[gM]) rfl ?_;simp[go_sem,g5,g6,g7,g8,l5,l6,y,y8,gd,PI,pE,nP,M,-Int.natCast_add,w2];refine⟨?_,a.kids.length-(k+1),o_,k+1,v',rfl,z3,q'.get S (cM V S),q'.get L (cM V L),g_,g_,g_,g_,g_,g_,ho⟩;have x3:=cM V S;have x4:=cM V L;rcases V with rfl|⟨id,rfl,hd⟩
   ·simp[go_sem,ij,iK,iO,kW,fL,ce]
   simp only[bv,ne_eq,aA]at x3 x4;simp[go_sem,ij,iK,iO,kW,fL,ce]
   (try omega)
  have:k=a.kids.length:=o_;subst this;rw[cq o_]at V;have⟨v',h2,M,ho,q',y9⟩:=xz (ys:=o) (x:=x1) V o_;obtain⟨xx,rfl,x5⟩:=Ii ho;simp[go_sem,g5,g8,l5,fI,g7,F,M];exact⟨n,o_,rB a b++o,s,xx,x',c,d.kids,g_,g_,x5⟩
theorem SM(ps r:Lb) (e:Int) (x:Ext) (h:H) (hs:az C 296 [binds ps]=some (.tuple [binds r,.int .i64 e])):ak C h (.func 296 []) (some [.isl (ps.map bS) x])=some (.tuple [binds r,.int .i64 e],h):=
 aX (args':=[binds ps]) rfl (by simp[short]) s_ hs
theorem xR{u t:T}:∀ {l:Lq},t∈l->u∈cZ bY t->u∈gm bY l
 |[],h,_=>by simp at h
 |a::l,h,hu=>by
  rw[gm,ac];rcases ao.1 h with rfl|h
  ·exact .inl hu
  exact .inr (xR h hu)
def varsU(l:Lq):Lq:=(gm bY l).filter λt=>decide (t.kind=1)
theorem yC:∀ {l:Lq},(∀t∈l,bh t=0)->sizes l<=400*l.length
 |[],_=>by simp[sizes]
 |a::l,h=>by
  have h1:=(cz (h a cJ)).2.1;have c:=yC λt b=>h t (bZ _ b)
  rw[sizes,aG];omega
theorem Jh{l:Lq}(h:∀t∈l,bh t=0):(varsU l).length<=400*l.length:=by have a:(varsU l).length<=(gm bY l).length:=dA _ _;have b:=ow bY (λ_=>by simp[bY]) l;have c:=yC h;omega
theorem HE{l m:Lq}(hvl:∀t∈l,bh t=0) (hvm:∀t∈m,bh t=0):InvU (varsU (l++m)) (l.length+400*(varsU (l++m)).length) (l.zip m) []:=by
 have c:∀p∈l.zip m,p.1∈l/\p.2∈m:=λp a=>⟨(eK a).1,(eK a).2⟩
 have f:=Oa (varsU (l++m)) (l.zip m);refine⟨λp a=>⟨hvl _ (c p a).1,hvm _ (c p a).2⟩,λp a u d h=>?_,λu d=>?_,λb e=>by simp at e,λb e=>by simp at e,.nil,⟨[],l.zip m,rfl,s_,?_⟩,by simpa using f⟩
 ·refine cO.2 ⟨?_,by simpa using d⟩;rcases h with h|h
  ·exact xR (dN _ (c p a).1) h
  exact xR (de _ (c p a).2) h
 ·simpa using(cO.1 d).2
 have:=lG 400 f;rw[List.length_zip];omega
theorem Tp:C.P.underlying 178=some (.slice 181):=underlying178
theorem Mn:cr C.P 181=some 4:=k_
theorem Vr:fJ C.P 181=some true:=k_
attribute [go_sem] Tp Mn Vr
def iX(s:Sy):AV:=.agg [.str s.name,.int .i64 s.least,.int .i64 s.most,.int .i64 s.kind]
def EE:AV:=.isl (syms.map iX) .unk
theorem RX(e:AV):bF C.P 181 (.iptr e 0) 0=some (.iptr e 0):=k_
theorem RW(e:AV):bF C.P 181 (.iptr e 0) 1=some (.iptr e 1):=k_
theorem RV(e:AV):bF C.P 181 (.iptr e 0) 2=some (.iptr e 2):=k_
theorem RU(e:AV):bF C.P 181 (.iptr e 0) 3=some (.iptr e 3):=k_
attribute [go_sem] RX RW RV RU
theorem G4(l:List Sy) (x:Ext):fB C.P 178 (.isl (l.map iX) x)=some (.int .i64 l.length):=by simp[fB,Tp]
theorem HG(l:List Sy) (k:Nat) (hk:k<l.length) (x:Ext):bH C.P 178 (.isl (l.map iX) x) (.int .i64 k)=some (.iptr (iX l[k]) 0):=by simp[bH,Tp,Mn,hk,iX,aV]
theorem XW(s:Sy) (h:H):aW C.P h 9 (.iptr (iX s) 0)=some (.str s.name):=by simp[aW,aZ,a9,s9,iX,aV]
theorem aAn(s:Sy) (h:H):aW C.P h 3 (.iptr (iX s) 1)=some (.int .i64 s.least):=by simp[aW,aZ,a3,s3,iX,aV]
theorem aAm(s:Sy) (h:H):aW C.P h 3 (.iptr (iX s) 2)=some (.int .i64 s.most):=by simp[aW,aZ,a3,s3,iX,aV]
theorem aAl(s:Sy) (h:H):aW C.P h 3 (.iptr (iX s) 3)=some (.int .i64 s.kind):=by simp[aW,aZ,a3,s3,iX,aV]
noncomputable def XG(m:Nat) (f:FuncId) (args:LA) (v:AV):Bool:=match fA C m f args []with
 |some (r,h)=>match fc (bj h) dD r with
  |some u=>AV.same u v
  |none=>false
 |none=>false
theorem Mp{m:Nat}{f:FuncId}{args:LA}{v:AV}(h:XG m f args v=true):az C f args=some v:=by
 unfold XG at h;split at h<;>try(cases h;done)
 rename_i r c a;split at h<;>try(cases h;done)
 rename_i u b;unfold az;rw[Jc m a,<-AV.same_eq h];exact b
theorem GT:az C 166 []=some EE:=Mp (m:=100) k_
theorem JN(h:H):ak C h (.func 166 []) (some [])=some (EE,h):=aX rfl rfl s_ GT
def Ze(n:ByteArray) (l:List Sy) (m:Nat) (st:PT) (_h:H):Prop:=∃k:Nat,m=l.length-k/\k<=l.length/\st.get 0=.str n/\st.get 3=.isl (l.map iX) .unk/\st.get 4=.int .i64 k/\(l.drop k).find? (λs=>decide (s.name=n))=l.find? λs=>decide (s.name=n)
theorem Q1(n:ByteArray):az C 109 [.str n]=some (.int .i64 (oT n)):=by
 refine ay func109 rfl λR hR=>?_
 have c1:=JN;simp[go_sem,c1];have hsy:EE=.isl (syms.map iX) .unk:=rfl;rw[hsy];generalize hl:syms=l;have hlen:l.length=21:=by rw[<-hl];rfl
 refine bL (Ze n l) l.length ⟨0,rfl,aN _,g_,g_,g_,rfl⟩ ?_;rintro m st h ⟨k,rfl,hk,g0,g3,g4,hd⟩;have hln:=G4 l .unk;by_cases hlt:k<l.length
 ·have hlt':(k:Int)<l.length:=o_;have hix:=HG l k hlt .unk;have w2:=wS k o_;have e0:=XW l[k];have e3:=aAl l[k];rw[aI hlt,List.find?_cons]at hd;by_cases he:l[k].name=n
  ·simp only[he,decide_true]at hd;simp[go_sem,g0,g3,g4,hln,hlt',hix,e0,e3,eM,he];refine hR ⟨_,rfl,?_⟩;have:oT n=l[k].kind:=by rw[oT,sP,hl,<-hd];rfl
   rw[this];simp[go_sem];exact aK rfl rfl
  ·simp only[he,decide_false]at hd
   simp[go_sem,g0,g3,g4,hln,hlt',hix,e0,eM,he,-Int.natCast_add,w2]
   exact⟨l.length-(k+1),by omega,k+1,rfl,hlt,by simp[go_sem,g0],by simp[go_sem,g3],by simp[go_sem],hd⟩
 have:k=l.length:=o_;subst this;rw[ae,List.find?_nil]at hd;simp[go_sem,g3,g4,hln];refine hR ⟨_,rfl,?_⟩;have:oT n=0:=by rw[oT,sP,hl,<-hd];rfl
 rw[this];simp[go_sem];exact aK rfl rfl
theorem zV(n:ByteArray) (h:H):ak C h (.func 109 []) (some [.str n])=some (.int .i64 (oT n),h):=aX rfl rfl s_ (Q1 n)
theorem aA4(t:T) (n:ByteArray):az C 29 [enc t,.str n]=some (.bool (iu t n)):=by
 refine ay func29 rfl λR a=>?_
 by_cases h:t.kind=3
 ·simp +contextual [go_sem,yn,tO,eM,h];refine a ⟨_,rfl,?_⟩;simp[go_sem,iu,h];exact aK rfl rfl
 simp +contextual [go_sem,yn,tO,eM,h];refine a ⟨_,rfl,?_⟩;simp[go_sem,iu,h];exact aK rfl rfl
theorem xo(t:T) (n:ByteArray) (h:H):ak C h (.func 29 []) (some [enc t,.str n])=some (.bool (iu t n),h):=aX (args':=[enc t,.str n]) (by rw[bE t];rfl) (by simp[aq];rfl) s_ (aA4 t n)
theorem Vp(n:ByteArray):az C 225 [.str n]=some (.bool (D4 n)):=by
 refine ay func225 rfl λR a=>?_
 simp +contextual [go_sem,eM];refine a ⟨_,rfl,?_⟩;simp[go_sem,D4];exact aK rfl rfl
theorem SF(n:ByteArray) (h:H):ak C h (.func 225 []) (some [.str n])=some (.bool (D4 n),h):=aX rfl rfl s_ (Vp n)
def ZH(t:T) (l:List Sy) (m:Nat) (st:PT) (h:H):Prop:=∃k:Nat,m=l.length-k/\k<=l.length/\h=[.cells (tc t) .live]/\st.get 1=.ptr 0 0/\st.get 3=.isl (l.map iX) .unk/\st.get 4=.int .i64 k/\(l.drop k).find? (λs=>decide (s.name=t.name))=l.find? λs=>decide (s.name=t.name)
theorem RI(t:T) (_hs:t.size<4000000):az C 276 [enc t]=some (.bool (mJ t)):=by
 refine ay func276 rfl λR hR=>?_
 have c1:=JN;have hlen2:=len_sizes t.kids;have hsz:=size_kids t;simp[go_sem,c1];have hsy:EE=.isl (syms.map iX) .unk:=rfl;rw[hsy];generalize hl:syms=l;have hlen:l.length=21:=by rw[<-hl];rfl
 refine bL (ZH t l) l.length ⟨0,rfl,aN _,rfl,g_,g_,g_,rfl⟩ ?_;rintro m st h ⟨k,rfl,hk,rfl,g1,g3,g4,hd⟩;have hln:=G4 l .unk;have hfit:mJ t=match l.find? λs=>decide (s.name=t.name)with
  |some s=>decide (s.least<=(t.kids.length:Int))&&decide ((t.kids.length:Int)<=s.most)
  |none=>false:=by rw[mJ,sP,hl];cases l.find? λs=>decide (s.name=t.name)<;>rfl
 by_cases hlt:k<l.length
 ·have hlt':(k:Int)<l.length:=o_;have hix:=HG l k hlt .unk;have w2:=wS k o_;have e0:=XW l[k];have e1:=aAn l[k];have e2:=aAm l[k];rw[aI hlt,List.find?_cons]at hd;by_cases he:l[k].name=t.name
  ·simp only[he,decide_true]at hd;rw[<-hd]at hfit;dsimp only at hfit;by_cases h3:l[k].least<=(t.kids.length:Int)
   ·simp +contextual [go_sem,tc,g1,g3,g4,hln,hlt',hix,e0,e1,e2,eM,he,tO,jh,dX,h3];refine hR ⟨_,rfl,?_⟩;rw[hfit];simp[go_sem,h3];exact aK rfl rfl
   simp +contextual [go_sem,tc,g1,g3,g4,hln,hlt',hix,e0,e1,e2,eM,he,tO,jh,dX,h3];refine hR ⟨_,rfl,?_⟩;rw[hfit];simp[go_sem,h3];exact aK rfl rfl
  ·simp only[he,decide_false]at hd
   simp[go_sem,tc,g1,g3,g4,hln,hlt',hix,e0,eM,he,tO,-Int.natCast_add,w2]
   exact⟨l.length-(k+1),by omega,k+1,rfl,hlt,rfl,by simp[go_sem,g1],by simp[go_sem,g3],by simp[go_sem],hd⟩
 have:k=l.length:=o_;subst this;rw[ae,List.find?_nil]at hd;rw[<-hd]at hfit;simp[go_sem,g3,g4,hln];refine hR ⟨_,rfl,?_⟩;rw[hfit];simp[go_sem];exact aK rfl rfl
theorem R8(t:T) (hs:t.size<4000000) (h:H):ak C h (.func 276 []) (some [enc t])=some (.bool (mJ t),h):=aX (cg _) (by simp[aq]) s_ (RI t hs)
def ZG(t:T) (m:Nat) (st:PT) (h:H):Prop:=∃k:Nat,m=t.kids.length-k/\k<=t.kids.length/\h=[.cells (tc t) .live]/\st.get 1=.ptr 0 0/\st.get 3=.int .i64 k/\((t.kids.drop k).all λk=>decide (k.kind≠3)&&decide (k.sort=1))=t.kids.all λk=>decide (k.kind≠3)&&decide (k.sort=1)
theorem uW(e:AV):bF C.P 39 (.iptr e 0) 2=some (.iptr e 2):=k_
theorem TP(t:T) (h:H):aW C.P h 3 (.iptr (enc t) 2)=some (.int .i64 t.sort):=by simp[aW,aZ,a3,s3,au]
theorem L5(t:T) (hs:t.size<4000000) (hn:t.name=vP->t.kids≠[]):az C 277 [enc t]=some (.bool (lZ t)):=by
 refine ay func277 rfl λR hR=>?_
 have hlen2:=len_sizes t.kids;have hsz:=size_kids t;by_cases h1:t.name=vP
 ·have h0:0<t.kids.length:=oQ.2 (hn h1);have hix:=kM t.kids 0 h0 .unk;simp only[Int.natCast_zero]at hix;have e0:=CF t.kids[0];have h1':t.name=⟨#[110,101,119]⟩:=h1;simp[go_sem,aM,tO,jh,eM,h1',hix,nZ,e0];refine hR ⟨_,rfl,?_⟩;simp[go_sem,lZ,h1,aC h0];exact aK rfl rfl
 have h1':¬t.name=⟨#[110,101,119]⟩:=h1;simp[go_sem,aM,tO,eM,h1'];refine bL (ZG t) t.kids.length ⟨0,rfl,aN _,rfl,g_,g_,rfl⟩ ?_;rintro m st h ⟨k,rfl,hk,rfl,g1,g3,hd⟩;have hag:lZ t=t.kids.all λk=>decide (k.kind≠3)&&decide (k.sort=1):=by rw[lZ,if_neg h1]
 by_cases hlt:k<t.kids.length
 ·have hlt':(k:Int)<t.kids.length:=o_;have hix:=kM t.kids k hlt .unk;have w2:=wS k o_;have e0:=CF t.kids[k];have e2:=TP t.kids[k];rw[aI hlt,dt]at hd;by_cases k3:t.kids[k].kind=3
  ·simp +contextual [go_sem,tc,g1,g3,hlt',jh,dX,hix,nZ,uW,e0,e2,k3];refine hR ⟨_,rfl,?_⟩;rw[hag,<-hd];simp[go_sem,k3];exact aK rfl rfl
  by_cases k1:t.kids[k].sort=1
  ·simp +contextual [go_sem,tc,g1,g3,hlt',jh,dX,hix,nZ,uW,e0,e2,k3,k1,-Int.natCast_add,w2]
   refine⟨t.kids.length-(k+1),by omega,k+1,rfl,hlt,rfl,by simp[go_sem,g1],by simp[go_sem],?_⟩
   rw[<-hd];simp[k3,k1]
  simp +contextual [go_sem,tc,g1,g3,hlt',jh,dX,hix,nZ,uW,e0,e2,k3,k1];refine hR ⟨_,rfl,?_⟩;rw[hag,<-hd];simp[go_sem,k3,k1];exact aK rfl rfl
 have:k=t.kids.length:=o_;subst this;simp[go_sem,tc,g1,g3,jh,dX];refine hR ⟨_,rfl,?_⟩;rw[hag,<-hd,ae];simp[go_sem];exact aK rfl rfl
theorem R7(t:T) (hs:t.size<4000000) (hn:t.name=vP->t.kids≠[]) (h:H):ak C h (.func 277 []) (some [enc t])=some (.bool (lZ t),h):=aX (cg _) (by simp[aq]) s_ (L5 t hs hn)
theorem NI{t:T}(h:mJ t=true) (hn:t.name=vP):t.kids≠[]:=by
 have e:sP vP=some ⟨vP,1,8,2⟩:=by rfl
 rw[mJ,hn,e]at h;simp only[am,decide_eq_true_eq]at h;intro a;rw[a]at h;simp at h
def Te(t:T) (n:Nat) (s:PT) (h:H):Prop:=∃k:Nat,n=t.kids.length-k/\k<=t.kids.length/\h=[.cells (tc t) .live]/\s.get 1=.ptr 0 0/\s.get 4=.int .i64 k/\jN (t.kids.drop k)=jN t.kids
theorem NE(t:T) (hs:t.size<4000000) (hc:∀k∈t.kids,az C 224 [enc k]=some (.int .i64 (gK k))):az C 224 [enc t]=some (.int .i64 (gK t)):=by
 refine ay func224 rfl λR l=>?_
 have u:=zV t.name;have x:=R8 t hs;have p:=uK t;have lt:=yO t;by_cases c:t.kind=3
 ·have f:=lt;rw[c]at f;by_cases i:oT t.name=0
  ·simp +contextual [go_sem,aM,yn,tO,u,c,i];refine l ⟨_,rfl,?_⟩;have e:gK t=10:=by rw[p];simp[c,i]
   rw[e];simp[go_sem];exact aK rfl rfl
  by_cases j:mJ t=true
  ·have c3:=R7 t hs (NI j);by_cases r:oT t.name=2
   ·by_cases y:lZ t=true
    ·have e:gK t=jN t.kids:=by rw[p];simp[c,j,r,y]
     simp +contextual [go_sem,aM,yn,tO,f,u,x,c3,c,j,r,y];refine bL (Te t) t.kids.length ⟨0,rfl,aN _,by simp[tc,c],g_,g_,rfl⟩ ?_
     skip
     rintro n s h ⟨k,rfl,B,rfl,m,o,d⟩;have v:=len_sizes t.kids;have z:=size_kids t;by_cases a:k<t.kids.length
     ·have b:(k:Int)<t.kids.length:=o_;have g:=kM t.kids k a .unk;have w:∀h,ak C h (.func 224 []) (some [enc t.kids[k]])=some (.int .i64 (gK t.kids[k]),h):=λh=>aX (cg _) (by simp[aq]) s_ (hc _ (aF a))
      have A:=wS k o_;rw[aI a,jN]at d;by_cases q:gK t.kids[k]=0
      ·rw[q]at d;simp[go_sem,tc,jh,dX,m,o,b,g,gd,w,q,-Int.natCast_add,A];exact⟨t.kids.length-(k+1),o_,k+1,rfl,a,rfl,g_,g_,by rw[<-d];rfl⟩
      simp[go_sem,tc,jh,dX,m,o,b,g,gd,w,q];refine l ⟨_,rfl,?_⟩;rw[e,<-d];simp[go_sem,thn,q];exact aK rfl rfl
     have:k=t.kids.length:=o_;subst this;simp[go_sem,tc,jh,dX,m,o];refine l ⟨_,rfl,?_⟩;rw[ae,jN]at d;rw[e,<-d];simp[go_sem];exact aK rfl rfl
    simp +contextual [go_sem,aM,yn,tO,f,u,x,c3,c,j,r,y];refine l ⟨_,rfl,?_⟩;have e:gK t=10:=by rw[p];simp[c,j,r,y]
    rw[e];simp[go_sem];exact aK rfl rfl
   have e:gK t=jN t.kids:=by rw[p];simp[c,i,j,r]
   simp +contextual [go_sem,aM,yn,tO,f,u,x,c3,c,i,j,r];refine bL (Te t) t.kids.length ⟨0,rfl,aN _,by simp[tc,c],g_,g_,rfl⟩ ?_
   skip
   rintro n s h ⟨k,rfl,B,rfl,m,o,d⟩;have v:=len_sizes t.kids;have z:=size_kids t;by_cases a:k<t.kids.length
   ·have b:(k:Int)<t.kids.length:=o_;have g:=kM t.kids k a .unk;have w:∀h,ak C h (.func 224 []) (some [enc t.kids[k]])=some (.int .i64 (gK t.kids[k]),h):=λh=>aX (cg _) (by simp[aq]) s_ (hc _ (aF a))
    have A:=wS k o_;rw[aI a,jN]at d;by_cases q:gK t.kids[k]=0
    ·rw[q]at d;simp[go_sem,tc,jh,dX,m,o,b,g,gd,w,q,-Int.natCast_add,A];exact⟨t.kids.length-(k+1),o_,k+1,rfl,a,rfl,g_,g_,by rw[<-d];rfl⟩
    simp[go_sem,tc,jh,dX,m,o,b,g,gd,w,q];refine l ⟨_,rfl,?_⟩;rw[e,<-d];simp[go_sem,thn,q];exact aK rfl rfl
   have:k=t.kids.length:=o_;subst this;simp[go_sem,tc,jh,dX,m,o];refine l ⟨_,rfl,?_⟩;rw[ae,jN]at d;rw[e,<-d];simp[go_sem];exact aK rfl rfl
  simp +contextual [go_sem,aM,yn,tO,f,u,x,c,i,j];refine l ⟨_,rfl,?_⟩;have e:gK t=6:=by rw[p];simp[c,i,j]
  rw[e];simp[go_sem];exact aK rfl rfl
 simp +contextual [go_sem,aM,yn,c];refine l ⟨_,rfl,?_⟩;have e:gK t=0:=by rw[p];simp[c]
 rw[e];simp[go_sem];exact aK rfl rfl
theorem C0(t:T):t.size<4000000->az C 224 [enc t]=some (.int .i64 (gK t)):=by
 induction t using T.ind with
 |_ t b=>exact λc=>NE t c (λk a=>b k a (by have:=kid_size a;omega))
theorem SG(t:T) (hs:t.size<4000000) (h:H):ak C h (.func 224 []) (some [enc t])=some (.int .i64 (gK t),h):=aX (cg _) (by simp[aq]) s_ (C0 t hs)
theorem MK(t:T) (hs:t.size<4000000):az C 162 [enc t]=some (.int .i64 (dy t)):=by
 refine ay func162 rfl λR b=>?_
 have c:=lq t hs;have d:=SG t hs;have lt:=yO t;by_cases a:bh t=0
 ·simp[go_sem,aM,lt,c,d,a];refine b ⟨_,rfl,?_⟩;simp[go_sem,dy,thn,a];exact aK rfl rfl
 simp[go_sem,aM,lt,c,a];refine b ⟨_,rfl,?_⟩;simp[go_sem,dy,thn,a];exact aK rfl rfl
theorem wn(t:T) (hs:t.size<4000000) (h:H):ak C h (.func 162 []) (some [enc t])=some (.int .i64 (dy t),h):=aX (cg _) (by simp[aq]) s_ (MK t hs)
def okY(y:T):Bool:=!(decide (y.kind=3)&&gZ y.name)
def ZW(l:Lq) (m:Nat) (st:PT) (_h:H):Prop:=∃k:Nat,m=l.length-k/\k<=l.length/\st.get 3=aM l/\st.get 4=.int .i64 k/\(l.drop k).all okY=l.all okY
theorem RE(t:T) (hs:t.size<4000000):az C 163 [enc t]=some (.bool (uw t)):=by
 refine hJ rfl func163 rfl k_ (by simp[f163]) λR i=>?_
 have v:=wn t hs;have x:=wl t hs;have c3:=SF;have o:=zV;have lt:=yO t;by_cases p:dy t=0
 ·have z:=kE bY jj t;have y:uw t=(cZ bY t).all okY:=by rw[uw,p];rfl
  simp[go_sem,aM,lt,v,x,p];rw[y]at i;generalize cZ bY t=l at *;have b:=fI l;refine bL (ZW l) l.length ⟨0,rfl,aN _,by simp[go_sem,aM],g_,rfl⟩ ?_;rintro m A h ⟨k,rfl,B,j,n,f⟩;by_cases c:k<l.length
  ·have a:(k:Int)<l.length:=o_;have d:=eJ l k c;have w:=wS k o_;have q:=CF l[k];have r:∀h,aW C.P h 9 (.iptr (enc l[k]) 1)=some (.str l[k].name):=λh=>by simp[aW,aZ,a9,s9,au]
   have s:bF C.P 39 (.iptr (enc l[k]) 0) 1=some (.iptr (enc l[k]) 1):=k_;rw[aI c,dt]at f;by_cases e:l[k].kind=3
   ·by_cases g:D4 l[k].name=true
    ·simp +contextual [go_sem,j,n,a,b,d,nZ,s,q,r,c3,o,e,g];refine i _ _ _ (.inr rfl) ⟨_,rfl,?_⟩;rw[<-f];simp[go_sem,okY,gZ,e,g];exact aK rfl rfl
    by_cases u:oT l[k].name=3
    ·simp +contextual [go_sem,j,n,a,b,d,nZ,s,q,r,c3,o,e,g,u];refine i _ _ _ (.inr rfl) ⟨_,rfl,?_⟩;rw[<-f];simp[go_sem,okY,gZ,e,g,u];exact aK rfl rfl
    simp +contextual [go_sem,j,n,a,b,d,nZ,s,q,r,c3,o,e,g,u,-Int.natCast_add,w];refine⟨l.length-(k+1),o_,k+1,rfl,c,g_,g_,?_⟩;rw[<-f];simp[okY,gZ,e,g,u]
   simp +contextual [go_sem,j,n,a,b,d,nZ,s,q,r,c3,o,e,-Int.natCast_add,w];refine⟨l.length-(k+1),o_,k+1,rfl,c,g_,g_,?_⟩;rw[<-f];simp[okY,e]
  have:k=l.length:=o_;subst this;simp[go_sem,j,n,b];refine i _ _ _ (.inr rfl) ⟨_,rfl,?_⟩;rw[<-f,ae];simp[go_sem];exact aK rfl rfl
 simp[go_sem,aM,lt,v,p];refine i _ _ _ (.inr rfl) ⟨_,rfl,?_⟩;simp[go_sem,uw,p];exact aK rfl rfl
theorem SP(t:T) (hs:t.size<4000000) (h:H):ak C h (.func 163 []) (some [enc t])=some (.bool (uw t),h):=aX (cg _) (by simp[aq]) s_ (RE t hs)
def dG(d:Dm):AV:=.agg [aM d.knows,.int .i64 d.term.kind,.str d.term.name,.int .i64 d.term.sort,aM d.term.kids]
def bB(l:List Dm):AV:=.isl (l.map dG) .unk
theorem u22:C.P.underlying 22=some (.slice 41):=underlying22
theorem s41:cr C.P 41=some 5:=k_
theorem s22:cr C.P 22=some 1:=k_
theorem a41:fJ C.P 41=some true:=k_
theorem a22:fJ C.P 22=some false:=k_
theorem b41:hG C.P 41=some 80:=k_
theorem z41:gH C.P 41=true:=k_
theorem aA5:ii C.P 22=some 41:=k_
attribute [go_sem] u22 s41 s22 a41 a22 aA5
theorem HT(i:Nat):bF C.P 41 (.ptr i 0) 0=some (.ptr i 0):=k_
theorem HS(i:Nat):bF C.P 41 (.ptr i 0) 1=some (.ptr i 1):=k_
theorem zP(e:AV):bF C.P 41 (.iptr e 0) 0=some (.iptr e 0):=k_
theorem zO(e:AV):bF C.P 41 (.iptr e 0) 1=some (.iptr e 1):=k_
attribute [go_sem] HT HS zP zO
def dc(d:Dm):LA:=[aM d.knows,.int .i64 d.term.kind,.str d.term.name,.int .i64 d.term.sort,aM d.term.kids]
theorem Xa(l:List Dm) (x:Ext):fB C.P 22 (.isl (l.map dG) x)=some (.int .i64 l.length):=by simp[fB,u22]
theorem pJ(l:List Dm):fB C.P 22 (bB l)=some (.int .i64 l.length):=Xa l _
theorem AU(l:List Dm) (k:Nat) (hk:k<l.length) (x:Ext):bH C.P 22 (.isl (l.map dG) x) (.int .i64 k)=some (.iptr (dG l[k]) 0):=by simp[bH,u22,s41,hk,dG,aV]
theorem qS(l:List Dm) (k:Nat) (hk:k<l.length):bH C.P 22 (bB l) (.int .i64 k)=some (.iptr (dG l[k]) 0):=AU l k hk _
theorem Qy(d:Dm) (h:H):aW C.P h 41 (.iptr (dG d) 0)=some (dG d):=by simp[aW,aZ,a41,s41,dG,aV]
theorem qr(d:Dm) (h:H):aW C.P h 37 (.iptr (dG d) 0)=some (aM d.knows):=by simp[aW,aZ,a23,s23,dG,aV]
theorem yN(d:Dm) (h:H):aW C.P h 39 (.iptr (dG d) 1)=some (enc d.term):=by simp[aW,aZ,a25,s25,dG,aV];rw[bE]
theorem DC(d:Dm) (h:H):aW C.P h 3 (.iptr (dG d) 1)=some (.int .i64 d.term.kind):=by simp[aW,aZ,a3,s3,dG,aV]
theorem Fu(d:Dm) (h:H):nR C.P h 41 (dG d)=some (.ptr h.length 0,h++[.cells (dc d) .live]):=by simp[nR,dG,aV,s41,bf,dc]
theorem aAw{h:H}{i:Nat}{d:Dm}(hi:h[i]?=some (.cells (dc d) .live)):aW C.P h 37 (.ptr i 0)=some (aM d.knows):=by simp[aW,hi,aZ,a23,s23,dc]
theorem aAv{h:H}{i:Nat}{d:Dm}(hi:h[i]?=some (.cells (dc d) .live)):aW C.P h 39 (.ptr i 1)=some (enc d.term):=by simp[aW,hi,aZ,a25,s25,dc];rw[bE]
theorem YJ(d:Dm):jd [dG d]=some [dG d]:=rfl
theorem QN(d:Dm):short (dG d)=true:=rfl
def Zf(l:Lq) (hd:List VObj) (m:Nat) (st:PT) (h:H):Prop:=∃k:Nat,m=l.length-k/\k<=l.length/\h=hd/\st.get 1=.ptr 0 0/\st.get 4=aM l/\st.get 5=.int .i64 k/\((l.drop k).any λv=>decide (v.sort=1)||decide (v.sort=5))=l.any λv=>decide (v.sort=1)||decide (v.sort=5)
theorem Ms(t:T) (hs:t.size<4000000):az C 105 [enc t]=some (.int .i64 (eS t)):=by
 refine ay func105 rfl λR i=>?_
 have x:=wn t hs;have A:=zS t hs;have c3:=SP t hs;have y:=Dt t hs;have lt:=yO t;by_cases s:dy t=0
 ·have D:=nB t;have p:eS t=if((ez t).any λv=>decide (v.sort=1)||decide (v.sort=5))=true then 10 else if uw t=false then 10 else if 60<t.size then 3 else 0:=by rw[eS,if_neg (by simp[s])]
  simp[go_sem,aM,lt,x,A,s];generalize ez t=l at *;have a:=fI l;refine bL (Zf l _) l.length ⟨0,rfl,aN _,rfl,g_,by simp[go_sem,aM],g_,rfl⟩ ?_;rintro m E h ⟨k,rfl,F,rfl,j,n,o,c⟩;by_cases d:k<l.length
  ·have b:(k:Int)<l.length:=o_;have f:=eJ l k d;have B:=wS k o_;have w:=TP l[k];rw[aI d,qa]at c;by_cases r:l[k].sort=1
   ·simp +contextual [go_sem,n,o,b,a,f,uW,w,r];refine i ⟨_,rfl,?_⟩;have e:eS t=10:=by rw[p,<-c];simp[r]
    rw[e];simp[go_sem];exact aK rfl rfl
   by_cases u:l[k].sort=5
   ·simp +contextual [go_sem,n,o,b,a,f,uW,w,u];refine i ⟨_,rfl,?_⟩;have e:eS t=10:=by rw[p,<-c];simp[u]
    rw[e];simp[go_sem];exact aK rfl rfl
   simp +contextual [go_sem,n,o,b,a,f,uW,w,r,u,-Int.natCast_add,B];refine⟨l.length-(k+1),o_,k+1,rfl,d,rfl,g_,g_,g_,?_⟩;rw[<-c];simp[r,u]
  have:k=l.length:=o_;subst this;rw[ae]at c;by_cases q:uw t=true
  ·by_cases z:60<t.size
   ·have g:(60:Int)<t.size:=o_;simp[go_sem,j,n,o,a,lt,c3,y,q,g];refine i ⟨_,rfl,?_⟩;have e:eS t=3:=by rw[p,<-c];simp[q,z]
    rw[e];simp[go_sem];exact aK rfl rfl
   have g:¬(60:Int)<t.size:=o_;simp[go_sem,j,n,o,a,lt,c3,y,q,g];refine i ⟨_,rfl,?_⟩;have e:eS t=0:=by rw[p,<-c];simp[q,z]
   rw[e];simp[go_sem];exact aK rfl rfl
  simp[go_sem,j,n,o,a,lt,c3,q];refine i ⟨_,rfl,?_⟩;have e:eS t=10:=by rw[p,<-c];simp[q]
  rw[e];simp[go_sem];exact aK rfl rfl
 simp[go_sem,aM,lt,x,s];refine i ⟨_,rfl,?_⟩;have e:eS t=dy t:=by rw[eS,if_pos s]
 rw[e];simp[go_sem];exact aK rfl rfl
theorem JP(t:T) (hs:t.size<4000000) (h:H):ak C h (.func 105 []) (some [enc t])=some (.int .i64 (eS t),h):=aX (cg _) (by simp[aq]) s_ (Ms t hs)
theorem c3:prog.cellsOf 3=1:=k_
theorem c9:prog.cellsOf 9=1:=k_
theorem c23:prog.cellsOf 37=1:=k_
theorem c25:prog.cellsOf 39=4:=k_
theorem c86:prog.cellsOf 84=8:=k_
section
variable {H:Type}{ec:TypeId × Value->H}{w:World}
noncomputable abbrev TR(ec:TypeId × Value->H) (w:World) (n:Nat) (t:TypeId) (cs:List Value):Option (DataW H × List MemPlace):=DataW.trod ec prog w 0 (λ_=>true) true n t cs
theorem XY{α:Type}{l:List α}(h:l.length=4):∃a b c d,l=[a,b,c,d]:=by
 match l,h with
 |[a,b,c,d],_=>exact⟨a,b,c,d,rfl⟩
theorem aAs{α:Type}{l:List α}(h:l.length=8):∃a b c d e f g i,l=[a,b,c,d,e,f,g,i]:=by
 match l,h with
 |[a,b,c,d,e,f,g,i],_=>exact⟨a,b,c,d,e,f,g,i,rfl⟩
theorem OK(t:T):(enc t).cells.length=4/\bf (enc t)=true/\∀c∈(enc t).cells,c.one=true:=by rw[au];refine⟨rfl,by rw[bE];rfl,λc a=>?_⟩;simp only[ao,cy,or_false]at a;rcases a with rfl|rfl|rfl|rfl<;>rfl
theorem wY:∀(fuel:Nat) (cs:List Value) (y:DataW H × List MemPlace),cs.length=4->TR ec w fuel 39 cs=some y->∃t:T,t.size<=oN y.1/\∀(j:Nat) c u,(enc t).cells[j]?=some c->cs[j]?=some u->IRel (λ_ _=>True) w c u:=by
 intro fuel;induction fuel using Nat.strongRecOn with
 |_ fuel v=>
  intro cs y f h;obtain⟨d,n,rfl,rfl,I,x,e⟩:=DataW.trod_struct underlying39 h;have i:TR ec w n 3 ((cs.drop 0).take (prog.cellsOf 3))=d[0]?:=e 0 _ rfl;have k:TR ec w n 9 ((cs.drop 1).take (prog.cellsOf 9))=d[1]?:=e 1 _ rfl;have o:TR ec w n 3 ((cs.drop 2).take (prog.cellsOf 3))=d[2]?:=e 2 _ rfl;have p:TR ec w n 37 ((cs.drop 3).take (prog.cellsOf 37))=d[3]?:=e 3 _ rfl;obtain⟨J,K,L,M,rfl⟩:=XY f;obtain⟨N,O,Q,S,rfl⟩:=XY (l:=d) x;simp only[c3,c9,c23,dO,dl,dh,fo,be,dH]at i k o p;obtain⟨z,q,rfl,_⟩:=DataW.trod_int underlying3 i;obtain⟨A,r,rfl,_⟩:=DataW.trod_string underlying9 k;obtain⟨B,s,rfl,_⟩:=DataW.trod_int underlying3 o;simp only[bw,and_true]at q r s;subst q;subst r;subst s;have⟨l,D,E,g⟩:=nN (toV:=enc) (sz:=T.size) underlying37 c25 o_ OK (λm U cs y F G=>v m o_ cs y F G) p;refine⟨.mk z A B l,?_,λj c u a b=>?_⟩
  ·rw[size_kids];show sizes l+1<=_;rw[sizes_eq];simp only[aS,bD,oN,YtclakfnjdnibeaaGreatDoor.Rows.uptoBulk,YtclakfnjdnibeaaGreatDoor.Rows.uptoBulkAll]at g ⊢;omega
  rw[au]at a;match j,a,b with
  |0,a,b=>simp at a b;subst a;subst b;exact .int _ _
  |1,a,b=>simp at a b;subst a;subst b;exact .str _
  |2,a,b=>simp at a b;subst a;subst b;exact .int _ _
  |3,a,b=>simp at a b;subst a;subst b;exact D
  |j+4,a,b=>simp at a
theorem LI{n:Nat}{v:Value}{x:DataW H × List MemPlace}(h:TR ec w n 37 [v]=some x):∃l:Lq,IRel (λ_ _=>True) w (aM l) v/\l.length+1<=oN x.1/\(l.map T.size).sum+1<=oN x.1:=
 nN (toV:=enc) (sz:=T.size) underlying37 c25 o_ OK (λm _ a y b c=>wY m a y b c) h
theorem Wc{n:Nat}{v:Value}{x:DataW H × List MemPlace}(h:TR ec w n 197 [v]=some x):∃l:LA,IRel (λ_ _=>True) w (.isl l .unk) v:=by
 have⟨l,f,_⟩:=nN (α:=ByteArray) (toV:=AV.str) (sz:=λ_=>0) underlying197 c9 o_ (λa=>⟨rfl,rfl,λc b=>by simp[AV.cells]at b;subst b;rfl⟩) (λm _ i y k g=>by
  have⟨s,e,_⟩:=DataW.trod_string underlying9 g;subst e;refine⟨s,aN _,λj c u b d=>?_⟩;match j,b,d with
  |0,b,d=>simp[AV.cells]at b d;subst b;subst d;exact .str _
  |j+1,b,d=>simp[AV.cells]at b) h
 exact⟨_,f⟩
theorem OR{n:Nat}{v:Value}{x:DataW H × List MemPlace}(h:TR ec w n 53 [v]=some x):∃l:List Int,IRel (λ_ _=>True) w (aA6 l) v:=by
 have⟨l,f,_⟩:=nN (α:=Int) (toV:=AV.int .i64) (sz:=λ_=>0) underlying53 c3 o_ (λa=>⟨rfl,rfl,λc b=>by simp[AV.cells]at b;subst b;rfl⟩) (λm _ i y k g=>by
  have⟨s,e,_⟩:=DataW.trod_int underlying3 g;subst e;refine⟨s,aN _,λj c u b d=>?_⟩;match j,b,d with
  |0,b,d=>simp[AV.cells]at b d;subst b;subst d;exact .int _ _
  |j+1,b,d=>simp[AV.cells]at b) h
 exact⟨_,f⟩
theorem LK{n:Nat}{v:Value}{x:DataW H × List MemPlace}(h:TR ec w n 45 [v]=some x):∃l:Lb,IRel (λ_ _=>True) w (binds l) v/\l.length+1<=oN x.1:=by
 have⟨l,s,k,_⟩:=nN (toV:=bS) (sz:=λ_=>0) underlying45 c86 o_ (λb=>⟨rfl,rfl,λc d=>by
  simp only[bS,aV,ao,cy,or_false]at d;rcases d with rfl|rfl|rfl|rfl|rfl|rfl|rfl|rfl<;>rfl⟩) (λm _ o y f t=>by
  obtain⟨i,n,rfl,rfl,D,z,p⟩:=DataW.trod_struct underlying84 t;have q:TR ec w n 39 ((o.drop 0).take (prog.cellsOf 39))=i[0]?:=p 0 _ rfl;have r:TR ec w n 39 ((o.drop 4).take (prog.cellsOf 39))=i[1]?:=p 1 _ rfl;obtain⟨E,F,G,I,J,K,L,M,rfl⟩:=aAs f;obtain⟨N,O,rfl⟩:∃a b,i=[a,b]:=by
   match i,z with
   |[a,b],_=>exact⟨a,b,rfl⟩
  simp only[c25,dO,dl,dh,fo,be,dH]at q r;have⟨A,_,g⟩:=wY _ _ _ rfl q;have⟨B,_,f⟩:=wY _ _ _ rfl r;rw[au]at g f;refine⟨(A,B),aN _,λj c u d e=>?_⟩;simp only[bS,aV]at d;match j,d,e with
  |0,d,e=>exact g 0 c u d e
  |1,d,e=>exact g 1 c u d e
  |2,d,e=>exact g 2 c u d e
  |3,d,e=>exact g 3 c u d e
  |4,d,e=>exact f 0 c u d e
  |5,d,e=>exact f 1 c u d e
  |6,d,e=>exact f 2 c u d e
  |7,d,e=>exact f 3 c u d e
  |j+8,d,e=>simp at d) h
 exact⟨l,s,k⟩
theorem c22:prog.cellsOf 22=1:=k_
theorem c41:prog.cellsOf 41=5:=k_
theorem aAt{α:Type}{l:List α}(h:l.length=5):∃a b c d e,l=[a,b,c,d,e]:=by
 match l,h with
 |[a,b,c,d,e],_=>exact⟨a,b,c,d,e,rfl⟩
theorem FC{n:Nat}{v:Value}{x:DataW H × List MemPlace}(h:TR ec w n 22 [v]=some x):∃l:List Dm,IRel (λ_ _=>True) w (bB l) v:=by
 have⟨l,q,_,_⟩:=nN (toV:=dG) (sz:=λ_=>0) underlying22 c41 o_ (λb=>⟨rfl,rfl,λc d=>by
  simp only[dG,aV,ao,cy,or_false]at d;rcases d with rfl|rfl|rfl|rfl|rfl<;>rfl⟩) (λm _ i y f r=>by
  obtain⟨g,n,rfl,rfl,B,s,k⟩:=DataW.trod_struct underlying41 r;have o:TR ec w n 37 ((i.drop 0).take (prog.cellsOf 37))=g[0]?:=k 0 _ rfl;have p:TR ec w n 39 ((i.drop 1).take (prog.cellsOf 39))=g[1]?:=k 1 _ rfl;obtain⟨D,E,F,G,I,rfl⟩:=aAt f;obtain⟨J,K,rfl⟩:∃a b,g=[a,b]:=by
   match g,s with
   |[a,b],_=>exact⟨a,b,rfl⟩
  simp only[c23,c25,dO,dl,dh,fo,be,dH]at o p;have⟨t,z,_⟩:=LI o;have⟨A,_,f⟩:=wY _ _ _ rfl p;rw[au]at f;refine⟨⟨t,A⟩,aN _,λj c u d e=>?_⟩;simp only[dG,aV]at d;match j,d,e with
  |0,d,e=>simp at d e;subst d;subst e;exact z
  |1,d,e=>exact f 0 c u d e
  |2,d,e=>exact f 1 c u d e
  |3,d,e=>exact f 2 c u d e
  |4,d,e=>exact f 3 c u d e
  |j+5,d,e=>simp at d) h
 exact⟨l,q⟩
end
end Go.VZ
namespace Go.VZ
open Go Go.V Go.Proofs Tryz TL
theorem aAM:prog.underlying 333=some (.array 20 157):=k_
theorem aAN:prog.underlying 157=some (.int .u64):=k_
theorem aBJ:prog.cellsOf 157=1:=k_
theorem aBI:prog.cellsOf 333=20:=k_
def M2{H:Type}:List (DataW H):=(List.range 20).map λi=>.lit (.int .u64 ((10 ^ i:Nat):Int))
theorem KF{H:Type}:YtclakfnjdnibeaaGreatDoor.Rows.laid_internal_strconv_uint64pow10 (H:=H)=.agg M2:=k_
theorem Gs{H:Type}{enc:TypeId × Value->H}{w:World}{base:Nat}{sp:Nat->Bool}{held:Bool}{fuel:Nat}{cs:List Value}{p:List MemPlace}(hr:DataW.trod enc prog w base sp held fuel 333 cs=some (YtclakfnjdnibeaaGreatDoor.Rows.laid_internal_strconv_uint64pow10,p)):cs.length=20/\∀i,i<20->cs[i]?=some (.int .u64 ((10 ^ i:Nat):Int)):=by
 have⟨b,m,_,g,a,l,c⟩:=DataW.trod_array aAM hr;rw[aBI]at a;refine⟨a,λi h=>?_⟩;have d:=c i h;rw[aBJ,oC]at d;have j:b[i]?=some (b[i]' o_):=aC o_;rw[j]at d;have⟨n,e,o,_⟩:=DataW.trod_int aAN d;rw[KF]at g;have q:M2=b.map (·.1):=by have:=congrArg Prod.fst g;simpa using this
 have f:=congrArg (·[i]?) q;simp only[M2,ba,eO h,j,bq,aA,o]at f;simp only[DataW.lit.injEq,Lit.int.injEq,true_and]at f;have k:=congrArg (·[0]?) e;simp only[lT (show 0<1 by decide),cE,df,be]at k;rw[k,<-f]
theorem Ku{w:World}(h:laidMetH prog YtclakfnjdnibeaaGreatDoor.Rows.exhaustSpoilRow.laid w):lS (λ_ _=>True) w:=by
 rw[MakeChecks.laidMetH_plain _ _ _ k_]at h;have⟨I,h,_,_⟩:=h;have⟨_,_,_,_,_,_,_,_,_,_,h,_⟩:=h;have⟨_,_,_,_,_,_,_,_,_,_,h,_⟩:=h;have⟨g,t,n,s,p,q,y,z,k,A,h,_⟩:=h;have u:prog.globalNamed "internal/strconv.uint64pow10" = some 1:=k_;have B:(prog.globals[1]?).map (·.type)=some 333:=k_;have D:g=1:=Option.some.inj (y.symm.trans u);subst D;have E:t=333:=Option.some.inj (z.symm.trans B);subst E;have a:∃v x,w.heap[1]?=some (.cells n v x):=by
  unfold World.var? at k;rw[show prog.globalNamed _=some 1 from u]at k;simp only[cn]at k;split at k
  ·rename_i v x F;simp only[aA]at k;subst k;exact⟨_,_,F⟩
  cases k
 have⟨l,m⟩:=Gs A;have⟨J,K,a⟩:=a;refine⟨λG L d=>?_,λG M d=>?_⟩
 rotate_left
 ·unfold wO at d;split at d
  ·rename_i e;subst e;simp only[aA]at d;subst d;exact⟨_,_,_,a,by simpa using l⟩
  cases d
 unfold tT at d;split at d
 ·rename_i e;subst e;simp only[aA]at d;subst d;refine IRel.iptr (off:=0) (b:=1) (o:=0) (λj=>.int .u64 ((10 ^ j:Nat):Int)) ?_ ?_ ?_
  ·intro c f;simp only[AV.cells,bV]at f;obtain⟨i,_,rfl⟩:=f;rfl
  ·intro j c f;have r:j<20:=by have:=(aB.1 f).1;simpa[AV.cells]using this
   refine⟨trivial,?_⟩;have:=m j r;simp only[World.cell?,a,cH];simpa using this
  intro j c f;have r:j<20:=by have:=(aB.1 f).1;simpa[AV.cells]using this
  simp only[AV.cells,ba,eO r,bq,aA]at f;subst f;exact .int _ _
 cases d
theorem VX(ik i3:Nat) (k:Int):Clo 200 [.ptr ik 0,.ptr i3 0] i3 [(ik,.cells [.int .i64 k] .live)] (gY k):=by
 rintro t h l ht hl ⟨v,G,B,k3⟩;have⟨k4,k5,k6⟩:=k3 _ (List.mem_singleton_self _);rw[FX k_ rfl];show ∃f,Go.V.Call C 200 [enc t,.ptr ik 0,.ptr i3 0] h=_/\_;suffices hh:∃r f,Go.V.Call C 200 [enc t,.ptr ik 0,.ptr i3 0] h=some (r,f)/\(r=.tuple []/\∀L,Ok3 i3 L h l->Ok3 i3 L f (l++gY k t)) by
  obtain⟨r,f,a,rfl,c⟩:=hh;exact⟨f,a,c⟩
 refine lC rfl func200 rfl k_ (by simp[f200]) λR M=>?_
 obtain⟨d,m⟩:∃g,g=h++[.cells (enc t).cells .live]:=⟨_,rfl⟩
 have N:d[h.length]?=some (.cells (enc t).cells .live):=by rw[m];simp
 have n3:d[i3]?=some (.cells [v] .live):=by rw[m];exact ga G
 have nk:d[ik]?=some (.cells [.int .i64 k] .live):=by rw[m];exact ga k4
 have D:Row d v l:=by rw[m];exact Gl B
 have E:d.length=h.length+1:=by rw[m];simp
 have q5:i3<h.length:=(aB.1 G).1;have old:∀j,j<h.length->d[j]?=h[j]?:=λj y=>by rw[m];exact aP y
 have lk:aW C.P d 3 (.ptr h.length 0)=some (.int .i64 t.kind):=by rw[au]at N;simp[aW,N,aZ,a3,s3]
 have I:=NZ (_st:=.live) nk;by_cases w:t.kind=k
 rotate_left
 ·simp[go_sem,kf];rw[<-au,<-m];simp[go_sem,lk,I,w];refine M _ _ _ (.inl rfl) ⟨.tuple [],rfl,rfl,?_⟩;intro L kk;simp only[gY,if_neg w,bm];rw[m];exact(kk.push _).less (λp hp=>bZ _ hp)
 have O:gY k t=[t]:=by simp[gY,w]
 rw[O]at M;simp[go_sem,kf];rw[<-au,<-m];simp[go_sem,lk,I,w];clear m;refine ue 2 _ (by rw[gM];decide) k_ ?_;show MX C 200 _ d.length _ 0 _ _ _ _;generalize J:d++List.replicate _ VObj.void=H0;have q:Pl d H0 8:=J▸Pl.mk' _ 8;have q3:=q.len;clear J;have p1:=q.get N;have p3:=q.get n3;have r0:Row H0 v l:=by
  rcases D with⟨rfl,rfl⟩|⟨id,rfl,n⟩
  ·exact .inl ⟨rfl,rfl⟩
  exact .inr ⟨id,rfl,q.get n⟩
 have q0:=TS p3 r0;have q1:=wM t p1;have Q:=Ud B;have S:v.mv H0.length (d.length+0)=v:=by
  rcases B with⟨rfl,rfl⟩|⟨id,rfl,n⟩
  ·rfl
  have:=(aB.1 n).1;simp[AV.mv];omega
 refine eF (.ptr i3 0) v g_ q0 (ig o_) (q.isV (i:=0) d_) S ?_;refine eF (.ptr h.length 0) (enc t) g_ q1 (ig o_) (q.isV (i:=1) d_) (fR _ _ _) ?_;refine bc (.int .i64 l.length) rfl rfl (q.isV (i:=2) d_) (by simp[opN,go_sem,Q]) rfl ?_;refine pV (parts:=[(0,.const (.agg #[.int .i64 0,.string ⟨#[]⟩,.int .i64 0,.slice none 0 0]))]) [(0,zt)] (.isl [zu] .full) (xL (evc _) rfl) (KA _) (Lu _) (q.isV (i:=3) d_) ?_;have z:d.length+4<H0.length:=o_;have app:∃f g,bu C.P true H0 37 v (.isl [zu] .full)=some (.msl H0.length 0 4 (l.length+1) none,f)/\f.length<=H0.length+1/\(ce v++iV v++ce (.isl [zu] .full)).contains (d.length+4)=false /\
   fin (d.length+4) (ce v++iV v++ce (.isl [zu] .full)) H0 f=g/\g.length=H0.length/\g[d.length+4]?=some (.cells (bQ l++zuc) .live)/\∀j,j≠d.length+4->bv v≠some j->g[j]?=H0[j]?:=by
  rcases r0 with⟨rfl,rfl⟩|⟨id,rfl,n⟩
  ·refine⟨_,_,Yd _,s_,rfl,tY z,s_,?_,λj y _=>aE (λe=>y e.symm)⟩;rw[aH z];rfl
  have q4:id<d.length:=by
   rcases D with⟨e,_⟩|⟨q6,e,A⟩
   ·subst e;exact absurd n (by intro hh;rename_i c;cases c)
   simp only[AV.msl.injEq]at e;rw[<-e.1]at A;exact(aB.1 A).1
  refine⟨_,_,Yc n hl,s_,by simp[ce,iV];omega,E5 z o_,s_,?_,λj y K=>?_⟩
  ·rw[aH (by simpa using z),G0]
  rw[aE (λe=>y e.symm),aE (λe=>K (by rw[e];rfl))]
 have⟨f,g,a1,a2,a3,a4,a5,a6,U⟩:=app;refine nS v (.isl [zu] .full) _ f g g_ (by simp[go_sem];rfl) (by rw[wrC];exact a1) a2 a3 (q.isV (i:=4) d_) a4 ?_;rw[show(AV.msl H0.length 0 4 (l.length+1) none).mv H0.length (d.length+4)=.msl (d.length+4) 0 4 (l.length+1) none by simp[AV.mv]];have Y:∀i,4<i->i<8->dZ g[d.length+i]?=true:=λi hi Z=>by rw[U _ o_ (λe=>by have:=Mq D e;omega)];exact q.isV Z
 refine bc (.ptr (d.length+4) (4*l.length)) rfl rfl (Y 5 d_ d_) (by simp[opN,go_sem,AS]) (zH o_) ?_;have s1:=W7 t a6;refine lR (d.length+4) (4*l.length) (enc t) _ g_ g_ s1 o_ (Y 6 d_ d_) ?_;rw[uN];obtain⟨F,s⟩:∃F,F=g.set (d.length+4) (.cells (bQ (l++[t])) .live):=⟨_,rfl⟩
 rw[<-s];have b1:F[d.length+4]?=some (.cells (bQ (l++[t])) .live):=by rw[s];exact aH o_
 have b2:∀j,j≠d.length+4->F[j]?=g[j]?:=λj y=>by rw[s];exact aE (λe=>y e.symm)
 have b3:F[i3]?=some (.cells [v] .live):=by rw[b2 _ o_,U _ o_ (Ib B G)];exact p3
 have b4:F.length=H0.length:=by rw[s];simpa using a5
 clear s;have s2:=W9 (u:=.msl (d.length+4) 0 4 (l.length+1) none) b3 ⟨_,_,rfl⟩;refine lR i3 0 (.msl (d.length+4) 0 4 (l.length+1) none) _ g_ g_ s2 o_ (by rw[b2 _ o_];exact Y 7 d_ d_) ?_;rw[show VObj.mv F.length (d.length+7) (.cells [.msl (d.length+4) 0 4 (l.length+1) none] .live)=.cells [.msl (d.length+4) 0 4 (l.length+1) none] .live by simp[VObj.mv,AV.mvs,AV.mv];omega];refine⟨?_,?_⟩
 ·unfold ri;generalize hb:Region.before _=b;have q':(b.getD 7 0).testBit 0=true:=by rw[<-hb];kernel_rfl
  have q2:(b.getD 6 0).testBit 4=true:=by rw[<-hb];kernel_rfl
  clear hb;have o:∀x∈ce v++iV v++ce (.isl [zu] .full),x<h.length/\x≠i3:=by
   have K:=Ib B G;rcases B with⟨rfl,rfl⟩|⟨id,rfl,n⟩
   ·intro x o;simp[ce,iV]at o
   intro x o;simp[ce,iV]at o;subst o;exact⟨(aB.1 n).1,λe=>K (by rw[<-e];rfl)⟩
  generalize ce v++iV v++ce (.isl [zu] .full)=X at o;have y1:∀k,(d.length+k)∉X:=λk w=>by have:=(o _ w).1;omega
  have y2:i3∉X:=λw=>(o _ w).2 rfl
  have y3:h.length∉X:=λw=>by have:=(o _ w).1;omega
  have z1:∀x∈X,∀k,¬x=h.length+1+k:=λx f k e=>by have:=(o x f).1;omega
  have z2:∀x∈X,¬x=h.length:=λx f e=>by have:=(o x f).1;omega
  have z3:∀k,¬(h.length+1+k∈X):=λk f=>by have:=(o _ f).1;omega
  simp[nH,rW,List.range,List.range.loop,E];refine⟨⟨.inl o_,.inl o_⟩,⟨.inl ⟨o_,λx f=>(o x f).2⟩,.inl ⟨o_,z2⟩,.inl ⟨z3 3,λx f=>z1 x f 3⟩⟩,⟨.inl ⟨o_,o_⟩,.inl ⟨o_,o_⟩,?_⟩,?_,.inl ⟨o_,o_⟩,.inl ⟨o_,o_⟩,?_,.inl ⟨⟨o_,o_⟩,o_,o_⟩⟩
  ·simpa[bA]using q2
  ·simpa[bA]using q'
  exact .inl ⟨⟨o_,λx f=>⟨z1 x f 7,(o x f).2⟩⟩,z3 7,o_,y2⟩
 simp[go_sem];refine M _ _ _ (.inl rfl) ⟨.tuple [],rfl,rfl,?_⟩;refine NC G B (b:=d.length+4) o_ (aH o_) (by rw[aE o_];exact b1) λj y h3 K=>?_
 rw[aE (λe=>h3 e.symm),b2 _ o_,U _ o_ K,q.old _ o_,old _ y]
theorem Q0(t:T) (k:Int) (hs:t.size<=10000):az C 145 [enc t,.int .i64 k]=some (aM (vN (cZ (gY k) t))):=by
 refine ay func145 rfl λR l=>?_
 obtain⟨b,a⟩:∃g:H,g=[.cells (enc t).cells .live,.cells [.int .i64 k] .live,.tok 0 39,.cells [.isl [] .full] .live]:=⟨_,rfl⟩
 have ok:Ok3 3 [(1,.cells [.int .i64 k] .live)] b []:=⟨.isl [] .full,by rw[a];rfl,.inl ⟨rfl,rfl⟩,λp i=>by simp only[bJ]at i;subst i;exact⟨by rw[a];rfl,s_,by simp[bv]⟩⟩
 have m:aW C.P b 39 (.ptr 0 0)=some (enc t):=wM t (by rw[a];rfl);have⟨y,n,c⟩:=Pv 200 [.ptr 1 0,.ptr 3 0] 3 _ (gY k) (En k) (VX 1 3 k) t b [] o_ (by simp;omega) ok;have o:=(gQ (f:=199) k_ rfl).trans n;have⟨v,q,d,_⟩:=c _ ok;rw[bk]at d;have s:=TS q d;have u:=kE (gY k) (En k) t;have⟨w,z,x,r⟩:=Gt d (ot (Nh k) t o_) o_;have e:=(gQ (f:=201) k_ rfl).trans x;have b3:∀h:H,nR C.P h 3 (.int .i64 k)=some (.ptr h.length 0,h++[.cells [.int .i64 k] .live]):=λh=>by simp[nR,s3,AV.cells,bf]
 simp[go_sem,kf,b3,Wq,AV.cells];rw[<-au,<-a];simp[go_sem,m,o,s,e];refine l ⟨w,?_,J1 r o_⟩;rcases r with⟨_,rfl⟩|⟨id,j,rfl,_⟩<;>simp[aY,cC,f145,go_sem]
theorem Ff(t:T) (k:Int) (hs:t.size<=10000) (h:H):ak C h (.func 145 []) (some [enc t,.int .i64 k])=some (aM (vN (cZ (gY k) t)),h):=aX (args':=[enc t,.int .i64 k]) (by rw[bE];rfl) (by simp[aq,mC]) s_ (Q0 t k hs)
theorem Tm(t:T) (hs:t.size<=10000):az C 96 [enc t]=some (aM (Ba t)):=by
 refine ay func96 rfl λR a=>?_
 have b:=Ff t 1 hs;have c:aW C.P [.cells [.int .i64 t.kind,.str t.name,.int .i64 t.sort,aM t.kids] .live,.tok 0 39] 39 (.ptr 0 0)=some (enc t):=by simp[aW,aZ,a25,s25];rw[bE]
 simp[go_sem,kC,kf,c,b];exact a ⟨aM (Ba t),by simp[aY,cC,f96,go_sem,Ba],aK rfl rfl⟩
theorem H8(t:T) (hs:t.size<=10000) (h:H):ak C h (.func 96 []) (some [enc t])=some (aM (Ba t),h):=aX (cg _) (by simp[aq]) s_ (Tm t hs)
theorem Cf(t:T):Ba t=ez t:=by
 refine Bi (Bw _).1 (yD _) λx=>?_
 rw[Ba,(Bw _).2,ez,mem_setS,cO,NQ];simp[isK]
def pO(n:Nat):List UInt8:=if n<10 then [UInt8.ofNat (48+n)]else pO (n/10)++[UInt8.ofNat (48+n%10)]
termination_by n
theorem oa(n:Nat):pO n=if n<10 then [UInt8.ofNat (48+n)]else pO (n/10)++[UInt8.ofNat (48+n%10)]:=by rw[pO]
theorem xk{k:Nat}(h:k<10):(UInt8.ofNat (48+k)).toNat=48+k:=by simp[UInt8.toNat_ofNat'];omega
theorem FE:∀(n:Nat),pO n≠[]/\∀c∈pO n,48<=c/\c<=57:=by
 intro n;induction n using Nat.strongRecOn with
 |_ n b=>
  have one:∀k,k<10->48<=UInt8.ofNat (48+k)/\UInt8.ofNat (48+k)<=57:=λk d=>by rw[UInt8.le_iff_toNat_le,UInt8.le_iff_toNat_le,xk d];exact⟨by show 48<=_;omega,by show _<=57;omega⟩
  rw[pO];split
  ·rename_i h;exact⟨s_,λc a=>by rw[bJ.1 a];exact one n h⟩
  rename_i h;refine⟨s_,λc a=>?_⟩;rcases ac.1 a with a|a
  ·exact(b (n/10) o_).2 c a
  rw[bJ.1 a];exact one _ o_
theorem OS:∀(n m:Nat),pO n=pO m->n=m:=by
 intro n;induction n using Nat.strongRecOn with
 |_ n g=>
  intro m h;have f:∀ {a b:Nat},a<10->b<10->UInt8.ofNat (48+a)=UInt8.ofNat (48+b)->a=b:=fun {a b} i j e=>by have:=congrArg UInt8.toNat e;rw[xk i,xk j]at this;omega
  have len:∀k,¬k<10->2<=(pO k).length:=λk l=>by rw[pO,if_neg l,aL];have:=(FE (k/10)).1;have:0<(pO (k/10)).length:=oQ.2 this;simp;omega
  by_cases d:n<10
  ·by_cases c:m<10
   ·rw[oa n,if_pos d,oa m,if_pos c]at h;exact f d c (by simpa using h)
   have:=len m c;rw[<-h,oa n,if_pos d]at this;simp at this
  by_cases c:m<10
  ·have:=len n d;rw[h,oa m,if_pos c]at this;simp at this
  rw[oa n,if_neg d,oa m,if_neg c]at h;have⟨o,p⟩:=List.append_inj' h rfl;have:=g (n/10) o_ (m/10) o;have:=f o_ o_ (by simpa using p:UInt8.ofNat (48+n%10)=UInt8.ofNat (48+m%10));omega
def iU(n:Nat):T:=.mk 2 ⟨(118::35::35::pO n).toArray⟩ 0 []
theorem I5{n m:Nat}(h:iU n=iU m):n=m:=by simp only[iU,T.mk.injEq,ByteArray.mk.injEq,and_true,true_and]at h;have:=congrArg Array.toList h;simp at this;exact OS _ _ this
theorem Q9(n:Nat):sW (iU n)=false:=by
 unfold sW iU;simp only[uQ,T.sort,uL];have a:EU ⟨(118::35::35::pO n).toArray⟩=false:=by simp[EU]
 simp[a]
def vL(t:T):Prop:=sW t=true
structure Al where
 rule:Int
 bind:Lb
 dem:List Dm
structure AltOk (l:List Dm) (a:Al):Prop where
 sol:∀θ,Sol vL θ a.dem->Sol vL (after θ a.bind) l
 nf:∀b∈a.bind,nf gZ b.2
 dup:(a.bind.map (·.1)).Nodup
 valid:cD a.dem=0
structure GoodN (l0:List Dm) (d:List Dm) (s:Lb):Prop where
 sol:∀θ,Sol vL θ d->Sol vL (after θ s) l0
 nf:∀b∈s,nf gZ b.2
 dup:(s.map (·.1)).Nodup
 valid:cD d=0
theorem Bm{P:T->Prop}{θ θ':T->T}{l:List Dm}(h:∀t,oc θ t=oc θ' t) (hs:Sol P θ l):Sol P θ' l:=λd a=>by rw[<-h];refine vY (λt b=>?_) (hs d a);obtain⟨k,c,rfl⟩:=b;exact .ax ⟨k,c,h k⟩
theorem Cd(θ:T->T):∀t,oc (after θ []) t=oc θ t:=λt=>by
 rw[om];congr 1
 revert t
 refine T.ind λt a=>?_
 rw[jM];split
 ·rfl
 have:t.kids.map (dK [])=t.kids:=by
  conv=>rhs;rw[<-List.map_id t.kids]
  exact lI λk b=>a k b
 rw[this];exact qQ t
theorem Kt{l:List Dm}(h:cD l=0):GoodN l l []:=⟨λθ a=>Bm (λt=>(Cd θ t).symm) a,s_,s_,h⟩
theorem LO{s u:Lb}(hs:(s.map (·.1)).Nodup) (hu:(u.map (·.1)).Nodup):((lO s u).map (·.1)).Nodup:=by have p:=nK (wb s u) [];rw[bk]at p;rw[lO,(p.map _).nodup_iff];exact(yY hs hu).sublist ((oS).map _)
theorem Ks{l0 d:List Dm}{s:Lb}{a:Al}(h:GoodN l0 d s) (ha:AltOk d a):GoodN l0 a.dem (lO s a.bind):=
 ⟨λθ b=>Mh h.dup ha.dup (h.sol _ (ha.sol θ b)),Qb h.nf ha.nf,LO h.dup ha.dup,ha.valid⟩
theorem Kr{l:Lq}{t y:T}(ht:t∈l) (hy:y∈cZ bY t) (k:y.kind=1):y∈dv l:=by rw[dv,mem_setS,bR];exact⟨t,ht,by rw[ez,mem_setS,cO];exact⟨hy,by simp[isK,k]⟩⟩
def jT(vars:Lq) (ns:List Nat):Lb:=vars.zip (ns.map iU)
def zY(ts:Lq) (ns:List Nat):Prop:=ns.Nodup/\∀n∈ns,∀t∈ts,∀y∈cZ bY t,y.kind=2->y.name≠(iU n).name
theorem U6{vars:Lq}{ns:List Nat}(h:ns.Nodup):RA (jT vars ns):=by
 refine⟨λb c=>?_,?_⟩
 ·have⟨n,_,e⟩:=bV.1 (eK c).2;rw[<-e];rfl
 have:(ns.map iU).Pairwise (·≠·):=by rw[gk];exact h.imp λd e=>d (I5 e)
 have f:∀(a b:Lq),b.Pairwise (·≠·)->(a.zip b).Pairwise λx y=>x.2≠y.2:=by
  intro a;induction a with
  |nil=>intro b _;simp
  |cons x a g=>
   intro b c;cases b with
   |nil=>simp
   |cons y b=>rw[cR]at c;rw[mA,cR];exact⟨λp i=>c.1 _ (eK i).2,g b c.2⟩
 exact f _ _ this
theorem B5:∀ {a b:Lq}{x:T},x∈a->a.length<=b.length->∃p∈a.zip b,p.1=x
 |[],_,x,h,_=>by simp at h
 |y::a,[],x,_,h=>by simp at h
 |y::a,z::b,x,h,hl=>by
  rcases ao.1 h with rfl|h
  ·exact⟨(x,z),s_,rfl⟩
  ·obtain⟨p,hp,e⟩:=B5 h (by simpa using hl)
   exact⟨p,bZ _ hp,e⟩
theorem je{t:T}(h:dy t=0):bh t=0/\gK t=0:=thn_zero.1 h
theorem RB{vars:Lq}{ns:List Nat}{ts:Lq}(hl:vars.length<=ns.length) (hu:zY ts ns){t:T}(ht:t∈ts) (hv:bh t=0) (hvs:∀y∈cZ bY t,y.kind=1->y∈vars):CI (jT vars ns) t:=λy a=>by
 have c:=gF (kq t (cz hv).1 y a);rcases KW c with k|k|k
 ·refine .inl ⟨k,qm c (.inl k),?_⟩;have⟨p,f,e⟩:=B5 (b:=ns.map iU) (hvs y a k) (by simpa using hl);exact⟨p,f,e⟩
 ·refine .inr (.inl ⟨k,qm c (.inr k),λb g e=>?_⟩);have⟨n,d,h⟩:=bV.1 (eK g).2;exact hu.2 n d t ht y a k (by rw[<-e,<-h])
 exact .inr (.inr k)
theorem Rk{l pre post:List Dm}{d:Dm}{ns:List Nat}(hv:cD l=0) (e:l=pre++d::post) (hl:(dv (bp l)).length<=ns.length) (hu:zY (bp l) ns)
  (hd:Dr vL (λt=>∃k,(k∈d.knows\/∃e∈pre,k=e.term)/\t=dK (jT (dv (bp l)) ns) k) (dK (jT (dv (bp l)) ns) d.term)) (θ:T->T) (h:Sol vL θ (pre++post)):Sol vL θ l:=by
 have ok:∀t∈bp l,CI (jT (dv (bp l)) ns) t:=λt f=>RB hl hu f (je (iI (qI hv t f)).1).1 λy j k=>Kr f j k
 have m:∀x∈l,∀k∈x.knows,k∈bp l:=λx c k g=>bR.2 ⟨x,c,dN _ g⟩
 have i:∀x∈l,x.term∈bp l:=λx c=>bR.2 ⟨x,c,s_⟩
 have a:∀x∈pre++d::post,x∈l:=λx c=>by rw[e];exact c
 have o:∀b∈jT (dv (bp l)) ns,¬vL b.2:=λb p=>by have⟨n,_,q⟩:=bV.1 (eK p).2;rw[<-q,vL,Q9];simp
 have:=Mg (P:=vL) (U6 hu.1) (λt f=>M1 f) o ((mO hv).2 pre d post e).2 (λk g=>ok k (m d (a d s_) k g)) (λx c=>ok _ (i x (a x (by simp[c])))) (ok _ (i d (a d s_))) hd h;rw[e];exact this
mutual
def jl:T->List UInt8
 |.mk k n s l=>[UInt8.ofNat k.toNat,UInt8.ofNat s.toNat,UInt8.ofNat l.length]++n.data.toList++[40]++dY l++[41]
def dY:Lq->List UInt8
 |[]=>[]
 |t::l=>jl t++44::dY l
end
theorem uJ(t:T):jl t=[UInt8.ofNat t.kind.toNat,UInt8.ofNat t.sort.toNat,UInt8.ofNat t.kids.length]++t.name.data.toList++[40]++dY t.kids++[41]:=by cases t;rw[jl];rfl
theorem EF{c:UInt8}:∀ {a b r q:List UInt8},c∉a->c∉b->a++c::r=b++c::q->a=b/\r=q
 |[],[],r,q,_,_,h=>by simpa using h
 |[],y::b,r,q,_,hb,h=>by simp only[bk,cP,bw]at h;exact absurd (cJ (a:=y) (l:=b)) (by rw[<-h.1];rw[<-h.1]at hb;exact hb)
 |x::a,[],r,q,ha,_,h=>by simp only[bk,cP,bw]at h;exact absurd (cJ (a:=x) (l:=a)) (by rw[h.1];rw[h.1]at ha;exact ha)
 |x::a,y::b,r,q,ha,hb,h=>by simp only[cP,bw]at h;simp only[ao,not_or]at ha hb;have⟨h1,h2⟩:=EF ha.2 hb.2 h.2;exact⟨by rw[h.1,h1],h2⟩
theorem ql{t:T}(h:jQ t=0):(t.kind=1\/t.kind=2\/t.kind=3)/\0<=t.sort/\t.sort<=5/\kV t.name=true/\t.kids.length<=8:=by
 have d:=xP h;unfold jQ at h;split at h
 ·cases h
 rename_i c;split at h
 ·cases h
 rename_i e;simp only[vg,bo,am,decide_eq_true_eq,not_or,not_and,Decidable.not_not]at c;refine⟨?_,o_,o_,by simpa using e,d⟩;by_cases a:t.kind=1
 ·exact .inl a
 by_cases b:t.kind=2
 ·exact .inr (.inl b)
 exact .inr (.inr (c.1.1.1.1 ⟨a,b⟩))
theorem ofNat_inj{a b:Nat}(ha:a<=200) (hb:b<=200) (h:UInt8.ofNat a=UInt8.ofNat b):a=b:=by have:=congrArg UInt8.toNat h;simp[UInt8.toNat_ofNat']at this;omega
theorem AH:∀ {l m:Lq}{r q:List UInt8},l.length=m.length->(∀t∈l,∀(t':T) (r q:List UInt8),dS t'=0->jl t++r=jl t'++q->t=t'/\r=q)->(∀t∈m,dS t=0)->dY l++r=dY m++q->l=m/\r=q
 |[],[],r,q,_,_,_,h=>by simpa[dY]using h
 |[],_::_,_,_,hl,_,_,_=>by simp at hl
 |_::_,[],_,_,hl,_,_,_=>by simp at hl
 |t::l,t'::m,r,q,hl,ih,hm,h=>by rw[dY,dY,List.append_assoc,List.append_assoc]at h;have⟨h1,h2⟩:=ih t s_ t' _ _ (hm t' s_) h;simp only[cP,bw,true_and]at h2;have⟨b,c⟩:=AH (by simpa using hl) (λx a=>ih x (by simp[a])) (λx a=>hm x (by simp[a])) h2;exact⟨by rw[h1,b],c⟩
theorem KJ(hnm:∀n:ByteArray,kV n=true->(40:UInt8)∉n.data.toList):∀t:T,dS t=0->∀(t':T) (r q:List UInt8),dS t'=0->jl t++r=jl t'++q->t=t'/\r=q:=by
 refine T.ind λt e c t' r q a h=>?_
 have f:=ql (gF c);have g:=ql (gF a);rw[uJ,uJ t']at h;simp only[cP,bk,List.append_assoc,bw]at h;have⟨i,j,l,m⟩:=h;have o:t.kind=t'.kind:=by have:=ofNat_inj o_ o_ i;omega
 have p:t.sort=t'.sort:=by have:=ofNat_inj o_ o_ j;omega
 have y:=ofNat_inj o_ o_ l;have⟨s,u⟩:=EF (hnm _ f.2.2.2.1) (hnm _ g.2.2.2.1) m;have⟨v,d⟩:=AH o_ (λk b t' r q w x=>e k b (kq t c k (mem_walk.2 (.inr ⟨k,b,fT k⟩))) t' r q w x) (λk b=>kq t' a k (mem_walk.2 (.inr ⟨k,b,fT k⟩))) u;simp only[bw,true_and]at d;refine⟨?_,d⟩;rw[<-qQ t,<-qQ t',o,p,v,name_inj.1 s]
def ixU(u:Lq) (t:T):Nat:=u.findIdx λx=>decide (x.cmp t=0)
theorem DG{u:Lq}{t:T}(h:t∈u):u[ixU u t]?=some t:=by
 have a:ixU u t<u.length:=mf ⟨t,h,by simp[cmp_zero]⟩;have:=List.findIdx_getElem (w:=a);rw[aC a];have e:(u[ixU u t]).cmp t=0:=by simp only[decide_eq_true_eq]at this;exact this
 rw[cmp_zero.1 e]
theorem tQ{u:Lq}{t:T}(h:t∈u):ixU u t<u.length:=mf ⟨t,h,by simp[cmp_zero]⟩
theorem Nj{u:Lq}(hn:u.Nodup){i:Nat}{t:T}(h:u[i]?=some t):ixU u t=i:=by have a:=DG (ai h);have b:=(aB.1 h).1;exact((List.getElem?_inj b hn).1 (h.trans a.symm)).symm
def knT(u:Lq) (kn:List Bool) (t:T):Bool:=kn.getD (ixU u t) false
theorem uP{u:Lq}{kn:List Bool}(hn:u.Nodup) (_hl:kn.length=u.length){t:T}(ht:t∈u):knT u kn t=true↔AQ u kn t:=by
 unfold knT AQ;rw[bK];constructor
 ·intro h;refine⟨ixU u t,DG ht,?_⟩;cases e:kn[ixU u t]? with
  |none=>rw[e]at h;simp at h
  |some b=>rw[e]at h;simp at h;rw[h]
 rintro⟨j,a,c⟩;rw[Nj hn a,c];rfl
def pR(u:Lq) (kn:List Bool) (t:T):Bool:=bld t&&t.kids.all (knT u kn)
def jD(u:Lq) (kn:List Bool) (t:T):Lq:=
 if iu t qo=true then t.kids
 else if iu t pG=true\/((rf t).map (knT u kn)).getD false=true then t.kids.take 1 else []
theorem Bx{u:Lq}{kn:List Bool}{t v:T}(h:v∈jD u kn t):v∈t.kids:=by
 unfold jD at h;split at h
 ·exact h
 split at h
 ·exact bW h
 simp at h
theorem NK:qo≠pG/\vQ≠qo/\pH≠qo/\vQ≠pG/\pH≠pG:=by refine⟨?_,?_,?_,?_,?_⟩<;>simp[qo,pG,vQ,pH]
theorem KM{u:Lq}{kn:List Bool}{t v:T}{ks:Lq}(h:Prt t v ks) (hk:∀k∈ks,knT u kn k=true):v∈jD u kn t:=by
 have⟨d,f,g,j,n⟩:=NK;have b:∀ {v:T},t.kids[0]?=some v->v∈t.kids.take 1:=fun {v} h=>by
  cases c:t.kids with
  |nil=>rw[c]at h;simp at h
  |cons a l=>rw[c]at h;simp at h;simp[h]
 unfold jD;cases h with
 |pair a m=>rw[if_pos a];exact m
 |sign a m=>rw[if_neg (λe=>d ((ea e).2.symm.trans (ea a).2)),if_pos (.inl a)];exact b m
 |key a m=>
  have i:iu t qo≠true:=λe=>by
   have:=(ea e).2;rcases(qu a).2 with q|q
   ·exact f (q.symm.trans this)
   exact g (q.symm.trans this)
  rw[if_neg i,if_pos (.inr (by rw[a];exact hk _ s_))];exact b m
theorem M8{P K:T->Prop}{u:Lq}{kn:List Bool}{t v:T}(h:v∈jD u kn t) (ht:Dr P K t) (hk:∀k,knT u kn k=true->Dr P K k):Dr P K v:=by
 unfold jD at h;split at h
 ·rename_i a;exact .opn ht (.pair a h) s_
 split at h
 ·rename_i a;have c:t.kids[0]?=some v:=by
   cases d:t.kids with
   |nil=>rw[d]at h;simp at h
   |cons b l=>rw[d]at h;simp at h;simp[h]
  rcases a with a|a
  ·exact .opn ht (.sign a c) s_
  cases e:rf t with
  |none=>rw[e]at a;simp at a
  |some k=>rw[e]at a;exact .opn ht (.key e c) (by simpa using hk k (by simpa using a))
 simp at h
theorem Hm{u:Lq}{kn:List Bool}(hn:u.Nodup) (hl:kn.length=u.length) (hu:∀t∈u,∀k∈t.kids,k∈u){t:T}(ht:t∈u)
  (h1:knT u kn t=false->sW t=false/\pR u kn t=false) (h2:knT u kn t=true->∀v∈jD u kn t,knT u kn v=true):FN u kn t:=by
 have c:=uP (kn:=kn) hn hl ht;refine⟨λa=>?_,λi l=>?_,λd v n a f=>?_⟩
 ·cases e:knT u kn t with
  |true=>exact c.1 e
  |false=>rw[(h1 e).1]at a;cases a
 ·cases e:knT u kn t with
  |true=>exact c.1 e
  |false=>have:=(h1 e).2;rw[pR,i,ee,iz]at this;exact absurd (bI.2 λk b=>(uP hn hl (hu t ht k b)).2 (l k b)) this
 have m:v∈u:=hu t ht v (Ig a);refine(uP hn hl m).1 (h2 (c.2 d) v (KM a λk b=>?_));have⟨j,h,g⟩:=f k b;exact(uP hn hl (ai h)).2 ⟨j,h,g⟩
def gy(d:Dm):Prop:=(∀t∈d.knows,t.size<4000000)/\d.term.size<4000000/\d.knows.length<4000000
def Y8(d:Dm) (m:Nat) (st:PT) (h:H):Prop:=∃k:Nat,m=d.knows.length-k/\k<=d.knows.length/\h=[.cells (dc d) .live]/\st.get 1=.ptr 0 0/\st.get 3=.int .i64 k/\pC (d.knows.drop k)=pC d.knows
theorem XM(d:Dm) (hs:gy d):az C 65 [dG d]=some (.int .i64 (mF d)):=by
 have⟨w,x,D⟩:=hs;refine ay func65 rfl λR n=>?_
 have b:=fI d.knows;obtain⟨s,a⟩:∃g:H,g=[.cells (dc d) .live]:=⟨_,rfl⟩
 have j:aW C.P s 37 (.ptr 0 0)=some (aM d.knows):=aAw (by rw[a];rfl);have y:aW C.P s 39 (.ptr 0 1)=some (enc d.term):=aAv (by rw[a];rfl);by_cases q:40<d.knows.length
 ·have o:(40:Int)<d.knows.length:=o_;simp[go_sem,Fu];rw[<-a];simp[go_sem,j,b,o];refine n ⟨_,rfl,?_⟩;have e:mF d=3:=by rw[mF,if_pos q]
  rw[e];simp[go_sem];exact aK rfl rfl
 have o:¬(40:Int)<d.knows.length:=o_;have t:mF d=if pC d.knows≠0 then pC d.knows else eS d.term:=by rw[mF,if_neg q]
 simp[go_sem,Fu];rw[<-a];simp[go_sem,j,b,o];refine bL (Y8 d) d.knows.length ⟨0,rfl,aN _,a,g_,g_,rfl⟩ ?_;rintro m E h ⟨k,rfl,F,u,p,r,i⟩;rw[<-a]at u;subst u;by_cases c:k<d.knows.length
 ·have f:(k:Int)<d.knows.length:=o_;have l:=eJ d.knows k c;have A:=wS k o_;have v:=JP d.knows[k] (w _ (aF c));rw[aI c,pC]at i;by_cases z:eS d.knows[k]=0
  ·rw[if_neg (by simp[z])]at i;simp[go_sem,p,r,j,b,f,l,gd,v,z,-Int.natCast_add,A];exact⟨d.knows.length-(k+1),o_,k+1,rfl,c,a,g_,g_,i⟩
  rw[if_pos z]at i;simp[go_sem,p,r,j,b,f,l,gd,v,z];refine n ⟨_,rfl,?_⟩;have e:mF d=eS d.knows[k]:=by rw[t,<-i,if_pos z]
  rw[e];simp[go_sem];exact aK rfl rfl
 have:k=d.knows.length:=o_;subst this;rw[ae,pC]at i;have B:=JP d.term x;simp[go_sem,p,r,j,y,b,B];refine n ⟨_,rfl,?_⟩;have e:mF d=eS d.term:=by rw[t,<-i];rfl
 rw[e];simp[go_sem];exact aK rfl rfl
theorem Ve(d:Dm) (hs:gy d) (h:H):ak C h (.func 65 []) (some [dG d])=some (.int .i64 (mF d),h):=aX (YJ d) (by simp[QN]) s_ (XM d hs)
theorem Dl(l:Lq) (x:Ext) (t:T) (hl:∀y∈l,y.size<4000000) (hn:l.length<4000000) (ht:t.size<4000000) (h:H):ak C h (.func 66 []) (some [.isl (l.map enc) x,enc t])=some (.bool (kr l t),h):=by
 have e:kr l t=decide (t∈l):=by rw[fO,memE_iff];simp
 rw[e];exact aX (args':=[aM l,enc t]) (by rw[bE t];rfl) (by simp[aq];rfl) s_ (Nv l t hl ht hn)
def fm(l:List Dm) (k:Nat):Lq:=(l.take k).flatMap λd=>ez d.term
def jI(l:List Dm) (k:Nat):Lq:=if k=0 then []else((l[k-1]?).map Dm.knows).getD []
theorem AF{l:List Dm}{k:Nat}(hk:k<l.length):jI l (k+1)=l[k].knows:=by simp[jI,hk]
theorem ny{l:List Dm}{k:Nat}(hk:k<l.length):fm l (k+1)=fm l k++ez l[k].term:=by rw[fm,aJ hk,eP];simp[fm]
def aBY(l:List Dm) (m:Nat) (st:PT) (h:H):Prop:=∃k:Nat,m=l.length-k/\k<=l.length/\st.get 0=bB l/\st.get 4=.int .i64 k/\OwnR 39 h (st.get 3) ((fm l k).map enc)/\(fm l k).length<=60*k/\(∀y∈fm l k,y.size<4000000)/\kQ (jI l k) (fm l k) (l.drop k)=kQ [] [] l
def aBW(l:List Dm) (k:Nat) (v3:AV) (h0:H) (m:Nat) (st:PT) (h:H):Prop:=∃j:Nat,m=(jI l k).length-j/\j<=(jI l k).length/\h=h0/\st.get 0=bB l/\st.get 3=v3/\st.get 4=.int .i64 k/\st.get 6=.int .i64 j/\∀d,l[k]?=some d->((jI l k).drop j).all (kr d.knows)=(jI l k).all (kr d.knows)
def Yw(l:List Dm) (k:Nat) (v3:AV) (b vs:Lq) (h0:H) (m:Nat) (st:PT) (h:H):Prop:=∃j:Nat,m=vs.length-j/\j<=vs.length/\h=h0/\st.get 0=bB l/\st.get 3=v3/\st.get 4=.int .i64 k/\st.get 7=aM vs/\st.get 8=.int .i64 j/\(vs.drop j).all (kr b)=vs.all (kr b)
theorem yR{l:Lq}(h:∀t∈l,eS t=0):sizes l<=60*l.length:=by
 induction l with
 |nil=>simp[sizes]
 |cons a l b=>
  have d:=(iI (h a s_)).2.2.2;have e:=b λt c=>h t (by simp[c])
  rw[sizes,aG];omega
theorem P0(l:List Dm) (hs:∀d∈l,gy d) (hl:l.length<4000000):az C 34 [bB l]=some (.int .i64 (cD l)):=by
 refine ay func34 rfl λR hR=>?_
 have fin:∀(st:PT) (h:H) (e:Int),st.get 2=.int .i64 e->cD l=e->R .ret st h:=λst h e h2 he=>hR ⟨.int .i64 e,by simp[aY,cC,f34,h2],by rw[he];exact aK rfl rfl⟩
 have B:=pJ l;by_cases q:40<l.length
 ·have q':(40:Int)<l.length:=o_;simp[go_sem,B,q'];exact fin _ _ 3 g_ (by rw[cD,if_pos q])
 have q':¬(40:Int)<l.length:=o_;have hv:cD l=kQ [] [] l:=by rw[cD,if_neg q]
 simp[go_sem,B,q'];refine bL (aBY l) l.length ⟨0,rfl,aN _,g_,g_,.inr ⟨0,by simp[go_sem,fm]⟩,by simp[fm],by simp[fm],by simp[jI,fm]⟩ ?_;rintro m st h ⟨k,rfl,hk,g0,g4,go,z7,q2,c⟩;obtain⟨v3,e3⟩:∃v,v=st.get 3:=⟨_,rfl⟩
 rw[<-e3]at go;by_cases b:k<l.length
 ·have s:(k:Int)<l.length:=o_;have g:=qS l k b;have p:=hs _ (aF b);have c1:=Ve l[k] p;rw[aI b,kQ]at c;by_cases z:mF l[k]=0
  ·have⟨z8,q3,z0⟩:=pD z;have z9:=(iI z0).2.2.2;have q4:(jI l k).length<=4000000/\∀y∈jI l k,y.size<4000000:=by
    unfold jI;split
    ·simp
    cases e:l[k-1]? with
    |none=>simp
    |some d=>have:=hs d (ai e);exact⟨by simpa using jw this.2.2,by simpa using this.1⟩
   have w1:0<k->IntKind.i64.wrap ((k:Int)-1)=((k-1:Nat):Int):=λh0=>by rw[av o_];omega
   have w2:=wS k o_;simp[go_sem,g0,g4,B,s,g,Qy,c1,z];refine bL (aBW l k v3 h) (jI l k).length ⟨0,rfl,aN _,rfl,g_,by simp[go_sem,<-e3],g_,g_,λd c=>rfl⟩ ?_;rintro m2 y0 h2 ⟨j,rfl,hj,rfl,Y,p3,Z,p6,pd⟩;have D:=pd l[k] (aC b);have q5:=λy (J:y.size<4000000)=>Dl l[k].knows .unk y p.1 p.2.2 J
   by_cases z1:0<k/\j<(jI l k).length
   ·have⟨q0,E⟩:=z1;have O:(0:Int)<k:=o_;have r:jI l k=l[k-1].knows:=by unfold jI;rw[if_neg o_,aC o_];rfl
    have t:=qS l (k-1) o_;have ww:=w1 q0;rw[r]at E hj D q4;have Q:(j:Int)<l[k-1].knows.length:=o_;have u:=fI l[k-1].knows;have S:=eJ l[k-1].knows j E;have U:=q5 _ (q4.2 _ (aF E));have w3:=wS j o_;rw[aI E,dt]at D;have F:aM l[k].knows=.isl (l[k].knows.map enc) .unk:=rfl;by_cases y:kr l[k].knows l[k-1].knows[j]=true
    ·simp[go_sem,Y,Z,p6,q0,ww,t,qr,u,Q,g,S,gd,F,U,y,-Int.natCast_add,w3];refine⟨(jI l k).length-(j+1),by rw[r];omega,j+1,rfl,by rw[r];exact E,rfl,by simp[go_sem,Y],by simp[go_sem,p3],by simp[go_sem,Z],g_,λd c=>?_⟩;rw[aC b,aA]at c;subst c;rw[r,<-D,y];simp
    simp[go_sem,Y,Z,p6,q0,ww,t,qr,u,Q,g,S,gd,F,U,y];have y':kr l[k].knows l[k-1].knows[j]=false:=by simpa using y
    have e:mS (jI l k) (fm l k) l[k]=9:=by rw[mS,if_neg (by simp[z]),if_pos (by rw[r,<-D,y'];rfl)]
    rw[e,if_pos d_]at c;exact fin _ _ 9 g_ (by rw[hv,<-c])
   have q6:(jI l k).all (kr l[k].knows)=true:=by
    by_cases k0:k=0
    ·simp[jI,k0]
    have:j=(jI l k).length:=o_;rw[<-D,this,ae];rfl
   have q7:=O6 l[k].knows .unk p.1 (by have:=yR q3;omega);have y1:=mN l[k].knows;have z5:=nq (l[k].knows.flatMap ez);have y2:=yR q3;have q8:∀y∈dv l[k].knows,y.size<4000000:=λy J=>by have⟨a,ha,J⟩:=bR.1 (mem_setS.1 J);exact mB (p.1 a ha) y J
   have y3:(dv l[k].knows).length<=2400:=by unfold dv;omega
   have⟨x3,w⟩:=go.isl;have q9:=λy (J:y.size<4000000)=>Dl (fm l k) x3 y q2 o_ J
   have z':=zS l[k].term p.2.1;have F:aM l[k].knows=.isl (l[k].knows.map enc) .unk:=rfl;have y4:=nB l[k].term;have⟨v',h',ha,ho,_,_⟩:=eW (ys:=ez l[k].term) (x:=.unk) go o_;rw[<-ny b]at ho;change bu C.P false h2 37 v3 (aM (ez l[k].term))=some (v',h')at ha;have K:mS (jI l k) (fm l k) l[k]=if((dv l[k].knows).all (kr (fm l k)))=false then 13 else 0:=by rw[mS,if_neg (by simp[z]),if_neg (by simp[q6])]
   have V:(fm l (k+1)).length<=60*(k+1):=by rw[ny b,aL];omega
   have X:∀y∈fm l (k+1),y.size<4000000:=λy J=>by rw[ny b,ac]at J;exact J.elim (q2 y) (mB p.2.1 y)
   generalize z6:dv l[k].knows=vs at *;have A:=fI vs;by_cases k0:0<k
   ·have z2:(0:Int)<k:=o_;have r:jI l k=l[k-1].knows:=by unfold jI;rw[if_neg o_,aC o_];rfl
    have t:=qS l (k-1) o_;have ww:=w1 k0;have z3:¬(j:Int)<l[k-1].knows.length:=by rw[<-r];omega
    have u:=fI l[k-1].knows;simp[go_sem,Y,Z,p6,k0,ww,t,qr,u,z3,g,F,q7];refine bL (Yw l k v3 (fm l k) vs h2) vs.length ⟨0,rfl,aN _,rfl,by simp[go_sem,Y],by simp[go_sem,p3],by simp[go_sem,Z],g_,g_,rfl⟩ ?_;rintro m3 z4 h3 ⟨i,rfl,hi,rfl,G,L,M,N,r8,I⟩;by_cases f:i<vs.length
    ·have n:(i:Int)<vs.length:=o_;have o:=eJ vs i f;have U:=q9 _ (q8 _ (aF f));have w3:=wS i o_;rw[aI f,dt]at I;by_cases y:kr (fm l k) vs[i]=true
     ·simp[go_sem,L,N,r8,A,n,o,gd,w,U,y,-Int.natCast_add,w3];exact⟨vs.length-(i+1),o_,i+1,rfl,f,rfl,by simp[go_sem,G],by simp[go_sem,L,w],by simp[go_sem,M],by simp[go_sem,N],g_,by rw[<-I,y];simp⟩
     simp[go_sem,L,N,r8,A,n,o,gd,w,U,y];have y':kr (fm l k) vs[i]=false:=by simpa using y
     have e:mS (jI l k) (fm l k) l[k]=13:=by rw[K,if_pos (by rw[<-I,y'];rfl)]
     rw[e,if_pos d_]at c;exact fin _ _ 13 g_ (by rw[hv,<-c])
    have q1:i=vs.length:=o_;subst q1;rw[ae]at I;have e:mS (jI l k) (fm l k) l[k]=0:=by rw[K,if_neg (by rw[<-I];simp)]
    rw[e,if_neg s_]at c;simp[go_sem,G,L,M,N,r8,A,g,yN,z',ha,-Int.natCast_add,w2];exact⟨l.length-(k+1),o_,k+1,rfl,b,by simp[go_sem,G],g_,by simpa[go_sem]using ho,V,X,by rw[AF b,ny b];exact c⟩
   simp[go_sem,Y,Z,p6,k0,g,qr,F,q7];refine bL (Yw l k v3 (fm l k) vs h2) vs.length ⟨0,rfl,aN _,rfl,by simp[go_sem,Y],by simp[go_sem,p3],by simp[go_sem,Z],g_,g_,rfl⟩ ?_;rintro m3 z4 h3 ⟨i,rfl,hi,rfl,G,L,M,N,r8,I⟩;by_cases f:i<vs.length
   ·have n:(i:Int)<vs.length:=o_;have o:=eJ vs i f;have U:=q9 _ (q8 _ (aF f));have w3:=wS i o_;rw[aI f,dt]at I;by_cases y:kr (fm l k) vs[i]=true
    ·simp[go_sem,L,N,r8,A,n,o,gd,w,U,y,-Int.natCast_add,w3];exact⟨vs.length-(i+1),o_,i+1,rfl,f,rfl,by simp[go_sem,G],by simp[go_sem,L,w],by simp[go_sem,M],by simp[go_sem,N],g_,by rw[<-I,y];simp⟩
    simp[go_sem,L,N,r8,A,n,o,gd,w,U,y];have y':kr (fm l k) vs[i]=false:=by simpa using y
    have e:mS (jI l k) (fm l k) l[k]=13:=by rw[K,if_pos (by rw[<-I,y'];rfl)]
    rw[e,if_pos d_]at c;exact fin _ _ 13 g_ (by rw[hv,<-c])
   have q1:i=vs.length:=o_;subst q1;rw[ae]at I;have e:mS (jI l k) (fm l k) l[k]=0:=by rw[K,if_neg (by rw[<-I];simp)]
   rw[e,if_neg s_]at c;simp[go_sem,G,L,M,N,r8,A,g,yN,z',ha,-Int.natCast_add,w2];exact⟨l.length-(k+1),o_,k+1,rfl,b,by simp[go_sem,G],g_,by simpa[go_sem]using ho,V,X,by rw[AF b,ny b];exact c⟩
  have e:mS (jI l k) (fm l k) l[k]=mF l[k]:=by rw[mS,if_pos z]
  rw[e,if_pos z]at c;simp[go_sem,g0,g4,B,s,g,Qy,c1,z];exact fin _ _ (mF l[k]) g_ (by rw[hv,<-c])
 have:k=l.length:=o_;subst this;rw[ae,kQ]at c;simp[go_sem,g0,g4,B];exact fin _ _ 0 g_ (by rw[hv,<-c])
theorem sK(l:List Dm) (x:Ext) (hs:∀d∈l,gy d) (hl:l.length<4000000) (h:H):ak C h (.func 34 []) (some [.isl (l.map dG) x])=some (.int .i64 (cD l),h):=aX (args':=[bB l]) rfl rfl s_ (P0 l hs hl)
def rj(k:Nat):List Dm->Int
 |[]=>-1
 |d::l=>if d.term.kind≠1 then k else rj (k+1) l
def gz(l:List Dm):Int:=rj 0 l
theorem vW:∀ {l:List Dm}{k:Nat},0<=rj k l->∃pre d post,l=pre++d::post/\rj k l=((k+pre.length:Nat):Int)/\d.term.kind≠1/\∀e∈pre,e.term.kind=1
 |[],k,h=>by rw[rj]at h;omega
 |d::l,k,h=>by
  rw[rj]at h ⊢;by_cases e:d.term.kind=1
  ·rw[if_neg (by simp[e])]at h ⊢;have⟨pre,x,post,h1,h2,h3,h4⟩:=vW h;refine⟨d::pre,x,post,by rw[h1];rfl,by rw[h2,aG];omega,h3,λy a=>?_⟩;rcases ao.1 a with rfl|a
   ·exact e
   exact h4 y a
  rw[if_pos e];exact⟨[],d,l,rfl,s_,e,s_⟩
def S5(l:List Dm) (m:Nat) (st:PT) (_h:H):Prop:=∃k:Nat,m=l.length-k/\k<=l.length/\st.get 0=bB l/\st.get 3=.int .i64 k/\rj k (l.drop k)=gz l
theorem CP(e:AV):bF C.P 39 (.iptr e 1) 0=some (.iptr e 1):=k_
theorem N7(l:List Dm) (hl:l.length<4000000):az C 131 [bB l]=some (.int .i64 (gz l)):=by
 refine ay func131 rfl λR hR=>?_
 have fin:∀(st:PT) (h:H) (e:Int),st.get 2=.int .i64 e->gz l=e->R .ret st h:=λst h e h2 he=>hR ⟨.int .i64 e,by simp[aY,cC,f131,h2],by rw[he];exact aK rfl rfl⟩
 have hln:=pJ l;simp[go_sem];refine bL (S5 l) l.length ⟨0,rfl,aN _,g_,g_,rfl⟩ ?_;rintro m st h ⟨k,rfl,hk,g0,g3,hd⟩;by_cases hlt:k<l.length
 ·have hlt':(k:Int)<l.length:=o_;have hix:=qS l k hlt;have w2:=wS k o_;have e0:=DC l[k];rw[aI hlt,rj]at hd;by_cases z:l[k].term.kind=1
  ·rw[if_neg (by simp[z])]at hd
   simp[go_sem,g0,g3,hln,hlt',hix,CP,e0,z,-Int.natCast_add,w2]
   exact⟨l.length-(k+1),by omega,k+1,rfl,hlt,by simp[go_sem,g0],by simp[go_sem],hd⟩
  rw[if_pos z]at hd;simp[go_sem,g0,g3,hln,hlt',hix,CP,e0,z];exact fin _ _ k g_ hd.symm
 have:k=l.length:=o_;subst this;rw[ae,rj]at hd
 simp[go_sem,g0,g3,hln]
 exact fin _ _ (-1) (by simp[go_sem]) hd.symm
theorem JO(l:List Dm) (x:Ext) (hl:l.length<4000000) (h:H):ak C h (.func 131 []) (some [.isl (l.map dG) x])=some (.int .i64 (gz l),h):=aX (args':=[bB l]) rfl rfl (by simp) (N7 l hl)
theorem Me(l:List Dm) (hl:l.length<4000000):az C 88 [bB l]=some (.bool (decide (gz l<0))):=by
 refine ay func88 rfl λR a=>?_
 have b:∀h,ak C h (.func 131 []) (some [bB l])=some (.int .i64 (gz l),h):=JO l .unk hl;simp[go_sem,b];refine a ⟨_,rfl,?_⟩;simp[go_sem];exact aK rfl rfl
theorem O5(l:List Dm) (x:Ext) (hl:l.length<4000000) (h:H):ak C h (.func 88 []) (some [.isl (l.map dG) x])=some (.bool (decide (gz l<0)),h):=aX (args':=[bB l]) rfl rfl s_ (Me l hl)
def DrS(s:Lq) (t:T):Prop:=Dr vL (λx=>x∈s) t
structure Marks (u s:Lq) (kn:List Bool):Prop where
 len:kn.length=u.length
 dr:∀t∈u,knT u kn t=true->DrS s t
def mq(kn:List Bool):Nat:=(kn.filter λb=>!b).length
theorem Ak:∀ {kn:List Bool}{i:Nat},kn[i]?=some false->mq (kn.set i true)+1=mq kn
 |[],i,h=>by simp at h
 |b::kn,0,h=>by simp at h;subst h;simp[mq]
 |b::kn,i+1,h=>by have:=Ak (kn:=kn) (i:=i) (by simpa using h);rw[List.set_cons_succ];cases b<;>simp[mq]at this ⊢<;>omega
theorem vz{kn:List Bool}{i:Nat}(h:kn[i]?=some true):kn.set i true=kn:=by
 apply cU;intro j;rw[dq];split
 ·rename_i e;subst e;have⟨a,b⟩:=aB.1 h;simp[a,b]
 rfl
theorem wN{u:Lq}{kn:List Bool}(hl:kn.length=u.length){t x:T}(ht:t∈u) (hx:x∈u):knT u (kn.set (ixU u t) true) x=(decide (x=t)||knT u kn x):=by
 have c:=tQ ht;unfold knT;rw[bK,bK,dq];by_cases e:x=t
 ·subst e;simp[hl,c]
 have:ixU u t≠ixU u x:=λq=>by have a:=DG ht;have b:=DG hx;rw[q,b]at a;simp only[aA]at a;exact e a
 rw[if_neg this];simp[e]
theorem DF{u:Lq}{kn:List Bool}(hl:kn.length=u.length){t:T}(ht:t∈u):kn[ixU u t]?=some (knT u kn t):=by have a:=tQ ht;unfold knT;rw[bK,aC o_];rfl
theorem Marks.set{u s:Lq}{kn:List Bool}(m:Marks u s kn){t:T}(ht:t∈u) (hd:DrS s t):Marks u s (kn.set (ixU u t) true):=
 ⟨by simp[m.len],λx a h=>by
  rw[wN m.len ht a]at h;simp only[bo,decide_eq_true_eq]at h;rcases h with rfl|h
  ·exact hd
  exact m.dr x a h⟩
def xT(u:Lq) (kn:List Bool) (t:T):Prop:=(knT u kn t=false->sW t=false/\pR u kn t=false)/\(knT u kn t=true->∀v∈jD u kn t,knT u kn v=true)
theorem Iw{u:Lq}{kn:List Bool}(hl:kn.length=u.length){t:T}(h:knT u kn t=true):t∈u:=by
 by_cases a:t∈u
 ·exact a
 exfalso;have:ixU u t=u.length:=List.findIdx_eq_length.2 λx b=>by simp only[decide_eq_false_iff_not];intro e;rw[cmp_zero.1 e]at b;exact a b
 unfold knT at h;rw[bK,cK o_]at h;simp at h
theorem O9{u s:Lq}{kn:List Bool}(m:Marks u s kn){t:T}(h:pR u kn t=true):DrS s t:=by simp only[pR,am,bI]at h;exact .bld h.1 λk a=>m.dr k (Iw m.len (h.2 k a)) (h.2 k a)
theorem Bz{u s:Lq}{kn:List Bool}(m:Marks u s kn){t v:T}(ht:t∈u) (hk:knT u kn t=true) (h:v∈jD u kn t):DrS s v:=
 M8 h (m.dr t ht hk) λk hk=>m.dr k (Iw m.len hk) hk
theorem Ke{u s:Lq}{kn:List Bool}(m:Marks u s kn) (hn:u.Nodup) (hu:∀t∈u,∀k∈t.kids,k∈u) (hs:∀t∈s,t∈u/\knT u kn t=true) (hc:∀t∈u,xT u kn t){t:T}(ht:t∈u):knT u kn t=true↔DrS s t:=by refine⟨m.dr t ht,λh=>?_⟩;refine(uP hn m.len ht).2 (Kk hu (λx a=>(uP hn m.len (hs x a).1).1 (hs x a).2) (λx a=>Hm hn m.len hu a (hc x a).1 (hc x a).2) h ht)
def tP(u:Lq) (t:T):Int:=match rf t with
 |some k=>ixU u k
 |none=>-1
def kD(u:Lq) (t:T):AV:=.agg [.isl (t.kids.map λk=>.int .i64 (ixU u k)) .unk,.int .i64 (tP u t)]
def KG(u:Lq):AV:=.isl (u.map (kD u)) .unk
theorem qi{ins:T × T->Lb->Lb}:∀ {n m:Nat}{ps s:Lb}{r:Lb × Int},n<=m->kB ins n ps s=some r->kB ins m ps s=some r
 |_,_,[],s,r,_,h=>by simpa[kB]using h
 |0,_,p::ps,s,r,_,h=>by simp[kB]at h
 |n+1,m,(a,b)::ps,s,r,hm,h=>by
  obtain⟨m,rfl⟩:∃k,m=k+1:=⟨m-1,o_⟩
  have hm:n<=m:=o_;rw[kB]at h ⊢;split at h
  ·rename_i e;rw[if_pos e];exact qi hm h
  rename_i e;rw[if_neg e];split at h
  ·rename_i c;rw[if_pos c];exact qi hm h
  rename_i c;rw[if_neg c];split at h
  ·exact h
  split at h
  ·rename_i d;rw[if_pos d];exact qi hm h
  rename_i d;rw[if_neg d];exact h
open Classical in
noncomputable def GY(ps:Lb):Lb × Int:=if h:∃n r,kB kI n ps []=some r then Classical.choose (Classical.choose_spec h)else([],0)
theorem Jy{n:Nat}{ps:Lb}{r:Lb × Int}(h:kB kI n ps []=some r):GY ps=r:=by
 have c:∃n r,kB kI n ps []=some r:=⟨n,r,h⟩
 unfold GY;rw[dif_pos c];have d:=Classical.choose_spec (Classical.choose_spec c);have a:=qi (fN n (Classical.choose c)) h;have b:=qi (ey n (Classical.choose c)) d;rw[a]at b;exact(Option.some.inj b).symm
noncomputable def fv(t u:T):Lb × Int:=if bh t≠0 then([],bh t)else if bh u≠0 then([],bh u)else GY [(t,u)]
structure UniOk (s:Lb):Prop where
 val:∀b∈s,bh b.1=0/\bh b.2=0/\b.1.kind=1
 dup:(s.map (·.1)).Nodup
 len:s.length<=800
theorem zp{t u:T}(ht:bh t=0) (hu:bh u=0):az C 296 [binds [(t,u)]]=some (.tuple [binds (fv t u).1,.int .i64 (fv t u).2])/\((fv t u).2=0->UniOk (fv t u).1) /\
  (∀bad,nf bad t->nf bad u->(fv t u).2=0->∀b∈(fv t u).1,nf bad b.2)/\∃U K n rE,InvU U K [(t,u)] []/\kB Q5 n [(t,u)] []=some (rE,(fv t u).2)/\rE.Perm (fv t u).1/\xy (fv t u).1:=by
 have m:∀x∈[t],bh x=0:=by simpa using ht
 have o:∀x∈[u],bh x=0:=by simpa using hu
 have p:∀x∈[t]++[u],bh x=0:=λx q=>(ac.1 q).elim (m x) (o x)
 have j:=Jh p;have f:=HE m o;rw[show [t].zip [u]=[(t,u)]from rfl]at f;have⟨n,⟨rE,e⟩,k⟩:=aBG _ _ _ _ f (aR _) (aR _);have⟨i,a,g,r⟩:=wA n _ _ _ rE e (.refl _) .nil k;have v:=Mf (varsU ([t]++[u])) ([t].length+400*(varsU ([t]++[u])).length) (by simp at j ⊢;omega) (by simp at j ⊢;omega) n _ i e f a;have w:fv t u=(i,e):=by unfold fv;rw[if_neg (by simp[ht]),if_neg (by simp[hu]),Jy a]
 rw[w];refine⟨v,λl=>?_,λbad y z l b d=>?_,_,_,n,rE,f,k,g,r⟩
 ·dsimp only at l;subst l;rcases zD n _ _ rE f k with e|e
  ·subst e;have:i=[]:=by simpa using g.length_eq.symm
   subst this;exact⟨s_,s_,s_⟩
  refine⟨λb d=>?_,?_,?_⟩
  ·have d:=g.mem_iff.2 d;exact⟨(e.bval b d).1,(e.bval b d).2,(e.gone b d).1⟩
  ·refine(g.map _).nodup_iff.1 ?_;rw[List.Nodup,gk];exact e.diff
  have:=e.slen;rw[<-g.length_eq];simp at j this ⊢;omega
 exact Cp (λb s c h=>(ac.1 ((mH b s).mem_iff.1 h)).elim .inr λh=>.inl (by simpa using h)) n [(t,u)] [] i e (by simpa using⟨y,z⟩) s_ a b d
end Go.VZ
