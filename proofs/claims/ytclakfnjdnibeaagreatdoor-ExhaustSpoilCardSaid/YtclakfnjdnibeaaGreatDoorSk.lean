/- A part of the proof. -/
import Derived.Test.YtclakfnjdnibeaaGreatDoorSj
set_option maxHeartbeats 32000000
set_option maxRecDepth 16000
namespace Go.VZ
open Go Go.V Go.Proofs Tryz TL
def jA(ns:List Nz) (i:Int):List Nz × Int:=if i<0\/(ns.length:Int)<=i then([],7)else match ns[i.toNat]? with
 |some x=>if x.kids.length=0 then([],8)else(gx ns i.toNat,0)
 |none=>([],7)
def EP(r:List Nz × Int):AV:=.tuple [.agg [bi r.1],.int .i64 r.2]
theorem Cj(l:List Nz):gn 3 (l.map eZ)=true:=by cases l<;>rfl
theorem aBL:hG C.P 63=some 72:=k_
theorem PO{h:H}{v:AV}{xs ys:List Nz}{x:Ext}(o:OwnR 63 h v (xs.map eZ)) (hl:xs.length+ys.length<=10000000000) :
  ∃v' h',bu C.P false h 29 v (.isl (ys.map eZ) x)=some (v',h')/\OwnR 63 h' v' ((xs++ys).map eZ)/\Keep h h' (bv v)/\(bv v'=bv v\/bv v=none/\bv v'=some h.length):=by
 have:=jG (x:=x) u29 s63 aBL z63 rfl o (Cj xs) (Cj ys) (by simp only[aU];omega);rwa[<-br]at this
theorem Ft(h:H) (d:List Dm) (s:Lb) (k:List Int) (x y z:Ext):cI C.P h 29 1 [(0,.agg [.isl (d.map dG) x,.isl (s.map bS) y,.isl (bP k) z])]=some (.isl [eZ ⟨d,s,k⟩] .full,h):=cG u29 s63 z63 rfl o_ rfl rfl rfl (by simp) rfl
theorem PH(a b c:LA) (x y z:Ext):fK C.P 63 [(0,.isl a x),(1,.isl b y),(2,.isl c z)]=some (.agg [.isl a x,.isl b y,.isl c z]):=k_
theorem xw:fK C.P 31 []=some (.agg [.isl [] .full]):=k_
theorem EJ(l:List Int) (x:Ext) (hl:l.length≠0):∃y,fP C.P 53 (.isl (bP l) x) none (some (.int .i64 ((l.length:Int)-1))) none=some (.isl (bP l.dropLast) y):=by
 have a:(1:Int)<=l.length:=o_;have b:(l.length:Int)-1<=l.length:=o_;have c:¬l.length-1=l.length:=o_;have d:=nE l;have f:(bP l).length=l.length:=by simp[bP]
 have e:(bP l).take (l.length-1)=bP l.dropLast:=by simp[bP,List.dropLast_eq_take]
 simp[fP,u53,s3,mb,qy,a,b,c,d,f,e]
theorem rF(ns:List Nz) (i:Nat):(gx ns i).length=ns.length:=by simp[gx]
theorem GW(ns:List Nz) (i k:Nat) (hk:k<ns.length):(gx ns i)[k]'(by rw[rF];exact hk)=if i=k then⟨ns[k].dem,ns[k].bind,ns[k].kids.dropLast⟩else ns[k]:=by simp only[gx,List.getElem_modify]
theorem oO(v:AV) (h:H) (i:Nat) (a:AV):stM C.P 31 (.agg [v]) 0 h i (some (.cells [a] .live))=some (pt h i (.cells [v] .live)):=sq s31 h i _ _ rfl rfl
def ZO(ns:List Nz) (i:Nat) (m:Nat) (st:PT) (h:H):Prop:=∃(k:Nat) (v:AV),m=ns.length-k/\k<=ns.length/\st.get 1=.int .i64 i/\st.get 4=.ptr 1 0/\st.get 6=.ptr 2 0/\st.get 30=.isl (ns.map eZ) .unk/\st.get 31=.int .i64 ns.length/\st.get 32=.int .i64 k /\
 h[1]?=some (.cells [.isl [] .full] .live)/\h[2]?=some (.cells [v] .live)/\OwnR 63 h v (((gx ns i).take k).map eZ)
theorem QH(ns:List Nz) (i:Int) (hok:∀n∈ns,OkZ n) (hkl:∀n∈ns,n.kids.length<=100000) (hn:ns.length<1000000):az C 20 [.agg [bi ns],.int .i64 i]=some (EP (jA ns i)):=by
 refine ay func20 rfl λR hR=>?_
 have fin:∀(N:PT) (h:H) (r:List Nz) (x:Ext) (e:Int),h[1]?=some (.cells [.isl (r.map eZ) x] .live)->N.get 4=.ptr 1 0->N.get 5=.int .i64 e->jA ns i=(r,e)->R .ret N h:=λN h r x e hm h4 h5 he=>by have q5:=gh (.isl (r.map eZ) x);exact hR ⟨.tuple [.agg [.isl (r.map eZ) x],.int .i64 e],by simp[aY,dx,cC,f20,go_sem,h4,h5,G hm,q5],by rw[he];exact dF rfl rfl s_⟩
 by_cases O:i<0
 ·simp +contextual [go_sem,bi,iD,uf,aV,dU,O,xw,oO];exact fin _ _ [] .full 7 s_ g_ g_ (by rw[jA,if_pos (.inl O)])
 by_cases q2:(ns.length:Int)<=i
 ·simp +contextual [go_sem,bi,iD,uf,aV,dU,O,q2,xw,oO];exact fin _ _ [] .full 7 s_ g_ g_ (by rw[jA,if_pos (.inr q2)])
 obtain⟨i,rfl⟩:=fW (show 0<=i by omega);have D:i<ns.length:=o_;have d:=qR ns i D .unk;have K:=rY ns[i].kids .unk;have hS:jA ns i=if ns[i].kids.length=0 then([],8)else(gx ns i,0):=by rw[jA,if_neg o_,fE,aC D]
 by_cases L:ns[i].kids.length=0
 ·have Q:ns[i].kids=[]:=bt L;rw[L]at K;rw[if_pos L]at hS;simp +contextual [go_sem,bi,iD,uf,aV,dU,O,q2,d,K,xw,oO];exact fin _ _ [] .full 8 s_ g_ g_ hS
 rw[if_neg L]at hS;have Q:¬ns[i].kids=[]:=λe=>L (by rw[e];rfl)
 simp +contextual [go_sem,bi,iD,uf,aV,dU,O,q2,d,K,Q];clear K d;refine bL (ZO ns i) ns.length ⟨0,.isl [] .full,rfl,aN _,g_,g_,g_,g_,g_,g_,by simp[aV],by simp[aV],.inl rfl⟩ ?_;rintro m N h ⟨k,v,rfl,hk,g1,g4,t,S,E,f,m1,m2,w⟩;by_cases b:k<ns.length
 ·have z:(k:Int)<ns.length:=o_;have w2:=wS k o_;have d:=qR ns k b .unk;have hx:=hok _ (aF b);have q6:=hkl _ (aF b);have q7:=GW ns i k b;have q8:=rF ns i;have g:=aJ (l:=gx ns i) (i:=k) (by rw[q8];exact b);rw[q7]at g;have q9:i=k->ns[k].kids.length≠0:=λe=>by subst e;exact L
  generalize z5:ns[k]=x at *;have c3:=Dh x.dem .unk hx.dsm hx.dlen;have c4:=Di x.bind .unk hx.sm hx.len;have⟨v9,A,c9,o9,U,j,z6⟩:=Ll x.kids .unk (h++[.cells (nz x) .live]) q6;obtain⟨x9,rfl⟩:=o9.isl;have hl:2<h.length:=(aB.1 m2).1;simp only[aL,aG,aQ]at U j;have V:A[1]?=some (.cells [.isl [] .full] .live):=by rw[j 1 o_];exact ga m1
  have F:A[2]?=some (.cells [v] .live):=by rw[j 2 o_];exact ga m2
  have u:A[h.length]?=some (.cells (nz x) .live):=by rw[j h.length o_];simp
  have X:∀a,bv v=some a->a<h.length/\a≠2:=λa p=>⟨OwnR.id_lt w p,λe=>by subst e;exact cM w m2 p⟩
  have I:OwnR 63 A v (((gx ns i).take k).map eZ):=(OwnR.app w [.cells (nz x) .live]).keep (x:=none) ⟨by simpa using U,λa p _=>j a (by simpa using p)⟩ (λ_ _ e=>by cases e);have Y:∀(n:Nz),(gx ns i).take (k+1)=(gx ns i).take k++[n]->∃c s,bu C.P false A 29 v (.isl [eZ n] .full)=some (c,s)/\cL C.P s 29 (.ptr 2 0) c=some (s.set 2 (.cells [c] .live)) /\
    (s.set 2 (.cells [c] .live))[1]?=some (.cells [.isl [] .full] .live)/\(s.set 2 (.cells [c] .live))[2]?=some (.cells [c] .live)/\OwnR 63 (s.set 2 (.cells [c] .live)) c (((gx ns i).take (k+1)).map eZ):=λn z'=>by
   have⟨c,s,p,ho,Z,z0⟩:=PO (ys:=[n]) (x:=.full) I (by simp only[ag,aG,aQ];omega);rw[<-z']at ho;have n1:bv v≠some 1:=cM I V;have M:bv v≠some 2:=cM I F;have q':=Z.get V n1;have B:=Z.get F M;have z1:=(aB.1 B).1;refine⟨c,s,p,?_,?_,?_,?_⟩
   ·obtain⟨x,rfl⟩:=ho.isl;simp[cL,B,s29]
   ·rw[aE o_];exact q'
   ·rw[aH z1]
   exact ho.keep (Keep.set _ _ _) (λa D e=>by
    simp only[aA]at e;subst e;rcases z0 with q|⟨_,q⟩
    ·rw[q]at D;exact M D
    rw[q]at D;simp only[aA]at D;omega)
  have lv:aW C.P A 29 (.ptr 2 0)=some v:=by obtain⟨x,rfl⟩:=w.isl;simp[aW,F,aZ,a29,s29]
  have lz:∀o,(o=0->aW C.P A 22 (.ptr h.length 0)=some (.isl (x.dem.map dG) .unk))/\(o=1->aW C.P A 45 (.ptr h.length 1)=some (.isl (x.bind.map bS) .unk)):=λo=>⟨λ_=>by simp[aW,u,aZ,a22,s22,nz,bB],λ_=>by simp[aW,u,aZ,a45,s45,nz,binds]⟩
  have z7:=(lz 0).1 rfl;have z8:=(lz 1).2 rfl;have q0:gt (h++[VObj.cells (nz x) .live]) h.length=some (.cells (nz x) .live):=by simp[gt]
  by_cases q4:i=k
  ·subst q4;rw[if_pos rfl]at g;have⟨y,z2⟩:=EJ x.kids x9 (q9 rfl);have⟨c,s,p,J,n1,M,no⟩:=Y _ g;have K:=rY x.kids x9;have w4:IntKind.i64.wrap ((x.kids.length:Int)-1)=(x.kids.length:Int)-1:=av o_;have bl:=λh=>Ft h x.dem x.bind x.kids.dropLast .unk .unk y
   simp[go_sem,g1,S,E,f,z,d,wv,aV,q0,c9,K,w4,z2];refine gS 12 _ (by simp[gM]) rfl ?_;simp[go_sem,t,lv,G u,c3,c4,bB,binds,PH,bl,p,J,f,-Int.natCast_add,w2];refine⟨?_,ns.length-(i+1),o_,i+1,c,rfl,b,g_,g_,g_,g_,g_,g_,n1,M,no⟩;rcases w with rfl|⟨id,rfl,hd⟩
   ·simp[go_sem,ij,iK,iO,kW,fL,ce]
   have:=X id rfl;simp[go_sem,ij,iK,iO,kW,fL,ce]
   (try omega)
  rw[if_neg q4]at g;have z3:¬(k:Int)=i:=o_;have⟨c,s,p,J,n1,M,no⟩:=Y _ g;have bl:=λh=>Ft h x.dem x.bind x.kids .unk .unk x9
  have ex:(⟨x.dem,x.bind,x.kids⟩:Nz)=x:=rfl;rw[ex]at bl;simp[go_sem,g1,S,E,f,z,d,wv,aV,q0,c9,z3];refine gS 12 _ (by simp[gM]) rfl ?_;simp[go_sem,t,lv,G u,c3,c4,bB,binds,PH,bl,p,J,f,-Int.natCast_add,w2];refine⟨?_,ns.length-(k+1),o_,k+1,c,rfl,b,g_,g_,g_,g_,g_,g_,n1,M,no⟩;rcases w with rfl|⟨id,rfl,hd⟩
  ·simp[go_sem,ij,iK,iO,kW,fL,ce]
  have:=X id rfl;simp[go_sem,ij,iK,iO,kW,fL,ce]
  (try omega)
 have:k=ns.length:=o_;subst this;rw[<-rF ns i,ah]at w;obtain⟨x,rfl⟩:=w.isl;have z4:=(aB.1 m1).1;simp[go_sem,g4,t,E,f,G m1,G m2,gh,oO];refine fin _ _ (gx ns i) x 0 ?_ g_ g_ hS;rw[pt,aH z4]
def ZD(a b:List Int) (m:Nat) (st:PT) (h:H):Prop:=∃k:Nat,m=a.length-k/\k<=a.length/\h=[]/\st.get 0=.isl (bP a) .unk/\st.get 1=.isl (bP b) .unk/\st.get 5=.int .i64 k/\a.take k=b.take k
theorem UG(a b:List Int) (hal:a.length<4000000):az C 54 [.isl (bP a) .unk,.isl (bP b) .unk]=some (.bool (decide (a=b))):=by
 refine ay func54 rfl λR v=>?_
 have fin:∀(o:PT) (h:H) (c:Bool),o.get 4=.bool c->decide (a=b)=c->R .ret o h:=λo h c w x=>v ⟨.bool c,by simp[aY,cC,f54,w],by rw[x];exact aK rfl rfl⟩
 have l:=rY a .unk;have s:=rY b .unk;by_cases t:a.length=b.length
 ·have i:(a.length:Int)=b.length:=o_;simp[go_sem,l,s,i];refine bL (ZD a b) a.length ⟨0,rfl,aN _,rfl,g_,g_,g_,rfl⟩ ?_;rintro m o h ⟨k,rfl,A,rfl,p,u,q,r⟩;by_cases j:k<a.length
  ·have d:(k:Int)<a.length:=o_;have f:k<b.length:=o_;have n:=AT a k j .unk;have g:=AT b k f .unk;have y:=wS k o_;by_cases z:a[k]=b[k]
   ·simp[go_sem,p,u,q,l,d,n,g,DE,z,-Int.natCast_add,y];refine⟨a.length-(k+1),o_,k+1,rfl,j,rfl,g_,g_,g_,?_⟩;rw[aJ j,aJ f,r,z]
   simp[go_sem,p,u,q,l,d,n,g,DE,z];exact fin _ _ false g_ (decide_eq_false λe=>z (by simp only[e]))
  have:k=a.length:=o_;subst this;simp[go_sem,p,q,l];rw[ah,t,ah]at r;exact fin _ _ true g_ (decide_eq_true r)
 have i:¬(a.length:Int)=b.length:=o_;simp[go_sem,l,s,i];exact fin _ _ false g_ (decide_eq_false λe=>t (by rw[e]))
theorem Hv(a b:List Int) (x y:Ext) (hal:a.length<4000000) (h:H):ak C h (.func 54 []) (some [.isl (bP a) x,.isl (bP b) y])=some (.bool (decide (a=b)),h):=aX (args':=[.isl (bP a) .unk,.isl (bP b) .unk]) rfl rfl s_ (UG a b hal)
def ZM(a b:List Nz) (m:Nat) (st:PT) (h:H):Prop:=∃k:Nat,m=a.length-k/\k<=a.length/\st.get 2=.ptr 0 0/\st.get 3=.ptr 1 0/\st.get 5=.int .i64 k/\h[0]?=some (.cells [bi a] .live)/\h[1]?=some (.cells [bi b] .live)
theorem UH(a:List Nz) (ha:∀n∈a,OkZ n) (hl:a.length<1000000):az C 22 [.agg [bi a],.agg [bi a]]=some (.bool true):=by
 refine ay func22 rfl λR s=>?_
 simp[go_sem,bi,iD,dU];refine bL (ZM a a) a.length ⟨0,rfl,aN _,g_,g_,g_,rfl,rfl⟩ ?_;rintro m v h ⟨k,rfl,w,o,t,p,e,f⟩;by_cases b:k<a.length
 ·have d:(k:Int)<a.length:=o_;have u:=wS k o_;have i:=qR a k b .unk;have c:=ha _ (aF b);generalize a[k]=x at *;have q:=Hv x.kids x.kids .unk .unk c.kl;have r:=xn x.bind x.bind .unk .unk c.sm c.sm c.len;have c3:=xm x.dem x.dem .unk .unk c.dsm c.dsm c.dlen;simp only[decide_true]at q r c3;have j:=λg=>G (ga (g:=g) e)
  have l:=λg=>G (ga (g:=g) f)
  simp +contextual [go_sem,o,t,p,G e,l,dU,bi,d,i,wv,q,r,c3,binds,bB,-Int.natCast_add,u];exact⟨a.length-(k+1),o_,k+1,rfl,b,g_,g_,g_,ga e,ga f⟩
 have:k=a.length:=o_;subst this;simp[go_sem,o,p,G e,dU,bi];exact s ⟨.bool true,by simp[aY,cC,f22,go_sem],aK rfl rfl⟩
theorem Hw(a:List Nz) (x y:Ext) (ha:∀n∈a,OkZ n) (hl:a.length<1000000) (h:H):ak C h (.func 22 []) (some [.agg [.isl (a.map eZ) x],.agg [.isl (a.map eZ) y]])=some (.bool true,h):=aX (args':=[.agg [bi a],.agg [bi a]]) rfl rfl s_ (UH a ha hl)
def ndZ(n:Nz × Ext):LA:=[bB n.1.dem,binds n.1.bind,.isl (bP n.1.kids) n.2]
def jV(l:List (Nz × Ext)):LA:=l.flatMap ndZ
theorem vd(l:List (Nz × Ext)):(jV l).length=3*l.length:=by
 induction l with
 |nil=>rfl
 |cons a l b=>simp only[jV,cF,aL,aG]at b ⊢;rw[b];simp[ndZ];omega
theorem FG:∀l:List (Nz × Ext),qD (jV l)=some (jV (l.map λn=>(n.1,.unk)))
 |[]=>rfl
 |a::l=>by have:=FG l;simp only[jV,cF,aS,ndZ,cP,bk]at this ⊢;simp only[qD,Hd,this,bB,binds]
theorem FQ:∀l:List (Nz × Ext),io 3 l.length (jV (l.map λn=>(n.1,.unk)))=(l.map Prod.fst).map eZ
 |[]=>rfl
 |a::l=>by have:=FQ l;simp only[jV,cF,aS,ndZ,cP,bk,aG]at this ⊢;simp only[io,dh,fo,dl,dO,this,eZ]
theorem QJ{h:H}{id:Nat}{l:List (Nz × Ext)}(hid:h[id]?=some (.cells (jV l) .live)) (hl:l.length<=100000) (e:Int):fc (bj h) dD (.tuple [.agg [.msl id 0 3 l.length none],.int .i64 e])=some (EP (l.map Prod.fst,e)):=by
 have c:=vd l;have a:=vd (l.map λn=>(n.1,.unk));rw[aU]at a;obtain⟨m,b⟩:∃m,dD=m+6:=⟨999994,rfl⟩
 have d:m=999994:=by unfold dD at b;omega
 have⟨f,_⟩:=jq (h:=bj h) (FG l) m o_;have g:(bj h)[id]?=some (.cells (jV l) .frozen):=pM h id hid;rw[b];simp only[fc,gE,g,f];rw[if_pos o_,dO,FQ];rfl
theorem On(ns:List Nz):(ns.map eZ).flatMap AV.cells=jV (ns.map λn=>(n,.unk)):=by
 induction ns with
 |nil=>rfl
 |cons a l b=>simp only[aS,cF,b,jV];rfl
theorem Ls(h:H):cI C.P h 29 0 []=some (.isl [] .full,h):=cG u29 s63 z63 rfl o_ rfl rfl rfl s_ rfl
theorem VU(h:H) (ns:List Nz) (x:Ext) (h0:ns.length≠0) (hl:ns.length<=100000):bu C.P true h 29 (.isl [] .full) (.isl (ns.map eZ) x)=some (.msl h.length 0 3 ns.length none,h++[.cells (jV (ns.map λn=>(n,.unk))) .live]):=by
 have a:qM h 3 (.isl (ns.map eZ) x)=some (jV (ns.map λn=>(n,.unk)),ns.length):=by simp only[qM,Cj,if_true,On,aU]
 simp only[bu,mX,du,if_false,aw,fM,u29,s63,b63,z63,a];simp[gn,h0];rw[if_pos o_]
theorem U2{id n k:Nat}(hk:k<n):bH C.P 29 (.msl id 0 3 n none) (.int .i64 k)=some (.ptr id (3*k)):=by simp[bH,u29,s63,hk,lD]
theorem Hp(l:List (Nz × Ext)) (k:Nat) (hk:k<l.length) (ks:List Int) (x:Ext):(jV l).set (3*k+2) (.isl (bP ks) x)=jV (l.modify k λn=>(⟨n.1.dem,n.1.bind,ks⟩,x)):=by
 induction l generalizing k with
 |nil=>simp at hk
 |cons a l b=>
  cases k with
  |zero=>simp[jV,ndZ]
  |succ k=>have:=b k (by simpa using hk);rw[show 3*(k+1)+2=(3*k+2)+3 by omega];simp only[jV,cF,List.modify_succ_cons]at this ⊢;rw[<-this];simp[ndZ]
theorem QG(ns:List Nz) (i:Int) (hn:ns.length<=100000) (hkl:∀n∈ns,n.kids.length<=100000):az C 21 [.agg [bi ns],.int .i64 i]=some (EP (jA ns i)):=by
 refine ay func21 rfl λR J=>?_
 have w:∀(p:PT) (h:H) (e:Int),h[1]?=some (.cells [.isl [] .full] .live)->p.get 4=.ptr 1 0->p.get 5=.int .i64 e->jA ns i=([],e)->R .ret p h:=λp h e N O Q S=>by have z:=gh (.isl [] .full);exact J ⟨.tuple [.agg [.isl [] .full],.int .i64 e],by simp[aY,dx,cC,f21,go_sem,O,Q,G N,z],by rw[S];exact dF rfl rfl s_⟩
 by_cases f:i<0
 ·simp +contextual [go_sem,bi,iD,uf,aV,dU,f,xw,oO];exact w _ _ 7 s_ g_ g_ (by rw[jA,if_pos (.inl f)])
 by_cases r:(ns.length:Int)<=i
 ·simp +contextual [go_sem,bi,iD,uf,aV,dU,f,r,xw,oO];exact w _ _ 7 s_ g_ g_ (by rw[jA,if_pos (.inr r)])
 obtain⟨i,rfl⟩:=fW (show 0<=i by omega);have g:i<ns.length:=o_;have d:=qR ns i g .unk;have s:=rY ns[i].kids .unk;have t:jA ns i=if ns[i].kids.length=0 then([],8)else(gx ns i,0):=by rw[jA,if_neg o_,fE,aC g]
 by_cases k:ns[i].kids.length=0
 ·rw[k]at s;rw[if_pos k]at t;simp +contextual [go_sem,bi,iD,uf,aV,dU,f,r,d,s,xw,oO];exact w _ _ 8 s_ g_ g_ t
 rw[if_neg k]at t;have U:=hkl _ (aF g);have A:¬ns[i].kids=[]:=λe=>k (by rw[e];rfl)
 have B:ns.length≠0:=o_;have V:=λh=>VU h ns .unk B hn
 have X:IntKind.i64.wrap ((ns[i].kids.length:Int)-1)=(ns[i].kids.length:Int)-1:=av o_;have⟨y,D⟩:=EJ ns[i].kids .unk k;have Y:=λid=>U2 (id:=id) g
 have Z:∀id n,fK C.P 31 [(0,.msl id 0 3 n none)]=some (.agg [.msl id 0 3 n none]):=λid n=>k_
 have nt:∀id n,bf (.msl id 0 3 n none)=true:=λ_ _=>rfl
 simp +contextual [go_sem,bi,iD,uf,aV,dU,f,r,d,s,A,oO,Ls,V,Z,nt];have q':∀(c:List VObj),c.length=4->c.length=4:=λ_ h=>h
 have⟨v',E,K,ho,b,_⟩:=A6 (h:=[.cells [.isl (ns.map eZ) .unk] .live,.cells [.isl [] .full] .live,.cells (jV (ns.map λn=>(n,.unk))) .live,.cells [.msl 2 0 3 ns.length none] .live]) (v:=.isl [] .full) (xs:=[]) (ys:=ns[i].kids.dropLast) (x:=y) (.inl rfl) (by simp;omega);obtain⟨u,rfl⟩:=ho.isl;have k0:=b.get (j:=0) rfl (by simp[bv]);have L:=b.get (j:=1) rfl (by simp[bv]);have M:=b.get (j:=2) rfl (by simp[bv]);have k3:=b.get (j:=3) rfl (by simp[bv]);refine gS 7 _ (by simp[gM]) rfl ?_;have F:=(aB.1 M).1;have l:stM C.P 53 (.isl (bP ns[i].kids.dropLast) u) (3*i+2) E 2 (some (.cells (jV (ns.map λn=>(n,.unk))) .live))=some (pt E 2 (.cells (jV ((ns.map λn=>(n,Ext.unk)).modify i λn=>(⟨n.1.dem,n.1.bind,ns[i].kids.dropLast⟩,u))) .live)):=by rw[sr s53 E 2 (3*i+2) _ _ rfl (by rw[vd,aU];omega),Hp _ _ (by rw[aU];exact g)]
 have fa:=I8 2 (3*i);simp only[bk]at K l;simp[go_sem,dU,d,xr,X,D,K,Y,fa,G L,G M,G k3,l,gh,oO];have I:=(aB.1 L).1;have m:((ns.map λn=>(n,Ext.unk)).modify i λn=>((⟨n.1.dem,n.1.bind,ns[i].kids.dropLast⟩:Nz),u)).map Prod.fst=gx ns i:=by
  apply cU;intro j;simp only[gx,ba,iw];cases e:ns[j]? with
  |none=>rfl
  |some a=>
   by_cases q:i=j
   ·subst q;have:ns[i]=a:=(aB.1 e).2;simp[this]
   simp[q]
 have o:((ns.map λn=>(n,Ext.unk)).modify i λn=>((⟨n.1.dem,n.1.bind,ns[i].kids.dropLast⟩:Nz),u)).length=ns.length:=s_;refine⟨?_,J ⟨.tuple [.agg [.msl 2 0 3 ns.length none],.int .i64 0],?_,?_⟩⟩
 ·simp[go_sem,ij,iK,iO,kW,fL,ce]
 ·simp[aY,dx,cC,f21,go_sem,gh,I]
 rw[t,<-m,<-o];refine QJ ?_ (by rw[o];exact hn) 0;rw[pt,aE o_,pt,aH F]
theorem FZ(ns:List Nz) (x:Ext) (i:Int) (hn:ns.length<=100000) (hkl:∀n∈ns,n.kids.length<=100000) (h:H):ak C h (.func 21 []) (some [.agg [.isl (ns.map eZ) x],.int .i64 i])=some (EP (jA ns i),h):=aX (args':=[.agg [bi ns],.int .i64 i]) rfl rfl s_ (QG ns i hn hkl)
theorem Fb(ns:List Nz) (x:Ext) (i:Int) (hok:∀n∈ns,OkZ n) (hkl:∀n∈ns,n.kids.length<=100000) (hn:ns.length<1000000) (h:H):ak C h (.func 20 []) (some [.agg [.isl (ns.map eZ) x],.int .i64 i])=some (EP (jA ns i),h):=aX (args':=[.agg [bi ns],.int .i64 i]) rfl rfl s_ (QH ns i hok hkl hn)
theorem GS:az C 248 []=some EE:=Mp (m:=100) k_
theorem R9(h:H):ak C h (.func 248 []) (some [])=some (.isl (syms.map iX) .unk,h):=aX rfl rfl s_ GS
def syC(s:Sy):LA:=[.str s.name,.int .i64 s.least,.int .i64 s.most,.int .i64 s.kind]
def sy0:Sy:=⟨⟨#[]⟩,0,0,0⟩
def rD(n:ByteArray):Sy:=(sP n).getD sy0
theorem Uw(s:Sy) (h:H):aW C.P h 181 (.iptr (iX s) 0)=some (iX s):=by have:(iX s).cells=syC s:=rfl;simp[aW,aZ,Vr,Mn,this];exact⟨by simp[syC],rfl⟩
theorem Wt:iH C.P 181=some (.agg (syC sy0)):=k_
theorem Tw(s u:Sy) (h:H) (i:Nat):stM C.P 181 (iX s) 0 h i (some (.cells (syC u) .live))=some (pt h i (.cells (syC s) .live)):=sq Mn h i _ _ rfl rfl
theorem Uk(s:Sy):ldM C.P 181 0 (some (.cells (syC s) .live))=some (iX s):=by simp[ldM,aZ,Vr,Mn,syC,iX]
theorem Qu(s:Sy):ldM C.P 9 0 (some (.cells (syC s) .live))=some (.str s.name):=by simp[ldM,aZ,a9,s9,syC]
theorem Qt(s:Sy):ldM C.P 3 1 (some (.cells (syC s) .live))=some (.int .i64 s.least):=by simp[ldM,aZ,a3,s3,syC]
theorem Qs(s:Sy):ldM C.P 3 2 (some (.cells (syC s) .live))=some (.int .i64 s.most):=by simp[ldM,aZ,a3,s3,syC]
theorem Qr(s:Sy):ldM C.P 3 3 (some (.cells (syC s) .live))=some (.int .i64 s.kind):=by simp[ldM,aZ,a3,s3,syC]
theorem OG(i:Nat):bF C.P 181 (.ptr i 0) 0=some (.ptr i 0):=k_
theorem OF(i:Nat):bF C.P 181 (.ptr i 0) 1=some (.ptr i 1):=k_
theorem OE(i:Nat):bF C.P 181 (.ptr i 0) 2=some (.ptr i 2):=k_
theorem OD(i:Nat):bF C.P 181 (.ptr i 0) 3=some (.ptr i 3):=k_
theorem QC(s:Sy):(AV.agg (syC s)).cells=syC s:=rfl
attribute [go_sem] Uw Wt Tw Uk Qu Qt Qs Qr OG OF OE OD QC
def ZQ(n:ByteArray) (l:List Sy) (m:Nat) (st:PT) (h:H):Prop:=∃k:Nat,m=l.length-k/\k<=l.length/\st.get 0=.str n/\st.get 2=.ptr 0 0/\st.get 5=.isl (l.map iX) .unk/\st.get 6=.int .i64 l.length/\st.get 7=.int .i64 k/\h[0]?=some (.cells (syC sy0) .live)/\(l.drop k).find? (λs=>decide (s.name=n))=l.find? λs=>decide (s.name=n)
theorem Jq(n:ByteArray):az C 196 [.str n]=some (iX (rD n)):=by
 refine ay func196 rfl λR w=>?_
 have fin:∀(f:PT) (h:H) (s:Sy),f.get 2=.ptr 0 0->h[0]?=some (.cells (syC s) .live)->rD n=s->R .ret f h:=λf h s x y z=>w ⟨iX s,by simp[aY,cC,f196,go_sem,x,G y],by rw[z];exact aK rfl rfl⟩
 have A:=R9;have r:rD n=((syms.find? λs=>decide (s.name=n))).getD sy0:=rfl;generalize B:syms=l at *;have t:l.length=21:=by rw[<-B];rfl
 have D:=G4 l .unk;simp[go_sem,A,D];refine bL (ZQ n l) l.length ⟨0,rfl,aN _,g_,g_,g_,g_,g_,rfl,rfl⟩ ?_;rintro m f h ⟨k,rfl,J,u,j,v,o,p,d,b⟩;by_cases c:k<l.length
 ·have a:(k:Int)<l.length:=o_;have e:=HG l k c .unk;have E:=wS k o_;have F:=(aB.1 d).1;rw[aI c,List.find?_cons]at b;generalize l[k]=s at *;have q:=λg=>G (ga (g:=g) d)
  by_cases i:s.name=n
  ·rw[decide_eq_true i]at b;simp[go_sem,u,j,v,o,p,a,e,i,q,eM];refine fin _ _ s g_ (by rw[pt,aH s_]) ?_;rw[r,<-b];rfl
  rw[decide_eq_false i]at b;simp[go_sem,u,v,o,p,a,e,i,eM,-Int.natCast_add,E];exact⟨l.length-(k+1),o_,k+1,rfl,c,g_,g_,g_,g_,g_,ga d,b⟩
 have:k=l.length:=o_;subst this;rw[ae]at b;have I:fK C.P 181 []=some (iX sy0):=k_;simp[go_sem,j,o,p,I,G d];refine fin _ _ sy0 g_ ?_ (by rw[r,<-b];rfl);rw[pt,aH (aB.1 d).1]
theorem JL(n:ByteArray) (h:H):ak C h (.func 196 []) (some [.str n])=some (iX (rD n),h):=aX (args':=[.str n]) rfl rfl s_ (Jq n)
theorem Bh(n:ByteArray):(rD n).kind=oT n:=by unfold rD oT;cases sP n<;>rfl
def IL(t:T) (m:Nat) (st:PT) (_h:H):Prop:=∃k:Nat,m=t.kids.length-k/\k<=t.kids.length/\st.get 62=aM t.kids/\st.get 63=.int .i64 t.kids.length/\st.get 64=.int .i64 k
def V9(t:T) (m:Nat) (st:PT) (h:H):Prop:=∃k:Nat,m=t.kids.length-k/\k<=t.kids.length/\st.get 1=.ptr 0 0/\st.get 38=aM t.kids/\st.get 39=.int .i64 t.kids.length/\st.get 40=.int .i64 k/\h[0]?=some (.cells (enc t).cells .live)
theorem aAT:oT nSk=2:=k_
theorem XD:oT Gy=2:=k_
theorem XQ:oT vP=2:=k_
theorem XR:(rD vP).least=1:=k_
theorem RH{t:T}(h:mJ t=true):(rD t.name).least<=(t.kids.length:Int)/\(t.kids.length:Int)<=(rD t.name).most:=by
 unfold mJ at h;unfold rD;cases e:sP t.name with
 |none=>rw[e]at h;cases h
 |some s=>rw[e]at h;simp only[am,decide_eq_true_eq]at h;exact h
theorem Ol(t:T) (hn:gK t=0) (hs:t.size<4000000) (hc:t.kind=3->∀k∈t.kids,az C 193 [enc k]=some (.int .i64 0)):az C 193 [enc t]=some (.int .i64 0):=by
 refine ay func193 rfl λR hR=>?_
 have fin:∀(r:PT) (h:H),r.get 2=.int .i64 0->R .ret r h:=λr h D=>hR ⟨.int .i64 0,by simp[aY,cC,f193,D],aK rfl rfl⟩
 have q':=size_kids t;have Y:=len_sizes t.kids;by_cases l:t.kind=3
 rotate_left
 ·simp[go_sem,jt,rZ,l];exact fin _ _ g_
 rw[uK,if_neg (by simpa using l)]at hn;have Z:oT t.name≠0:=λe=>by rw[if_pos e]at hn;cases hn
 rw[if_neg Z]at hn;have h3:mJ t=true:=by
  cases e:mJ t with
  |true=>rfl
  |false=>rw[e,if_pos rfl]at hn;cases hn
 rw[if_neg (by simp[h3])]at hn;have D:oT t.name=2->lZ t=true:=λe=>by
  cases K:lZ t with
  |true=>rfl
  |false=>rw[if_pos ⟨e,K⟩]at hn;cases hn
 have⟨l1,l2⟩:=RH h3;have E:=JL t.name;have n:=Bh t.name;have F:¬(rD t.name).kind=0:=by rw[n];exact Z
 have w:t.name=vP->(rD t.name).least=1:=λe=>by rw[e];exact XR
 generalize rD t.name=s at *;have i:¬(t.kids.length:Int)<s.least:=o_;have j:¬s.most<(t.kids.length:Int):=o_;have e1:nSk=⟨#[115,107]⟩:=rfl;have K:Gy=⟨#[115,104,107]⟩:=rfl;have e3:vP=⟨#[110,101,119]⟩:=rfl;have d:((t.name=nSk\/t.name=Gy)/\∀k∈t.kids,k.kind≠3/\k.sort=1)\/(t.name=vP/\¬t.name=nSk/\¬t.name=Gy/\∃h:0<t.kids.length,t.kids[0].kind=2)\/(¬t.name=nSk/\¬t.name=Gy/\¬t.name=vP):=by
  by_cases a:t.name=vP
  ·refine .inr (.inl ⟨a,by rw[a];decide,by rw[a];decide,?_⟩);have hl:=w a;have I:0<t.kids.length:=o_;have:=D (by rw[a];exact XQ);unfold lZ at this;rw[if_pos a,aC I]at this;exact⟨I,by simpa using this⟩
  by_cases b:t.name=nSk\/t.name=Gy
  ·have:=D (by rcases b with b|b<;>rw[b];exact aAT;exact XD);unfold lZ at this;rw[if_neg a]at this;exact .inl ⟨b,λk n=>by simpa using bI.1 this k n⟩
  exact .inr (.inr ⟨λe=>b (.inl e),λe=>b (.inr e),a⟩)
 rw[e1,K,e3]at d;have u:∀k:Nat,k<t.kids.length->IntKind.i64.wrap ((k:Int)+1)=((k+1:Nat):Int):=λk n=>by rw[av o_];omega
 rcases d with⟨v,L⟩|⟨hB,M,N,I,O⟩|⟨Q,S,U⟩
 focus
  have hq:(t.name=⟨#[115,107]⟩)=True\/(t.name=⟨#[115,107]⟩)=False/\(t.name=⟨#[115,104,107]⟩)=True:=by
   rcases v with v|v
   ·exact .inl (eq_true v)
   exact .inr ⟨eq_false (by rw[v];decide),eq_true v⟩
  rcases hq with V|⟨V,q2⟩
  focus
   simp +contextual [go_sem,jt,rZ,vT,tM,l,E,F,i,j,eM,V]
  rotate_left
  focus
   simp +contextual [go_sem,jt,rZ,vT,tM,l,E,F,i,j,eM,V,q2]
  all_goals
   refine bL (V9 t) t.kids.length ⟨0,rfl,aN _,g_,g_,g_,g_,rfl⟩ ?_;rintro m r h ⟨k,rfl,n,g1,y,o,p,J⟩;by_cases c:k<t.kids.length
   ·have f:(k:Int)<t.kids.length:=o_;have q:=eJ t.kids k c;have u:=u k c;have⟨p1,p2⟩:=L _ (aF c);generalize t.kids[k]=x at *;have q0:=λg=>G (ga (g:=g) J)
    simp +contextual [go_sem,y,o,p,f,q,lE,aV,xG,rZ,G5,p1,p2,-Int.natCast_add,u];exact⟨t.kids.length-(k+1),o_,k+1,rfl,c,g_,g_,g_,g_,ga J⟩
   have:k=t.kids.length:=o_;subst this;simp[go_sem,g1,o,p,G J,tM];refine bL (IL t) t.kids.length ⟨0,rfl,aN _,g_,g_,g_⟩ ?_;clear g1 y o p J n;clear r h
 rotate_left 2
 focus
  have z:bH C.P 37 (aM t.kids) (.int .i64 0)=some (.iptr (enc t.kids[0]) 0):=by simpa using eJ t.kids 0 I
  simp +contextual [go_sem,jt,rZ,vT,tM,l,E,F,i,j,eM,eq_true hB,M,N,z,O];refine bL (IL t) t.kids.length ⟨0,rfl,aN _,g_,g_,g_⟩ ?_
 rotate_left
 focus
  simp +contextual [go_sem,jt,rZ,vT,tM,l,E,F,i,j,eM,Q,S,U];refine bL (IL t) t.kids.length ⟨0,rfl,aN _,g_,g_,g_⟩ ?_
 all_goals
  rintro m r h ⟨k,rfl,n,X,A,B⟩;by_cases c:k<t.kids.length
  ·have f:(k:Int)<t.kids.length:=o_;have q:=eJ t.kids k c;have u:=u k c;have ck:∀h,ak C h (.func 193 []) (some [enc t.kids[k]])=some (.int .i64 0,h):=λh=>aX (cg _) (by simp[aq]) s_ (hc l _ (aF c))
   simp[go_sem,X,A,B,f,q,lE,aV,xG,tN,ck,-Int.natCast_add,u];exact⟨t.kids.length-(k+1),o_,k+1,rfl,c,g_,g_,g_⟩
  have:k=t.kids.length:=o_;subst this;simp[go_sem,A,B];exact fin _ _ g_
theorem wI:∀ {l:Lq},jN l=0->∀k∈l,gK k=0
 |[],_,k,hk=>by cases hk
 |a::l,h,k,hk=>by
  rw[jN]at h;have⟨h1,h2⟩:=thn_zero.1 h;rcases ao.1 hk with rfl|hk
  ·exact h1
  exact wI h2 k hk
theorem Ea{t:T}(hn:gK t=0) (h3:t.kind=3):∀k∈t.kids,gK k=0:=by
 rw[uK,if_neg (by simpa using h3)]at hn;split at hn
 ·cases hn
 split at hn
 ·cases hn
 split at hn
 ·cases hn
 exact wI hn
theorem Dd:∀t:T,gK t=0->t.size<4000000->az C 193 [enc t]=some (.int .i64 0):=by refine T.ind λt c b d=>Ol t b d λe k a=>c k a (Ea b e k a) (by have:=kid_size a;omega)
theorem ML(t:T) (hv:dy t=0) (hs:t.size<4000000):az C 138 [enc t]=some (.int .i64 0):=by
 refine ay func138 rfl λR b=>?_
 have⟨c,d⟩:=je hv;have a:=Du t hs;rw[c]at a;have e:∀h,ak C h (.func 193 []) (some [enc t])=some (.int .i64 0,h):=λh=>aX (cg _) (by simp[aq]) s_ (Dd t d hs)
 simp[go_sem,jt,tN,a,e];exact b ⟨.int .i64 0,by simp[aY,cC,f138,go_sem],aK rfl rfl⟩
theorem wi(t:T) (hv:dy t=0) (hs:t.size<4000000) (h:H):ak C h (.func 138 []) (some [enc t])=some (.int .i64 0,h):=aX (cg _) (by simp[aq]) s_ (ML t hv hs)
theorem U7(a b c d:AV):Ab C.P 181 (.agg [a,b,c,d]) 3=some d:=k_
theorem RD(n:ByteArray) (h:gZ n=false):az C 195 [.str n]=some (.bool true):=by
 refine ay func195 rfl λR k=>?_
 simp only[gZ,D4,gb,decide_eq_false_iff_not]at h;have⟨⟨⟨⟨⟨⟨a,b⟩,c⟩,d⟩,f⟩,g⟩,i⟩:=h;have j:=JL n;have l:=Bh n;rw[<-l]at i;unfold Qd at a;unfold B4 at b;unfold Qg at c;unfold Qe at d;unfold Qf at f;unfold KX at g;have e:iX (rD n)=.agg [.str (rD n).name,.int .i64 (rD n).least,.int .i64 (rD n).most,.int .i64 (rD n).kind]:=rfl;rw[e]at j;generalize rD n=s at *;simp[go_sem,eM,a,b,c,d,f,g,j,U7,i];exact k ⟨.bool true,by simp[aY,cC,f195,go_sem],aK rfl rfl⟩
def Tf(t:T) (m:Nat) (st:PT) (_h:H):Prop:=∃k:Nat,m=t.kids.length-k/\k<=t.kids.length/\st.get 1=.func 195 []/\st.get 18=aM t.kids/\st.get 19=.int .i64 t.kids.length/\st.get 20=.int .i64 k
theorem OH(t:T) (hs:t.size<4000000) (hp:t.kind=3->gZ t.name=false) (hc:∀k∈t.kids,az C 194 [enc k,.func 195 []]=some (.bool true)):az C 194 [enc t,.func 195 []]=some (.bool true):=by
 refine ay func194 rfl λR l=>?_
 have n:=size_kids t;have j:=len_sizes t.kids;have f:t.kind=3->∀h,ak C h (.func 195 []) (some [.str t.name])=some (.bool true,h):=λb h=>aX (args':=[.str t.name]) rfl rfl s_ (RD _ (hp b))
 by_cases b:t.kind=3
 focus
  have f:=f b;simp +contextual [go_sem,jt,rZ,vT,tM,b,f];refine bL (Tf t) t.kids.length ⟨0,rfl,aN _,g_,g_,g_,g_⟩ ?_
 rotate_left
 focus
  simp +contextual [go_sem,jt,rZ,vT,tM,b];refine bL (Tf t) t.kids.length ⟨0,rfl,aN _,g_,g_,g_,g_⟩ ?_
 all_goals
  clear f;rintro m r h ⟨k,rfl,s,o,g,c,d⟩;by_cases a:k<t.kids.length
  ·have e:(k:Int)<t.kids.length:=o_;have i:=eJ t.kids k a;have p:=wS k o_;have q:∀h,ak C h (.func 194 []) (some [enc t.kids[k],.func 195 []])=some (.bool true,h):=λh=>aX (args':=[enc t.kids[k],.func 195 []]) (by rw[bE];rfl) (by simp[aq];rfl) s_ (hc _ (aF a))
   simp[go_sem,o,g,c,d,e,i,lE,aV,xG,tN,q,-Int.natCast_add,p];exact⟨t.kids.length-(k+1),o_,k+1,rfl,a,g_,g_,g_,g_⟩
  have:k=t.kids.length:=o_;subst this;simp[go_sem,c,d];exact l ⟨.bool true,by simp[aY,cC,f194,go_sem],aK rfl rfl⟩
theorem DU:∀t:T,t.size<4000000->nf gZ t->az C 194 [enc t,.func 195 []]=some (.bool true):=by refine T.ind λt c d b=>OH t d (b t (fT t)) λk a=>c k a (by have:=kid_size a;omega) λy e=>b y (mem_walk.2 (.inr ⟨k,a,e⟩))
theorem RF(t:T) (hv:dy t=0) (hn:nf gZ t) (hs:t.size<4000000):az C 139 [enc t]=some (.bool true):=by
 refine ay func139 rfl λR a=>?_
 have b:=wi t hv hs;have c:∀h,ak C h (.func 194 []) (some [enc t,.func 195 []])=some (.bool true,h):=λh=>aX (args':=[enc t,.func 195 []]) (by rw[bE];rfl) (by simp[aq];rfl) s_ (DU t hs hn)
 simp +contextual [go_sem,jt,tN,b,c];exact a ⟨.bool true,by simp[aY,cC,f139,go_sem],aK rfl rfl⟩
theorem Fg(t:T) (hv:dy t=0) (hn:nf gZ t) (hs:t.size<4000000) (h:H):ak C h (.func 139 []) (some [enc t])=some (.bool true,h):=aX (cg _) (by simp[aq]) s_ (RF t hv hn hs)
def L0(t:T):Bool:=decide (t.sort=1)||decide (t.sort=5)
theorem Va(t:T) (h:H):ak C h (.func 140 []) (some [enc t])=some (.bool (L0 t),h):=by
 refine aX (cg _) (by simp[aq]) s_ ?_;refine ay func140 rfl λR a=>?_
 simp +contextual [go_sem,jt,G5];exact a ⟨.bool (L0 t),by simp[aY,cC,f140,go_sem,L0],aK rfl rfl⟩
theorem QM(t:T) (hs:t.size<4000000) (h:H):ak C h (.func 141 []) (some [enc t])=some (.int .i64 t.size,h):=aX (cg _) (by simp[aq]) s_ (po t hs)
theorem Lk(l:Lq) (x:Ext) (g:FuncId) (p:T->Bool) (hl:l.length<4000000) (hp:∀k∈l,∀h,ak C h (.func g []) (some [enc k])=some (.bool (p k),h)) (h:H):ak C h (.func 93 []) (some [.isl (l.map enc) x,.func g []])=some (.bool (l.any p),h):=aX (args':=[aM l,.func g []]) rfl rfl s_ (qE l g [] p hl hp)
theorem QQ(t:T) (hr:eS t=0):az C 92 [enc t]=some (.int .i64 0):=by
 refine ay func92 rfl λR d=>?_
 have⟨b,e,f,n⟩:=iI hr;have g:=wi t b o_;have i:=Fg t b f o_;have c3:=H8 t o_;rw[Cf]at c3;have c:=Lk (ez t) .unk 140 L0 (by have:=nB t;omega) λk _ h=>Va k h
 have j:(ez t).any L0=false:=by rw[List.any_eq_false];intro v l;have:=e v l;simp[L0,this.1,this.2]
 rw[j]at c;have m:=QM t o_;have a:¬(60:Int)<t.size:=o_;simp +contextual [go_sem,jt,tN,g,i,c3,aM,c,m,a];exact d ⟨.int .i64 0,by simp[aY,cC,f92,go_sem],aK rfl rfl⟩
theorem Fc(t:T) (hr:eS t=0) (h:H):ak C h (.func 92 []) (some [enc t])=some (.int .i64 0,h):=aX (cg _) (by simp[aq]) s_ (QQ t hr)
theorem VY(x t:T) (hx:x.size<4000000) (ht:t.size<4000000) (h:H):ak C h (.func 143 [.iptr (.agg (enc x).cells) 0]) (some [enc t])=some (.bool (decide (x.cmp t=0)),h):=by
 refine sG k_ rfl (l':=[enc t,.iptr (.agg (enc x).cells) 0]) (by rw[bE,au];rfl) (by simp[aq];rfl) s_ ?_ h;refine ay func143 rfl λR a=>?_
 have b:=zU x t hx ht;simp[go_sem,jt,tN,Xl,b];exact a ⟨.bool (decide (x.cmp t=0)),by simp[aY,cC,f143,go_sem],aK rfl rfl⟩
theorem Xu(l:Lq) (t:T) (hl:∀y∈l,y.size<4000000) (hn:l.length<4000000) (ht:t.size<4000000):az C 95 [aM l,enc t]=some (.bool (kr l t)):=by
 refine ay func95 rfl λR c=>?_
 have d:(l.any λk=>decide (t.cmp k=0))=kr l t:=by
  unfold kr;congr 1
  funext k
  congr 1
  rw[cmp_zero,cmp_zero];exact propext ⟨Eq.symm,Eq.symm⟩
 have a:ak C [.cells (enc t).cells .live] (.func 93 []) (some [aM l,.func 143 [.ptr 0 0]])=some (.bool (l.any λk=>decide (t.cmp k=0)),[.cells (enc t).cells .live]):=by refine CU (l:=[(0,(enc t).cells)]) k_ rfl (a':=aM l) rfl rfl ?_ s_ (qE l 143 [.iptr (.agg (enc t).cells) 0] (λk=>decide (t.cmp k=0)) hn λk e h=>VY t k ht (hl k e) h) rfl;intro p b;simp only[bJ]at b;subst b;refine⟨rfl,by rw[au];rfl,by rw[au];rfl,by rw[au];simp⟩
 simp only[aM]at a;simp[go_sem,jt,aM,a];exact c ⟨.bool (l.any λk=>decide (t.cmp k=0)),by simp[aY,cC,f95,go_sem],by rw[d];exact aK rfl rfl⟩
theorem CV(l:Lq) (x:Ext) (t:T) (hl:∀y∈l,y.size<4000000) (hn:l.length<4000000) (ht:t.size<4000000) (h:H):ak C h (.func 95 []) (some [.isl (l.map enc) x,enc t])=some (.bool (kr l t),h):=aX (args':=[aM l,enc t]) (by rw[bE];rfl) (by simp[aq];rfl) s_ (Xu l t hl hn ht)
theorem Oi(a:T) (l:Lq) (hl:(a::l).length<=20000):Go.V.Call C 137 [aM (a::l)] []=some (.msl 0 0 4 (a::l).length none,[.cells (bQ (a::l)) .live]):=by
 refine WB rfl func137 rfl k_ (by simp[f137]) λR c=>?_
 have b:=sh (a::l);have d:iN C.P .eql 37 (.tmp 3) (.const (.slice none 0 0)) (aM (a::l)) (.isl [] .full)=some (.bool false):=by simp[iN,aM,fH,cw,rR,zj,CH,Q4,u23,xi]
 have e:cI C.P [] 37 0 []=some (.isl [] .full,[]):=cG u23 s25 z25 rfl o_ rfl rfl rfl s_ rfl;have f:bu C.P true [] 37 (.isl [] .full) (aM (a::l))=some (.msl 0 0 4 (a::l).length none,[.cells (bQ (a::l)) .live]):=by
  have g:qM [] 4 (.isl ((a::l).map enc) .unk)=some (bQ (a::l),(a::l).length):=by simp only[qM,b,if_true,bQ,List.flatMap_map,aU]
  simp only[bu,mX,du,if_false,aw,fM,u23,s25,b25,z25,aM,g];have h:0<(a::l).length:=s_;generalize (a::l).length=m at hl h;have i:¬m=0:=o_;have j:m*57<=35184372088832:=o_;simp[gn,i,j]
 simp[go_sem,kC,d,e,f];refine c _ _ _ (.inr rfl) ⟨.msl 0 0 4 (a::l).length none,by simp[aY,cC,f137,go_sem],rfl⟩
theorem O7(x:Ext) (h:H):ak C h (.func 137 []) (some [.isl [] x])=some (.isl [] .full,h):=by
 have b:=(eo (h:=h) (l:=[.isl [] x]) (l':=[.isl [] .unk]) rfl rfl dD (by simp[dD]))
 have a:eE C.P 137=true:=k_;simp only[ak,a,if_true,bm];unfold dM;rw[show C.mode 137=.ownM from rfl];dsimp only;rw[b.2];simp only[Go.V.freeze,b.1];have c:C.prim 137 [.isl [] .unk] []=some (.isl [] .full,[]):=by simp[C,prim,mD,cloneIds]
 have d:Go.V.Call C 137 [.isl [] .unk] []=some (.isl [] .full,[]):=oo (C:=C) (fn:=f137) func137 c;rw[d];rfl
theorem O8(a:T) (l:Lq) (x:Ext) (h:H) (hl:(a::l).length<=20000):ak C h (.func 137 []) (some [.isl ((a::l).map enc) x])=some (.msl h.length 0 4 (a::l).length none,h++[.cells (bQ (a::l)) .live]):=by have b:=eR (a::l);exact Hr k_ rfl (args':=[aM (a::l)]) rfl rfl s_ (Oi a l hl) rfl (td _) (rI _) o_ o_
theorem Yf(h:H) (x:T):bu C.P true h 37 (.isl [] .full) (.isl [enc x] .full)=some (.msl h.length 0 4 1 none,h++[.cells (bQ [x]) .live]):=by
 have a:qM h 4 (.isl [enc x] .full)=some (bQ [x],1):=by simp[qM,gn,au,bQ]
 simp only[bu,mX,du,if_false,aw,fM,u23,s25,b25,z25,a];simp[gn]
theorem Ye{h:H}{id:Nat}{l:Lq}(x:T) (hid:h[id]?=some (.cells (bQ l) .live)) (hl:l.length<100000000):bu C.P true h 37 (.msl id 0 4 l.length none) (.isl [enc x] .full)=some (.msl h.length 0 4 (l.length+1) none,h.set id (.cells (bQ l) .dead)++[.cells (bQ (l++[x])) .live]):=by
 have a:qM h 4 (.isl [enc x] .full)=some (bQ [x],1):=by simp[qM,gn,au,bQ]
 have b:=eR l;have e:bQ (l++[x])=bQ l++bQ [x]:=by simp[bQ]
 simp only[bu,mX,du,if_false,aw,fM,u23,s25,b25,z25,a,hid];rw[if_neg s_,if_neg s_,if_pos ⟨trivial,trivial,o_,o_⟩,cq o_,e]
theorem Xf{h:H}{d:Dm}(h0:h[0]?=some (.cells (dc d) .live)):aW C.P h 37 (.ptr 0 0)=some (aM d.knows):=by simp[aW,h0,aZ,a23,s23,dc]
theorem TK{h:H}{d:Dm}(h0:h[0]?=some (.cells (dc d) .live)):aW C.P h 39 (.ptr 0 1)=some (enc d.term):=by simp[aW,h0,aZ,a25,s25,dc];rw[bE]
theorem P8(d:Dm) (hk:d.knows.length<=20000):az C 91 [dG d]=some (aM (d.knows++[d.term])):=by
 refine ay func91 rfl λR D=>?_
 obtain⟨c,n⟩:∃g,g=[VObj.cells (dc d) .live]:=⟨_,rfl⟩
 have G:c[0]?=some (.cells (dc d) .live):=by rw[n];rfl
 have q:c.length=1:=by rw[n];rfl
 simp[go_sem,Fu];rw[<-n];clear n;refine ue 1 _ (by rw[gM];decide) k_ ?_;show MX C 91 _ c.length _ 0 _ _ _ _;generalize r:c++List.replicate _ VObj.void=H0;have j:Pl c H0 8:=r▸Pl.mk' _ 8;have E:=j.len;clear r;have v:=j.get G;refine bc (.ptr 0 0) rfl rfl (j.isV (i:=0) d_) (by simp[opN,go_sem,HT]) (zH o_) ?_;refine eF (.ptr 0 0) (aM d.knows) g_ (Xf v) (ig o_) (j.isV (i:=1) d_) rfl ?_;have⟨e,x⟩:=d;dsimp only at *;cases e with
 |nil=>
  refine GF (args:=[.tmp 4]) [aM []] (.isl [] .full) k_ (.inr rfl) g_ rfl (O7 .unk H0) (j.isV (i:=2) d_) ?_;refine bc (.ptr 0 1) rfl rfl (j.isV (i:=3) d_) (by simp[opN,go_sem,HS]) (zH o_) ?_;refine eF (.ptr 0 1) (enc x) g_ (TK v) (ig o_) (j.isV (i:=4) d_) (fR _ _ _) ?_;refine pV (parts:=[(0,.tmp 7)]) [(0,enc x)] (.isl [enc x] .full) (xL g_ (fi _)) (by rw[bE];rfl) (dp _ _) (j.isV (i:=5) d_) ?_;have o:c.length+6<H0.length:=o_;refine nS (.isl [] .full) (.isl [enc x] .full) _ _ (H0.set (c.length+6) (VObj.mv H0.length (c.length+6) (.cells (bQ [x]) .live))) (by simp[go_sem];rfl) (by simp[go_sem];rfl) (by rw[wrC];exact Yf H0 x) s_ rfl (j.isV (i:=6) d_) (tY o) ?_;rw[show(AV.msl H0.length 0 4 1 none).mv H0.length (c.length+6)=.msl (c.length+6) 0 4 1 none by simp[AV.mv],uN];refine bc (.msl (c.length+6) 0 4 1 none) rfl rfl (by rw[aE o_];exact j.isV (i:=7) d_) (by simp[opN,go_sem]) (by simp[AV.mv];omega) ?_;refine⟨?_,?_⟩
  ·unfold ri;generalize o:Region.before _=b;simp[nH,rW,ce,iV,List.range,List.range.loop,q]
  simp[go_sem];refine D ⟨.msl (c.length+6) 0 4 1 none,by simp[aY,cC,f91,go_sem],?_⟩;exact zr (l:=[x]) (.inr ⟨_,rfl,aH o⟩) 999999 (by rw[eR];simp)
 |cons a e=>
  have I:=eR (a::e);refine Pm (args:=[.tmp 4]) [aM (a::e)] (.msl H0.length 0 4 (a::e).length none) (.cells (bQ (a::e)) .live) k_ (.inr rfl) g_ rfl (O8 a e .unk H0 hk) (j.isV (i:=2) d_) ?_;rw[show(AV.msl H0.length 0 4 (a::e).length none).mv H0.length (c.length+2)=.msl (c.length+2) 0 4 (a::e).length none by simp[AV.mv],uN];obtain⟨k,f⟩:∃g,g=H0.set (c.length+2) (.cells (bQ (a::e)) .live):=⟨_,rfl⟩
  rw[<-f];have w:c.length+2<H0.length:=o_;have J:k[c.length+2]?=some (.cells (bQ (a::e)) .live):=by rw[f];exact aH w
  have K:k[0]?=some (.cells (dc ⟨a::e,x⟩) .live):=by rw[f,aE o_];exact v
  have s:∀i,2<i->i<8->dZ k[c.length+i]?=true:=λi S A=>by rw[f,aE o_];exact j.isV A
  have L:k.length=H0.length:=by rw[f];simp
  clear f;refine bc (.ptr 0 1) rfl rfl (s 3 d_ d_) (by simp[opN,go_sem,HS]) (zH o_) ?_;refine eF (.ptr 0 1) (enc x) g_ (TK K) (ig o_) (s 4 d_ d_) (fR _ _ _) ?_;refine pV (parts:=[(0,.tmp 7)]) [(0,enc x)] (.isl [enc x] .full) (xL g_ (fi _)) (by rw[bE];rfl) (dp _ _) (s 5 d_ d_) ?_;have o:c.length+6<k.length:=o_;have M:=Ye x J o_;have F:=E5 (p:=c.length+6) (id:=c.length+2) (h:=k) (z:=.cells (bQ (a::e)) .dead) (y:=.cells (bQ (a::e++[x])) .live) o o_;obtain⟨u,m⟩:∃g,g=(k.set (c.length+2) (VObj.mv k.length (c.length+6) (.cells (bQ (a::e)) .dead))).set (c.length+6) (VObj.mv k.length (c.length+6) (.cells (bQ (a::e++[x])) .live)):=⟨_,rfl⟩
  rw[<-m]at F;refine nS (.msl (c.length+2) 0 4 (a::e).length none) (.isl [enc x] .full) _ _ u g_ (by simp[go_sem];rfl) (by rw[wrC];exact M) s_ (by simp[ce,iV]) (s 6 d_ d_) (by simpa[ce,iV]using F) ?_;have N:u[c.length+6]?=some (.cells (bQ (a::e++[x])) .live):=by rw[m,aH (by simpa using o),uN]
  have O:dZ u[c.length+7]?=true:=by rw[m,aE o_,aE o_];exact s 7 d_ d_
  have Q:u.length=k.length:=by rw[m];simp
  clear m;rw[show(AV.msl k.length 0 4 ((a::e).length+1) none).mv k.length (c.length+6)=.msl (c.length+6) 0 4 ((a::e).length+1) none by simp[AV.mv]];refine bc (.msl (c.length+6) 0 4 ((a::e).length+1) none) rfl rfl O (by simp[opN,go_sem]) (by simp[AV.mv];omega) ?_;refine⟨?_,?_⟩
  ·unfold ri;generalize t:Region.before _=b;have B:(b.getD 6 0).testBit 2=true:=by rw[<-t];kernel_rfl
   clear t;simp[nH,rW,ce,iV,List.range,List.range.loop,q];simpa[bA]using B
  simp[go_sem];refine D ⟨.msl (c.length+6) 0 4 ((a::e).length+1) none,by simp[aY,cC,f91,go_sem],?_⟩;exact zr (l:=a::e++[x]) (.inr ⟨_,s_,N⟩) 999999 (by rw[eR];simp at hk ⊢;omega)
def wp(l:List Dm):Lq:=l.flatMap λe=>ez e.term
theorem Lx{l:List Dm}{k:Nat}(hk:k<l.length):wp (l.take (k+1))=wp (l.take k)++ez l[k].term:=by rw[aJ hk,wp,eP];simp[wp]
theorem Fv:∀ {l:List Dm},(∀d∈l,d.term.size<=60)->(wp l).length<=l.length*60
 |[],_=>by simp[wp]
 |a::l,h=>by
  have h1:=nB a.term;have c:=h a s_;have f:=Fv (l:=l) λd b=>h d (by simp[b])
  have e:wp (a::l)=ez a.term++wp l:=rfl;rw[e,aL,aG];omega
theorem sc:∀ {l:List Dm}{prev bound:Lq},kQ prev bound l=0->∀(k:Nat) (hk:k<l.length),∀v∈dv l[k].knows,v∈bound++wp (l.take k)
 |[],_,_,_,k,hk=>by simp at hk
 |a::l,prev,bound,h,k,hk=>by
  rw[kQ]at h;split at h
  ·rename_i e1;exact absurd h e1
  rename_i e1;have hs:=Bk (Decidable.not_not.1 e1);cases k with
  |zero=>intro v b;exact dN _ (hs.2.2 v b)
  |succ k=>intro v b;have:=sc h k (by simpa using hk) v b;rw[List.append_assoc]at this;exact this
theorem BC{l:List Dm}(h:cD l=0) (k:Nat) (hk:k<l.length):∀t∈l[k].knows,∀v∈ez t,v∈wp (l.take k):=λt a v b=>by
 unfold cD at h;split at h
 ·cases h
 exact sc h k hk v (by rw[dv,mem_setS];exact bR.2 ⟨t,a,b⟩)
theorem Cg{l:List Dm}(h:cD l=0) (k:Nat) (hk:k<l.length) (h0:0<k):∀t∈(l[k-1]' o_).knows,t∈l[k].knows:=by have:=(mO h).2 (l.take k) l[k] (l.drop (k+1)) (by rw[<-aI hk,fF]);exact this.2 _ (kh.2 ⟨k-1,by rw[ag];omega,by rw[List.getElem_take]⟩)
theorem FY(d:Dm) (hk:d.knows.length<=20000) (h:H):ak C h (.func 91 []) (some [dG d])=some (aM (d.knows++[d.term]),h):=aX (args':=[dG d]) rfl rfl s_ (P8 d hk)
theorem YM(d:Dm) (t:T) (hd:gy d) (ht:t.size<4000000) (h:H):ak C h (.func 94 [.iptr (.agg (dc d)) 0]) (some [enc t])=some (.bool (!kr d.knows t),h):=by
 refine sG k_ rfl (l':=[enc t,.iptr (.agg (dc d)) 0]) (by rw[bE];rfl) (by simp[aq];rfl) s_ ?_ h;refine ay func94 rfl λR a=>?_
 have b:=CV d.knows .unk t hd.1 hd.2.2 ht;have c:∀h,aW C.P h 37 (.iptr (.agg (dc d)) 0)=some (aM d.knows):=λh=>qr d h
 have f:∀e,bF C.P 41 (.iptr e 0) 0=some (.iptr e 0):=λe=>k_
 simp[go_sem,jt,tN,c,f,aM,b];exact a ⟨.bool (!kr d.knows t),by simp[aY,cC,f94,go_sem],aK rfl rfl⟩
theorem YL(l:Lq) (t:T) (hl:∀y∈l,y.size<4000000) (hn:l.length<4000000) (ht:t.size<4000000) (h:H):ak C h (.func 97 [.iptr (.agg [aM l]) 0]) (some [enc t])=some (.bool (!kr l t),h):=by
 refine sG k_ rfl (l':=[enc t,.iptr (.agg [aM l]) 0]) (by rw[bE];rfl) (by simp[aq];rfl) s_ ?_ h;refine ay func97 rfl λR a=>?_
 have b:=CV l .unk t hl hn ht;have c:∀h,aW C.P h 37 (.iptr (.agg [.isl (l.map enc) .unk]) 0)=some (.isl (l.map enc) .unk):=λh=>by simp[aW,aZ,a23,s23,aV]
 simp[go_sem,jt,tN,c,aM,b];exact a ⟨.bool (!kr l t),by simp[aY,cC,f97,go_sem],aK rfl rfl⟩
theorem Mj{h:H}{id:Nat}{bound:Lq}{x:Ext}(hid:h[id]?=some (.cells [.isl (bound.map enc) x] .live)) (l:Lq) (y:Ext) (g:FuncId) :
  cY h dD [.isl (l.map enc) y,.func g [.ptr id 0]]=[id]/\gE (Go.V.freeze h [id]) dD [.isl (l.map enc) y,.func g [.ptr id 0]]=some [aM l,.func g [.iptr (.agg [aM bound]) 0]]:=by
 obtain⟨m,a⟩:∃m,dD=m+9:=⟨999991,rfl⟩
 have b:(Go.V.freeze h [id])[id]?=some (.cells [.isl (bound.map enc) x] .frozen):=by rw[mI,hid];simp
 rw[a];constructor
 ·simp only[cY,iW,hid,bm,bk]
 simp only[gE,fc,b];rfl
theorem R3{h:H}{id:Nat}{bound:Lq}{v:AV}(hid:h[id]?=some (.cells [v] .live)) (ho:OwnR 39 h v (bound.map enc)) (hb:∀y∈bound,y.size<4000000) (hn:bound.length<4000000) (l:Lq) (hl:∀t∈l,t.size<4000000) (hll:l.length<4000000) (hm:∀t∈l,t∈bound) :
  ak C h (.func 93 []) (some [aM l,.func 97 [.ptr id 0]])=some (.bool false,h):=by
 obtain⟨x,rfl⟩:=ho.isl;have⟨a,b⟩:=Mj hid l .unk 97;have c:=qE l 97 [.iptr (.agg [aM bound]) 0] (λt=>!kr bound t) hll λk d h=>YL bound k hb hn (hl k d) h
 have e:(l.any λt=>!kr bound t)=false:=by rw[List.any_eq_false];intro t f;simp[memE_iff.2 (hm t f)]
 rw[e]at c;exact tn k_ rfl a b c rfl
theorem R4{h:H}{id:Nat}{d:Dm}(hid:h[id]?=some (.cells (dc d) .live)) (hd:gy d) (l:Lq) (hl:∀t∈l,t.size<4000000) (hll:l.length<4000000) (hm:∀t∈l,t∈d.knows) :
  ak C h (.func 93 []) (some [aM l,.func 94 [.ptr id 0]])=some (.bool false,h):=by
 have c:=qE l 94 [.iptr (.agg (dc d)) 0] (λt=>!kr d.knows t) hll λk b h=>YM d k hd (hl k b) h
 have e:(l.any λt=>!kr d.knows t)=false:=by rw[List.any_eq_false];intro t f;simp[memE_iff.2 (hm t f)]
 rw[e]at c;refine CU (l:=[(id,dc d)]) k_ rfl (a':=aM l) rfl rfl ?_ s_ c rfl;intro p a;simp only[bJ]at a;subst a;exact⟨hid,rfl,rfl,by simp[dc]⟩
theorem Uv(v:AV):ldM C.P 37 0 (some (.cells [v] .live))=some v:=by simp[ldM,aZ,a23,s23]
def FV(l:List Dm) (k i5:Nat) (d:Dm) (st:PT) (h:H) (v:AV):Prop:=st.get 0=bB l/\st.get 3=.ptr 0 0/\st.get 4=.int .i64 k/\st.get 5=.ptr i5 0/\st.get 14=bB l/\st.get 15=.int .i64 l.length/\st.get 16=.int .i64 k /\
 h[0]?=some (.cells [v] .live)/\h[i5]?=some (.cells (dc d) .live)/\OwnR 39 h v ((wp (l.take k)).map enc)
def NV0(l:List Dm) (m:Nat) (st:PT) (h:H):Prop:=∃(k:Nat) (v:AV),m=l.length-k/\k<=l.length/\st.get 0=bB l/\st.get 3=.ptr 0 0/\st.get 14=bB l/\st.get 15=.int .i64 l.length/\st.get 16=.int .i64 k/\h[0]?=some (.cells [v] .live)/\OwnR 39 h v ((wp (l.take k)).map enc)
def NV2(l:List Dm) (k i5:Nat) (d:Dm) (ts:Lq) (m:Nat) (st:PT) (h:H):Prop:=∃(j:Nat) (v:AV),m=ts.length-j/\j<=ts.length/\st.get 26=aM ts/\st.get 27=.int .i64 ts.length/\st.get 28=.int .i64 j/\FV l k i5 d st h v
def NV4(l:List Dm) (k i5:Nat) (d:Dm) (m:Nat) (st:PT) (h:H):Prop:=∃(j:Nat) (v:AV),m=d.knows.length-j/\j<=d.knows.length/\st.get 51=aM d.knows/\st.get 52=.int .i64 d.knows.length/\st.get 53=.int .i64 j/\FV l k i5 d st h v
theorem Pz(l:List Dm) (hv:cD l=0):az C 59 [bB l]=some (.int .i64 0):=by
 refine ay func59 rfl λR hR=>?_
 have fin:∀(I:PT) (h:H),I.get 2=.int .i64 0->R .ret I h:=λI h h4=>hR ⟨.int .i64 0,by simp[aY,cC,f59,h4],aK rfl rfl⟩
 have S:=tq hv;have ln:=pJ l;have q0:¬(40:Int)<l.length:=by have:=S.len;omega
 have J:∀d∈l,d.term.size<=60:=λd U=>S.size _ (nl U)
 simp[go_sem,ln,q0,Wq];refine bL (NV0 l) l.length ⟨0,.isl [] .full,rfl,aN _,g_,g_,g_,g_,g_,by simp[AV.cells],.inl rfl⟩ ?_;rintro m I h ⟨k,v,rfl,hk,s,r,f,c,b,i,n⟩;by_cases o:k<l.length
 rotate_left
 ·have:k=l.length:=o_;subst this;simp[go_sem,c,b];exact fin _ _ g_
 have V:(k:Int)<l.length:=o_;have q3:=qS l k o;have w2:=wS k o_;have⟨sd,kd⟩:=S.dem _ (aF o);have L:∀t∈l[k].knows++[l[k].term],eS t=0:=λt ht=>qI hv t (bR.2 ⟨_,aF o,ht⟩)
 have q4:=BC hv k o;have q5:=λh0=>Cg hv k o h0
 have q6:=Lx o;have q7:=Fv (l:=l.take k) λd U=>J d (bW U)
 rw[ag]at q7;have q8:∀y∈wp (l.take k),y.size<4000000:=λy hy=>by have⟨e,he,hy⟩:=bR.1 hy;have:=J e (bW he);exact mB o_ y hy
 have y2:k<=40:=by have:=S.len;omega
 generalize U:l[k]=d at *;have q9:=FY d o_;have q1:¬(40:Int)<d.knows.length:=o_;have z':=(aB.1 i).1;simp[go_sem,f,c,b,V,q3,Qy,MF,aV,MW,re,TN,q1,q9];refine bL (NV2 l k h.length d (d.knows++[d.term])) (d.knows++[d.term]).length ⟨0,v,rfl,aN _,g_,g_,g_,by simp[go_sem,s],by simp[go_sem,r],g_,g_,by simp[go_sem,f],by simp[go_sem,c],by simp[go_sem,b],ga i,s_,OwnR.app n _⟩ ?_;generalize M:d.knows++[d.term]=ts at *;have y':ts.length<=41:=by rw[<-M];simp;omega
 generalize h.length=i5;clear s r f c b i n z';clear h v I;rintro m2 I h ⟨j,v,rfl,hj,X,D,E,s,r,K,u,f,c,b,i,w,n⟩;by_cases p:j<ts.length
 ·have z:(j:Int)<ts.length:=o_;have A:=eJ ts j p;have w3:=wS j o_;have z0:=Fc ts[j] (L _ (aF p));simp[go_sem,X,D,E,z,A,lE,aV,xG,tN,z0,-Int.natCast_add,w3];exact⟨ts.length-(j+1),o_,j+1,v,rfl,p,g_,g_,g_,by simp[go_sem,s],by simp[go_sem,r],by simp[go_sem,K],by simp[go_sem,u],by simp[go_sem,f],by simp[go_sem,c],by simp[go_sem,b],ga i,ga w,OwnR.app n _⟩
 have:j=ts.length:=o_;subst this;by_cases N:0<k
 focus
  have O:(0:Int)<k:=o_;have Y:=qS l (k-1) o_;have w1:IntKind.i64.wrap ((k:Int)-1)=((k-1:Nat):Int):=by rw[av o_];omega
  have⟨sp,kp⟩:=S.dem _ (aF (show k-1<l.length by omega));have Z:=R4 w sd (l[k-1]' o_).knows sp.1 sp.2.2 (q5 N);simp +contextual [go_sem,D,E,s,K,u,N,w1,Y,qr,Z,G w,re];refine bL (NV4 l k i5 d) d.knows.length ⟨0,v,rfl,aN _,g_,g_,g_,by simp[go_sem,s],by simp[go_sem,r],by simp[go_sem,K],by simp[go_sem,u],by simp[go_sem,f],by simp[go_sem,c],by simp[go_sem,b],i,w,n⟩ ?_;clear Z
 rotate_left
 focus
  have O:k=0:=o_;simp +contextual [go_sem,D,E,s,K,u,O,G w,re];refine bL (NV4 l k i5 d) d.knows.length ⟨0,v,rfl,aN _,g_,g_,g_,by simp[go_sem,s],by simp[go_sem,r],by simp[go_sem,K],by simp[go_sem,u],by simp[go_sem,f],by simp[go_sem,c],by simp[go_sem,b],i,w,n⟩ ?_
 all_goals
  clear s r K u f c b i w n X D E;clear h v I;rintro m2 I h ⟨j,v,rfl,hj,z1,q',q2,s,r,K,u,f,c,b,i,w,n⟩;by_cases p:j<d.knows.length
  ·have z:(j:Int)<d.knows.length:=o_;have A:=eJ d.knows j p;have w3:=wS j o_;have ht:=aF p;have y3:=(iI (L d.knows[j] (by rw[<-M];exact dN _ ht))).2.2.2;have B:=H8 d.knows[j] o_;rw[Cf]at B;have F:=ga (g:=[VObj.cells (enc d.knows[j]).cells .live]) i;have z2:=R3 F (OwnR.app n _) q8 o_ (ez d.knows[j]) (mB o_) (by have:=nB d.knows[j];omega) (q4 _ ht);simp[go_sem,r,z1,q',q2,z,A,lE,aV,xG,tN,B,z2,-Int.natCast_add,w3];exact⟨d.knows.length-(j+1),o_,j+1,v,rfl,p,g_,g_,g_,by simp[go_sem,s],by simp[go_sem,r],by simp[go_sem,K],by simp[go_sem,u],by simp[go_sem,f],by simp[go_sem,c],by simp[go_sem,b],ga i,ga w,OwnR.app n _⟩
  have:j=d.knows.length:=o_;subst this;have y0:=(iI (L d.term (by rw[<-M];simp))).2.2.2;have B:=H8 d.term o_;rw[Cf]at B;have y4:=nB d.term;have⟨Q,h',ha,ho,z3,z4⟩:=eW (ys:=ez d.term) (x:=.unk) n o_;rw[<-q6]at ho;have n0:bv v≠some 0:=cM n i;have F:=z3.get i n0;have z5:=(aB.1 F).1;have y1:=(aB.1 i).1;have z6:cL C.P h' 37 (.ptr 0 0) Q=some (h'.set 0 (.cells [Q] .live)):=by obtain⟨x,rfl⟩:=ho.isl;simp[cL,F,s23]
  have z7:bv Q≠some 0:=by
   rcases z4 with q|⟨_,q⟩
   ·rw[q];exact n0
   rw[q];simp only[ne_eq,aA];omega
  have z8:OwnR 39 (h'.set 0 (.cells [Q] .live)) Q ((wp (l.take (k+1))).map enc):=ho.keep (Keep.set _ _ _) (λa hi e=>by simp only[aA]at e;subst e;exact z7 hi)
  have ha:bu C.P false h 37 v (aM (ez d.term))=some (Q,h'):=ha;have z9:∀a,bv v=some a->a<h.length/\a≠0/\a≠i5:=λa e=>⟨OwnR.id_lt n e,λq=>by subst q;exact n0 e,λq=>by subst q;exact cM n w e⟩
  have lv:aW C.P h 37 (.ptr 0 0)=some v:=by obtain⟨x,rfl⟩:=n.isl;simp[aW,i,aZ,a23,s23]
  simp[go_sem,q',q2];refine gS 24 _ (by simp[gM]) rfl ?_;simp[go_sem,r,u,lv,G w,G6,B,ha,z6,b,-Int.natCast_add,w2];refine⟨?_,l.length-(k+1),o_,k+1,Q,rfl,o,by simp[go_sem,s],by simp[go_sem,r],by simp[go_sem,f],by simp[go_sem,c],g_,by rw[aH z5],z8⟩;rcases n with rfl|⟨id,rfl,U⟩
  ·simp[go_sem,ij,iK,iO,kW,fL,ce,r]
  have:=z9 id rfl;simp[go_sem,ij,iK,iO,kW,fL,ce,r]
  (try omega)
theorem FW(l:List Dm) (x:Ext) (hv:cD l=0) (h:H):ak C h (.func 59 []) (some [.isl (l.map dG) x])=some (.int .i64 0,h):=aX (args':=[bB l]) rfl rfl s_ (Pz l hv)
structure LvH (ns:List Nd) (id:Nat) (vf:AV) (fs:List Fm) (P:Nat->List Int) (h:H):Prop where
 m0:h[0]?=some (.cells [Cy ns] .live)
 path:PathC h id ns.length P
 id0:id≠0
 rows:RowM2 h vf fs
 vid:bv vf≠some id
 v0:bv vf≠some 0
theorem LvH.grow{ns:List Nd}{id:Nat}{vf:AV}{fs:List Fm}{P:Nat->List Int}{h h':H}(x:LvH ns id vf fs P h) (hl:∀i,i<h.length->h'[i]?=h[i]?):LvH ns id vf fs P h' where
 m0:=by rw[hl 0 (aB.1 x.m0).1];exact x.m0
 path:=x.path.keep (hl id (by have⟨b,a,_⟩:=x.path;exact(aB.1 a).1))
 id0:=x.id0
 rows:=x.rows.keep λi e=>hl i (x.rows.id_lt e)
 vid:=x.vid
 v0:=x.v0
theorem VH(i:Nat):bF C.P 55 (.ptr i 0) 1=some (.ptr i 1):=k_
theorem VG(i:Nat):bF C.P 55 (.ptr i 0) 2=some (.ptr i 2):=k_
attribute [go_sem] VH VG
theorem Eo{f:List Nd->List Fm->List Dm->Lb->List Int->NR}(s:Lb) (p:List Int):∀(l:List Al) (j:Nat) (ns:List Nd) (fs:List Fm) (ks:List Nat),(iL f s p j l ns fs ks).ks.length<=ks.length+l.length
 |[],_,_,_,_=>by simp[iL]
 |a::l,j,ns,fs,ks=>by
  rw[iL];split
  ·simp
  refine cW (Eo s p l _ _ _ _) ?_;simp only[aL,aG,aQ];omega
theorem Ge{ns:List Nd}{i:Nat}{ks:List Nat}(h:∀n∈ns,n.kids.length<=10000) (hk:ks.length<=10000):∀n∈lU ns i ks,n.kids.length<=10000:=λn c=>by
 have⟨j,b⟩:=fG.1 c;rw[lU,iw]at b;cases e:ns[j]? with
 |none=>rw[e]at b;cases b
 |some a=>
  rw[e]at b;have d:=h a (ai e);simp only[Option.map_eq_map,bq,aA]at b;subst b;split
  ·exact hk
  exact d
theorem I0{l0:List Dm}{f:List Nd->List Fm->List Dm->Lb->List Int->NR}(hf:∀ns fs d s p,(∀n∈ns,n.kids.length<=10000)->NdOk l0 ⟨d,s,[]⟩->∀n∈(f ns fs d s p).ns,n.kids.length<=10000) (s:Lb) (p:List Int) :
  ∀(l:List Al) (j:Nat) (ns:List Nd) (fs:List Fm) (ks:List Nat),(∀a∈l,NdOk l0 ⟨a.dem,(eI s a.bind).1,[]⟩)->(∀n∈ns,n.kids.length<=10000)->∀n∈(iL f s p j l ns fs ks).ns,n.kids.length<=10000
 |[],_,_,_,_,_,h=>h
 |a::l,j,ns,fs,ks,ha,h=>by
  have h1:=hf ns fs a.dem (eI s a.bind).1 (p++[(j:Int)]) h (ha a s_);rw[iL];split
  ·exact h1
  exact I0 hf s p l _ _ _ _ (λb c=>ha b (by simp[c])) h1
theorem Im{l0:List Dm}(F:Nat):∀(g:Nat) (ns:List Nd) (fs:List Fm) (d:List Dm) (s:Lb) (p:List Int),(∀n∈ns,n.kids.length<=10000)->NdOk l0 ⟨d,s,[]⟩->∀n∈(fb F g ns fs d s p).ns,n.kids.length<=10000
 |0,ns,fs,_,_,_,h,_=>h
 |g+1,ns,fs,d,s,p,h,hd=>by
  have h1:∀n∈ns++[(⟨d,s,[]⟩:Nd)],n.kids.length<=10000:=λn b=>by
   rcases ac.1 b with b|b
   ·exact h n b
   rw[bJ.1 b];simp
  rw[fb];split
  ·exact h
  split
  ·exact h1
  split
  ·exact h1
  rename_i i;split
  ·exact h1
  rename_i j;have c:=I0 (Im F g) s p (cX d).1 0 (ns++[⟨d,s,[]⟩]) fs [] (λa e=>by have f:=ru (by simpa using j) a e;have:=B2 (k:=[]) hd (vv (by simpa using i) a e) f;rw[(oi f).1];exact this) h1
  split
  ·exact c
  refine Ge c (cW (Eo _ _ _ _ _ _ _) ?_);have:=(zm hd.good.valid).2;simpa using this
theorem Be{l:List Dm}{F:Nat}(_h:(fg l F).2=0):∀n∈(fg l F).1,n.kids.length<=10000:=by
 unfold fg;split
 ·simp
 rename_i q;split
 ·simp
 split
 ·simp
 exact Im F F [] [] l [] [] s_ (B3 (by simpa using q))
theorem Rv(l:List Dm) (hl:l.length<=100000):az C 11 [bB l]=some (bB l):=by
 cases l with
 |nil=>
  have c:C.prim 11 [bB []] []=some (.isl [] .full,[]):=by simp[C,prim,mD,cloneIds,bB]
  have d:Go.V.Call C 11 [bB []] []=some (.isl [] .full,[]):=oo (C:=C) (fn:=f11) func11 c;unfold az;rw[d];exact aK rfl rfl
 |cons a l=>
  refine hJ (by simp[C,prim,mD,cloneIds,bB]) func11 rfl k_ (by simp[f11]) λR e=>?_
  have f:iN C.P .eql 22 (.tmp 3) (.const (.slice none 0 0)) (bB (a::l)) (.isl [] .full)=some (.bool false):=by have u22:C.P.underlying 22=some (.slice 41):=underlying22;simp[iN,bB,fH,cw,rR,zj,CH,Q4,u22,xi]
  have⟨j,g,b,i,_⟩:=pS (h:=[.tok 0 41]) (v:=.isl [] .full) (x:=.unk) (xs:=[]) (ys:=a::l) (.inl rfl) (by simp at hl ⊢;omega);obtain⟨x,rfl⟩:=i.isl;have b:bu C.P false [.tok 0 41] 22 (.isl [] .full) (bB (a::l))=some (.isl (([]++(a::l)).map dG) x,g):=b;simp only[bk]at b;simp[go_sem,f,CY,b];exact e _ _ _ (.inr rfl) ⟨.isl ((a::l).map dG) x,by simp[aY,cC,f11,go_sem],aK rfl rfl⟩
theorem Fj(l:List Dm) (x:Ext) (hl:l.length<=100000) (h:H):ak C h (.func 11 []) (some [.isl (l.map dG) x])=some (.isl (l.map dG) .unk,h):=aX (args':=[bB l]) rfl rfl s_ (Rv l hl)
theorem BR(ns:List Nz) (x:Ext) (hks:∀n∈ns,n.kids.length<4000000) (h:H):ak C h (.func 43 []) (some [.agg [.isl (ns.map eZ) x]])=some (.bool (ku ns),h):=aX (args':=[.agg [bi ns]]) rfl rfl s_ (Kg ns hks)
theorem Oj(l:List Dm) (ns:List Nz) (hv:cD l=0) (hL:ku ns=false) (hks:∀n∈ns,n.kids.length<4000000):az C 24 [bB l,.agg [bi ns]]=some (.bool false):=by
 refine ay func24 rfl λR b=>?_
 have c:=FW l .unk hv;have a:=BR ns .unk hks;rw[hL]at a;simp +contextual [go_sem,bi,iD,bB,c,gh,a];exact b ⟨.bool false,by simp[aY,cC,f24,go_sem],aK rfl rfl⟩
theorem Dj(l:List Dm) (ns:List Nz) (x y:Ext) (hv:cD l=0) (hL:ku ns=false) (hks:∀n∈ns,n.kids.length<4000000) (h:H):ak C h (.func 24 []) (some [.isl (l.map dG) x,.agg [.isl (ns.map eZ) y]])=some (.bool false,h):=aX (args':=[bB l,.agg [bi ns]]) rfl rfl s_ (Oj l ns hv hL hks)
def toZ(n:Nd):Nz:=⟨n.dem,n.bind,pF n.kids⟩
theorem ND(ns:List Nd):ns.map E8=(ns.map toZ).map eZ:=by rw[jx];rfl
structure TreeB (l:List Dm) (T:List Nz):Prop where
 ok:∀n∈T,OkZ n
 kl:∀n∈T,n.kids.length<=100000
 len:T.length<=100000
theorem Jw{l:List Dm}{T:List Nz}(b:TreeB l T) (i:Int):(∀n∈(jA T i).1,OkZ n)/\(jA T i).1.length<=100000:=by
 unfold jA;split
 ·simp
 split
 ·split
  ·simp
  refine⟨λn f=>?_,by rw[rF];exact b.len⟩;have⟨j,c⟩:=fG.1 f;rw[gx,iw]at c;cases e:T[j]? with
  |none=>rw[e]at c;cases c
  |some a=>
   rw[e]at c;have d:=b.ok a (ai e);simp only[Option.map_eq_map,bq,aA]at c;subst c;split
   ·exact⟨d.sm,d.len,d.dsm,d.dlen,by have:=d.kl;simp only[List.length_dropLast];omega⟩
   exact d
 simp
theorem Jv{T:List Nz}{i:Int}(h:lW T=true) (he:(jA T i).2=0):ku (jA T i).1=false:=by
 unfold jA at he ⊢;split at he
 ·cases he
 rename_i q;rw[if_neg q];split at he
 ·rename_i x b;split at he
  ·cases he
  rename_i a;rw[if_neg a];exact zo h b λe=>a (by rw[e];rfl)
 cases he
theorem aAz(l:List Dm) (ns:List Nz) (i:Int):az C 5 [bB l,.agg [bi ns],.int .i64 i]=some (.bool true):=by
 refine hJ rfl func5 rfl k_ (by simp[f5]) λR N=>?_
 have fin:∀(w:PT) (h:H),w.get 6=.bool true->R .ret w h:=λw h O=>N _ _ _ (.inr rfl) ⟨.bool true,by simp[aY,cC,f5,O],aK rfl rfl⟩
 have q:∀h,ak C h (.func 6 []) (some [])=some (.bool true,h):=λh=>by refine aX (args':=[]) rfl rfl s_ ?_;have:Go.V.Call C 6 [] []=some (.bool true,[]):=oo (C:=C) (fn:=f6) func6 (by simp[C,prim]);unfold az;rw[this];exact aK rfl rfl
 have a:=Lh ns .unk;have k:=O1 l .unk;cases o:tZ ns with
 |false=>rw[o]at a;simp +contextual [go_sem,bi,iD,gh,q,a];exact fin _ _ g_
 |true=>
 rw[o]at a;cases x:BO l with
 |false=>rw[x]at k;simp +contextual [go_sem,bi,iD,gh,q,a,bB,k];exact fin _ _ g_
 |true=>
 rw[x]at k;have⟨Q,s⟩:=K6 x;have A:=OA o;have c9:∀h,ak C h (.func 9 []) (some [.isl (l.map dG) .unk,.int .i64 40])=some (Gm (fg l 40),h):=Ov l 40 .unk s o_;have X:TreeB l ns:=⟨A,λn f=>by simp only[tZ,am,decide_eq_true_eq]at o;have:=bI.1 o.2 n f;simp only[ta,am,decide_eq_true_eq]at this;omega,by simp only[tZ,am,decide_eq_true_eq]at o;omega⟩
 have Y:(fg l 40).2=0->TreeB l ((fg l 40).1.map toZ):=λB=>by
  refine⟨λn f=>?_,λn f=>?_,by rw[aU];have:=IQ l 40;omega⟩
  ·obtain⟨m,v,rfl⟩:=bV.1 f;have h:=P5 B m v;have t:=tq h.good.valid;have Z:=Be B m v;refine⟨λb D=>?_,by have:=h.len;show m.bind.length<_;omega,λd hd=>(t.dem d hd).1,by have:=t.len;show m.dem.length<_;omega,by simp only[toZ,pF,aU];omega⟩;have:=h.val b D;exact⟨o_,o_⟩
  obtain⟨m,v,rfl⟩:=bV.1 f;have Z:=Be B m v;simp only[toZ,pF,aU];omega
 obtain⟨r,L⟩:∃m,∀y z,iN C.P .rem 3 y z (.int .i64 i) (.int .i64 2)=some (.int .i64 m):=⟨i.tmod 2,λy z=>k_⟩
 have E:Cy (fg l 40).1=.isl (((fg l 40).1.map toZ).map eZ) .unk:=by rw[Cy,ND]
 generalize fg l 40=U at *;generalize U.1.map toZ=V at *;by_cases t:U.2=0/\r=0
 focus
  have⟨p,F⟩:=t;have c:=Y p;simp +contextual [go_sem,bi,iD,gh,q,a,bB,k,uf,aV,c9,Gm,E,oO,p,L,F];generalize V=T at *
 rotate_left
 focus
  have c:=X;by_cases p:U.2=0
  focus
   have F:¬r=0:=λe=>t ⟨p,e⟩
   simp +contextual [go_sem,bi,iD,gh,q,a,bB,k,uf,aV,c9,Gm,E,oO,p,L,F];generalize ns=T at *
  rotate_left
  focus
   simp +contextual [go_sem,bi,iD,gh,q,a,bB,k,uf,aV,c9,Gm,E,oO,p];generalize ns=T at *
 all_goals
  have g:=Fb T .unk i c.ok c.kl (by have:=c.len;omega);have j:=FZ T .unk i c.len c.kl;have M:=Jw c i;have G:=λh e=>Jv (T:=T) (i:=i) h e
  have c23:=Fk l T .unk .unk s o_ c.ok;generalize jA T i=S at *;have c22:=Hw S.1 .unk .unk M.1 o_;by_cases e:S.2=0
  ·cases u:sC l T with
   |false=>rw[u]at c23;simp +contextual [go_sem,g,j,EP,bi,gh,uf,aV,oO,e,c22,bB,c23];exact fin _ _ g_
   |true=>rw[u]at c23;unfold sC at u;simp only[am,decide_eq_true_eq]at u;have⟨⟨⟨hv,I⟩,_⟩,_⟩:=u;have J:=Fj l .unk o_;have K:=Dj l S.1 .unk .unk hv (G I e) (λn f=>(M.1 n f).kl);simp +contextual [go_sem,g,j,EP,bi,gh,uf,aV,oO,e,c22,bB,c23,J,K];exact fin _ _ g_
  simp +contextual [go_sem,g,j,EP,bi,gh,uf,aV,oO,e,c22];exact fin _ _ g_
theorem c45:prog.cellsOf 45=1:=k_
theorem c53:prog.cellsOf 53=1:=k_
theorem c63:prog.cellsOf 63=3:=k_
theorem c29:prog.cellsOf 29=1:=k_
section
variable {H:Type}{ec:TypeId × Value->H}{w:World}
theorem XZ{α:Type}{l:List α}(h:l.length=3):∃a b c,l=[a,b,c]:=by
 match l,h with
 |[a,b,c],_=>exact⟨a,b,c,rfl⟩
theorem LJ{n:Nat}{v:Value}{x:DataW H × List MemPlace}(h:TR ec w n 29 [v]=some x):∃l:List Nz,IRel (λ_ _=>True) w (bi l) v:=by
 have⟨l,r,_,_⟩:=nN (toV:=eZ) (sz:=λ_=>0) underlying29 c63 o_ (λb=>⟨rfl,rfl,λc a=>by
  simp only[kZ,ao,cy,or_false]at a;rcases a with rfl|rfl|rfl<;>rfl⟩) (λm _ f y g i=>by
  obtain⟨e,n,rfl,rfl,B,s,k⟩:=DataW.trod_struct underlying63 i;have o:TR ec w n 22 ((f.drop 0).take (prog.cellsOf 22))=e[0]?:=k 0 _ rfl;have p:TR ec w n 45 ((f.drop 1).take (prog.cellsOf 45))=e[1]?:=k 1 _ rfl;have q:TR ec w n 53 ((f.drop 2).take (prog.cellsOf 53))=e[2]?:=k 2 _ rfl;obtain⟨D,E,F,rfl⟩:=XZ g;obtain⟨G,I,J,rfl⟩:=XZ (l:=e) s;simp only[c22,c45,c53,dO,dl,dh,fo,be,dH]at o p q;have⟨t,z⟩:=FC o;have⟨bs,g,_⟩:=LK p;have⟨A,i⟩:=OR q;refine⟨⟨t,bs,A⟩,aN _,λj c u a d=>?_⟩;rw[kZ]at a;match j,a,d with
  |0,a,d=>simp at a d;subst a;subst d;exact z
  |1,a,d=>simp at a d;subst a;subst d;exact g
  |2,a,d=>simp at a d;subst a;subst d;exact i
  |j+3,a,d=>simp at a) h
 exact⟨l,r⟩
theorem OQ{n:Nat}{cs:Array Value}{x:DataW H × List MemPlace}(hl:cs.toList.length=1) (h:TR ec w n 31 cs.toList=some x):∃ns:List Nz,IRel (λ_ _=>True) w (.agg [bi ns]) (.agg cs):=by
 obtain⟨e,m,rfl,rfl,o,p,q⟩:=DataW.trod_struct underlying31 h;have f:TR ec w m 29 ((cs.toList.drop 0).take (prog.cellsOf 29))=e[0]?:=q 0 _ rfl;obtain⟨g,j⟩:∃g,cs.toList=[g]:=by
  match cs.toList,hl with
  |[a],_=>exact⟨a,rfl⟩
 obtain⟨k,rfl⟩:∃k,e=[k]:=by
  match e,p with
  |[a],_=>exact⟨a,rfl⟩
 rw[j]at f;simp only[c29,dO,dh,fo,be]at f;have⟨ns,r⟩:=LJ f;refine⟨ns,.agg (λc l=>by simp at l;subst l;rfl) (by simpa using hl) λi a v d b=>?_⟩;have b:cs.toList[i]?=some v:=by simpa using b
 rw[j]at b;match i,d,b with
 |0,d,b=>simp at d b;subst d;subst b;exact r
 |i+1,d,b=>simp at d
end
end Go.VZ
