/- A part of the proof. -/
import Derived.Test.YtbcnnpkfkopoeaaGreatDoorSi
set_option maxHeartbeats 16000000
set_option maxRecDepth 8000
namespace Go.VZ
open Go Go.V Go.Proofs Tryz TL
theorem Q9(t u:T) (ht:bA t=0) (hu:bA u=0):az C 111 [enc t,enc u]=some (.int .i64 0):=by
 refine bL func111 rfl λR c=>?_
 have d:∀h x,mg C.P h 41 (enc x)=some (.ptr h.length 0,h++[.cells (tc x) .live]):=λh x=>by rw[gx];rfl
 have e:aJ C.P [.cells (tc t) .live,.cells (tc u) .live] 41 (.ptr 0 0)=some (enc t):=(ji rfl).2.2.2.2;have f:aJ C.P [.cells (tc t) .live,.cells (tc u) .live] 41 (.ptr 1 0)=some (enc u):=(ji rfl).2.2.2.2;have a:=oF t (by have:=(bg ht).2.1;omega);have b:=oF u (by have:=(bg hu).2.1;omega);rw[ht]at a;rw[hu]at b;simp[go_sem,d,e,f,a,b];exact c ⟨.int .i64 0,by simp[ag,cO,f111,go_sem],aU rfl rfl⟩
theorem Oq(t u:T) (ht:bA t=0) (hu:bA u=0) (r:Lb) (e:Int) (hs:az C 112 [binds [(t,u)]]=some (.tuple [binds r,.int .i64 e])):az C 68 [enc t,enc u]=some (.tuple [binds r,.int .i64 e]):=by
 refine bL func68 rfl λR a=>?_
 have b:∀h x,mg C.P h 41 (enc x)=some (.ptr h.length 0,h++[.cells (tc x) .live]):=λh x=>by rw[gx];rfl
 have c:∀g:H,aJ C.P (.cells (tc t) .live::g) 41 (.ptr 0 0)=some (enc t):=λg=>(ji rfl).2.2.2.2
 have d:∀(y:VObj) (g:H),aJ C.P (y::.cells (tc u) .live::g) 41 (.ptr 1 0)=some (enc u):=λy g=>(ji rfl).2.2.2.2
 have f:∀h,aj C h (.func 111 []) (some [enc t,enc u])=some (.int .i64 0,h):=λh=>an (fA _ _) (by simp[bF]) s_ (Q9 t u ht hu)
 have i:∀h,aj C h (.func 112 []) (some [.isl [bT (t,u)] .full])=some (.tuple [binds r,.int .i64 e],h):=λh=>an (args':=[binds [(t,u)]]) rfl rfl s_ hs
 have j:=Dj t u;have k:=λh=>mP h (t,u)
 simp[go_sem,b,c,d,f,i,j,k,dZ,nr];exact a ⟨.tuple [binds r,.int .i64 e],by simp[ag,gk,cO,f68,go_sem],du rfl rfl s_⟩
theorem N8(es:LA) (x:Ext) (f:Fa):fV C.P 39 [(1,aQ f),(0,.isl es x)]=some (.agg (.isl es x::faC f)):=by
 have e:∀(es:LA) (x:Ext) (k g:Int) (l:LA),fV C.P 39 [(1,.agg [.int .i64 k,.int .i64 g,.isl l .unk]),(0,.isl es x)]=some (.agg [.isl es x,.int .i64 k,.int .i64 g,.isl l .unk]):=λes x k g l=>k_
 exact e _ _ _ _ _
theorem MV{es:LA}{x:Ext}{f:Fa}{n k:Nat}(hx:∀t,x=.tok t->t<n):(AV.agg (.isl es x::faC f)).mv n k=.agg (.isl es x::faC f):=by have e:(AV.agg (.isl es x::faC f)).mv n k=.agg ((AV.isl es x).mv n k::faC f):=rfl;rw[e,tR hx]
theorem HK{α:Type}(l:List α) (x:α) (k:Nat):(l++[x]).eraseIdx k=if k=l.length then l else l.eraseIdx k++[x]:=by
 split
 ·rename_i h;subst h;rw[mi (aP _)];simp
 rename_i h;rcases fj k l.length with a|a
 ·rw[List.eraseIdx_append_of_lt_length a]
 rw[lE (by simp;omega),lE a]
def aAE(x y:Cl) (rO:Lb) (p:Nat) (n:Nat) (st:PT) (h:H):Prop:=∃(i:Nat) (v:AV),n=y.body.length-i/\i<=y.body.length/\h[2]?=some (.cells dU .live)/\h[4]?=some (.cells (clC y) .live)/\h[12]?=some (.cells (v::faC y.head) .live)/\st.get 4=.ptr 2 0/\st.get 8=.int .i64 p/\st.get 11=.ptr 4 0/\st.get 12=binds rO/\st.get 13=.ptr 12 0/\st.get 14=.int .i64 i/\OwnR 34 h v ((x.body++(y.body.take i).eraseIdx p).map aQ)
def ResQ(a b r:Cl) (e:Int):Prop:=(e=9/\(kc a&&decide (a.head.kind=1)&&b.body.any gU)=false)\/e=3 \/
 (kc a=true/\a.head.kind=1/\∃pre sel post,b.body=pre++sel::post/\gU sel=true/\(∀f∈pre,gU f=false)/\bA (bc (suf 108) (dQ a.head))=0/\bA (bc (suf 114) (dQ sel))=0 /\
  ∃n rE rO e',gg AZ n [(bc (suf 108) (dQ a.head),bc (suf 114) (dQ sel))] []=some (rE,e')/\rE.Perm rO/\(e'≠0/\e=11\/e'=0/\e=0/\bY (mO rO a b pre post)=0/\nv (mO rO a b pre post)<=nv a+nv b/\r=qp nmV (mO rO a b pre post)))
theorem Ju(a b:Cl) (ha:bY a=0) (hb:bY b=0) (hn:nv a+nv b<600):∃v,az C 34 [ai a,ai b]=some v/\∃r e,v=.tuple [ai r,.int .i64 e]/\ResQ a b r e:=by
 refine mC rfl func34 rfl k_ (by simp[f34]) λR hR=>?_
 have la:∀g:H,aJ C.P (.cells (clC a) .live::g) 39 (.ptr 0 0)=some (ai a):=λg=>jJ rfl
 have lb:∀(y:VObj) (g:H),aJ C.P (y::.cells (clC b) .live::g) 39 (.ptr 1 0)=some (ai b):=λy g=>jJ rfl
 have x5:=gR ha;have v3:=gR hb;have⟨v4,v5⟩:=gY ha;have⟨v6,v7⟩:=gY hb;have c1:=qB a x5.okF;have c2:=qB b v3.okF;rw[ha]at c1;rw[hb]at c2;have c3:=JH b o_;have c4:=Q6 a x5.okF o_;have lk:∀g:H,aJ C.P (.cells (clC a) .live::g) 3 (.ptr 0 1)=some (.int .i64 a.head.kind):=λg=>by simp[aJ,aY,a3,s3,clC,faC]
 have Q:∀(x y:VObj) (g:H),ah C.P (x::y::.cells dU .live::g) 39 (.ptr 2 0) (.agg dU)=some (x::y::.cells dU .live::g):=λx y g=>by simp[ah,s37,dU]
 have v8:∀(x y:VObj) (g:H),aJ C.P (x::y::.cells dU .live::g) 39 (.ptr 2 0)=some (.agg dU):=λx y g=>by simp[aJ,aY,a37,s37,dU]
 have F:∀(st:PT) (x y:VObj) (g:H) (e:Int),st.get 4=.ptr 2 0->st.get 5=.int .i64 e->ResQ a b zeC e->R .ret st (x::y::.cells dU .live::g):=λst x y g e h4 h5 hq=>hR _ _ _ (.inr rfl) ⟨.tuple [ai zeC,.int .i64 e],⟨zeC,e,rfl,hq⟩,.tuple [.agg dU,.int .i64 e],by simp[ag,gk,cO,f34,h4,h5,v8],du rfl rfl s_⟩
 have nz:au (AV.agg dU)=true:=rfl;have r1:=EM 108 a ha J8;have r2:=EM 114 b hb J7;have y':=Mq gU b.body 0;cases q1:kc a with
 |false=>rw[q1]at c4;simp[go_sem,fk,om,am,la,lb,c1,c2,c3,c4,uA,Q];exact F _ _ _ _ 9 g_ g_ (.inl ⟨rfl,by rw[q1];rfl⟩)
 |true=>
  rw[q1]at c4;by_cases q2:a.head.kind=1
  rotate_left
  ·simp[go_sem,fk,om,am,la,lb,c1,c2,c3,c4,lk,q2,uA,Q];exact F _ _ _ _ 9 g_ g_ (.inl ⟨rfl,by simp[q2]⟩)
  by_cases q3:ixF gU b.body 0<0
  ·have x6:b.body.any gU=false:=by simpa[q3]using y'
   simp[go_sem,fk,om,am,la,lb,c1,c2,c3,c4,lk,q2,q3,uA,Q];exact F _ _ _ _ 9 g_ g_ (.inl ⟨rfl,by rw[x6];simp⟩)
  have⟨d,sel,j,z1,x7,x8,x9⟩:=B3 (p:=gU) (l:=b.body) (k:=0) o_;rw[bu]at x9;rw[x9]at c3;have z2:¬(d.length:Int)<0:=o_;cases q4:yf a with
  |false=>
   rw[q4]at r1;simp only[aT,if_false]at r1;have c5:∀h,aj C h (.func 67 []) (some [ai a,.str ⟨#[108]⟩])=some (.tuple [ai zeC,.int .i64 3],h):=λh=>an (args':=[ai a,.str ⟨#[108]⟩]) rfl rfl s_ r1
   have s3:∀(x y z:VObj),ah C.P [x,y,z,.cells dU .live] 39 (.ptr 3 0) (ai zeC)=some [x,y,z,.cells (clC zeC) .live]:=λx y z=>by simp[ah,s37,dU,ai,clC,faC]
   simp[go_sem,fk,om,am,la,lb,c1,c2,c3,c4,lk,q2,z2,c5,s3,uA,Q];exact F _ _ _ _ 3 g_ g_ (.inr (.inl rfl))
  |true=>
   rw[q4]at r1;simp only[if_true]at r1;have c5:∀h,aj C h (.func 67 []) (some [ai a,.str ⟨#[108]⟩])=some (.tuple [ai (il (suf 108) a),.int .i64 0],h):=λh=>an (args':=[ai a,.str ⟨#[108]⟩]) rfl rfl s_ r1
   have s3:∀(x y z:VObj) (c:Cl),ah C.P [x,y,z,.cells dU .live] 39 (.ptr 3 0) (ai c)=some [x,y,z,.cells (clC c) .live]:=λx y z c=>by simp[ah,s37,dU,ai,clC,faC]
   have s4:∀(x y z w:VObj) (c:Cl),ah C.P [x,y,z,w,.cells dU .live] 39 (.ptr 4 0) (ai c)=some [x,y,z,w,.cells (clC c) .live]:=λx y z w c=>by simp[ah,s37,dU,ai,clC,faC]
   have k9:∀c:Cl,au (ai c)=true:=λ_=>rfl
   cases q5:yf b with
   |false=>
    rw[q5]at r2;simp only[aT,if_false]at r2;have c6:∀h,aj C h (.func 67 []) (some [ai b,.str ⟨#[114]⟩])=some (.tuple [ai zeC,.int .i64 3],h):=λh=>an (args':=[ai b,.str ⟨#[114]⟩]) rfl rfl s_ r2
    simp[go_sem,fk,om,am,la,lb,c1,c2,c3,c4,lk,q2,z2,c5,c6,s3,s4,uA,Q];exact F _ _ _ _ 3 g_ g_ (.inr (.inl rfl))
   |true=>
    rw[q5]at r2;simp only[if_true]at r2;have c6:∀h,aj C h (.func 67 []) (some [ai b,.str ⟨#[114]⟩])=some (.tuple [ai (il (suf 114) b),.int .i64 0],h):=λh=>an (args':=[ai b,.str ⟨#[114]⟩]) rfl rfl s_ r2
    have y0:∀f∈aN a,∀t∈f.terms,bA t=0/\okL t=true:=λf q t A=>⟨(eS ((dH ha).2 f q)).2.2 t A,av.1 (av.1 q4 f q) t A⟩
    have y1:∀f∈aN b,∀t∈f.terms,bA t=0/\okL t=true:=λf q t A=>⟨(eS ((dH hb).2 f q)).2.2 t A,av.1 (av.1 q5 f q) t A⟩
    have O:sel∈b.body:=by rw[z1];simp
    obtain⟨ta,ra,V⟩:∃t r,a.head.terms=t::r:=by
     have:=(eS ((dH ha).2 a.head (by simp[aN]))).1;cases h:a.head.terms with
     |nil=>exact absurd h this
     |cons t r=>exact⟨t,r,rfl⟩
    obtain⟨tb,rb,Z⟩:∃t r,sel.terms=t::r:=by
     have:=(eS ((dH hb).2 sel (by simp[aN,O]))).1;cases h:sel.terms with
     |nil=>exact absurd h this
     |cons t r=>exact⟨t,r,rfl⟩
    have w':dQ a.head=ta:=by unfold dQ;rw[V];rfl
    have w0:dQ sel=tb:=by unfold dQ;rw[Z];rfl
    have⟨va,sa⟩:=uJ (x:=108) d_ (y0 a.head (by simp[aN]) ta (by rw[V];simp)).1 (y0 a.head (by simp[aN]) ta (by rw[V];simp)).2;have⟨vb,sb⟩:=uJ (x:=114) d_ (y1 sel (by simp[aN,O]) tb (by rw[Z];simp)).1 (y1 sel (by simp[aN,O]) tb (by rw[Z];simp)).2;have hi:=yj (U:=(bS (bN a)).map (suf 108)++(bS (bN b)).map (suf 114)) (l:=[bc (suf 108) ta]) (m:=[bc (suf 114) tb]) (λt A=>by rw[aS.1 A];exact va) (λt A=>by rw[aS.1 A];exact vb) (λu J h=>by
     have⟨t,A,hw⟩:=h;rcases aK.1 A with A|A
     ·rw[aS.1 A]at hw;obtain⟨w,w1,w2,rfl⟩:=xO (zD 108) ta u hw J;exact aa _ (df (vZ (f:=a.head) (by simp[aN]) (by rw[V];simp) w1 w2))
     ·rw[aS.1 A]at hw;obtain⟨w,w1,w2,rfl⟩:=xO (zD 114) tb u hw J;exact bk _ (df (vZ (f:=sel) (by simp[aN,O]) (by rw[Z];simp) w1 w2))) (λu J=>by
     rcases aK.1 J with J|J<;>(obtain⟨w,_,rfl⟩:=ae.1 J;rfl))
    have w3:((bS (bN a)).map (suf 108)++(bS (bN b)).map (suf 114)).length=nv a+nv b:=by simp[nv]
    rw[gq,List.zip_nil_left]at hi;have⟨n,⟨rE,e'⟩,hr⟩:=QI _ _ _ _ hi (aP _) (aP _);have⟨s,v9,hp,k8⟩:=qz n _ _ _ rE e' (.refl _) .nil hr;have w4:=zm _ _ (by rw[w3];simp;omega) o_ n _ s e' hi v9;have j':=Oq _ _ va vb s e' w4;have c7:∀h,aj C h (.func 68 []) (some [enc (bc (suf 108) ta),enc (bc (suf 114) tb)])=some (.tuple [binds s,.int .i64 e'],h):=λh=>an (fA _ _) (by simp[bF]) s_ j'
    have z6:∀(r:Cl) (e:Int),(e'≠0/\e=11\/e'=0/\e=0/\bY (mO s a b d j)=0/\nv (mO s a b d j)<=nv a+nv b/\r=qp nmV (mO s a b d j))->ResQ a b r e:=λr e hq=>.inr (.inr ⟨q1,q2,d,sel,j,z1,x7,x8,by rw[w'];exact va,by rw[w0];exact vb,n,rE,s,e',by rw[w',w0];exact hr,hp,hq⟩)
    have lx:∀(x y z:VObj) (g:H),aJ C.P (x::y::z::.cells (clC (il (suf 108) a)) .live::g) 32 (.ptr 3 3)=some (terms (il (suf 108) a).head.terms):=λx y z g=>Ib rfl
    have ly:∀(x y z w:VObj) (g:H),aJ C.P (x::y::z::w::.cells (clC (il (suf 114) b)) .live::g) 29 (.ptr 4 0)=some (bK (il (suf 114) b).body):=λx y z w g=>jn rfl
    have y2:aZ C.P 32 (terms (il (suf 108) a).head.terms) (.int .i64 0)=some (.iptr (enc (bc (suf 108) ta)) 0):=by
     have e0:(il (suf 108) a).head.terms=bc (suf 108) ta::ra.map (bc (suf 108)):=by simp[il,cq,V]
     rw[e0];exact dh _ 0 s_
    have y3:(il (suf 114) b).body=d.map (cq (suf 114))++cq (suf 114) sel::j.map (cq (suf 114)):=by simp[il,z1]
    have y4:aZ C.P 29 (bK (il (suf 114) b).body) (.int .i64 d.length)=some (.iptr (aQ (cq (suf 114) sel)) 0):=by
     have h1:d.length<(il (suf 114) b).body.length:=by rw[y3];simp
     have h2:(il (suf 114) b).body[d.length]=cq (suf 114) sel:=by simp only[y3];rw[jB s_];simp
     rw[<-h2];exact kD _ _ h1 .unk
    have y5:aZ C.P 32 (terms (cq (suf 114) sel).terms) (.int .i64 0)=some (.iptr (enc (bc (suf 114) tb)) 0):=by
     have e0:(cq (suf 114) sel).terms=bc (suf 114) tb::rb.map (bc (suf 114)):=by simp[cq,Z]
     rw[e0];exact dh _ 0 s_
    have y6:=Ic (cq (suf 114) sel);by_cases q6:e'=0
    rotate_left
    ·simp[go_sem,fk,om,am,la,lb,c1,c2,c3,c4,lk,q2,z2,c5,c6,s3,s4,lx,ly,y2,y4,y5,sL,y6,ee,c7,q6,uA,Q];exact F _ _ _ _ 11 g_ g_ (z6 _ _ (.inl ⟨q6,rfl⟩))
    subst q6;have z7:∀b∈s,bA b.1=0/\bA b.2=0:=λb hb=>by
     have y7:=hp.mem_iff.2 hb;rcases rf n _ _ rE hi hr with h|h
     ·rw[h]at y7;simp at y7
     exact h.bval b y7
    have g':s.length<=600:=by
     rw[<-hp.length_eq];rcases rf n _ _ rE hi hr with h|h
     ·rw[h];simp
     have:=h.slen;rw[w3]at this;omega
    have j0:small s:=D7 z7;have w5:nv (mO s a b d j)<=nv a+nv b:=So z1 λc hc u J hk=>wO n _ _ rE 0 hi (λb hb=>by simp at hb) hr c (hp.mem_iff.2 hc) u J hk
    have hX:∀f∈aN (il (suf 108) a),f.terms.length<=8/\∀t∈f.terms,t.size<=400:=λf q=>by
     have G:∀g∈aN a,(cq (suf 108) g).terms.length<=8/\∀t∈(cq (suf 108) g).terms,t.size<=400:=λg hg=>⟨by simpa[cq]using(v5 g hg).1,λt A=>by obtain⟨u,J,rfl⟩:=ae.1 A;have⟨o1,o2⟩:=y0 g hg u J;rw[(uJ (x:=108) d_ o1 o2).2];exact(bg o1).2.1⟩
     rcases aK.1 q with q|q
     ·obtain⟨g,hg,rfl⟩:=ae.1 q;exact G g (aa _ hg)
     rw[aS.1 q];exact G a.head (by simp[aN])
    have hY:∀f∈aN (il (suf 114) b),f.terms.length<=8/\∀t∈f.terms,t.size<=400:=λf q=>by
     have G:∀g∈aN b,(cq (suf 114) g).terms.length<=8/\∀t∈(cq (suf 114) g).terms,t.size<=400:=λg hg=>⟨by simpa[cq]using(v7 g hg).1,λt A=>by obtain⟨u,J,rfl⟩:=ae.1 A;have⟨o1,o2⟩:=y1 g hg u J;rw[(uJ (x:=114) d_ o1 o2).2];exact(bg o1).2.1⟩
     rcases aK.1 q with q|q
     ·obtain⟨g,hg,rfl⟩:=ae.1 q;exact G g (aa _ hg)
     rw[aS.1 q];exact G b.head (by simp[aN])
    have w6:(il (suf 108) a).body.length<=12:=by simpa[il]using v4
    have j1:(il (suf 114) b).body.length<=12:=by simpa[il]using v6
    have I:mO s a b d j=fK s ⟨(il (suf 108) a).body++(il (suf 114) b).body.eraseIdx d.length,(il (suf 114) b).head⟩:=by
     have:(il (suf 114) b).body.eraseIdx d.length=(d++j).map (cq (suf 114)):=by rw[y3,mi s_];simp
     rw[this];rfl
    simp[go_sem,fk,om,am,la,lb,c1,c2,c3,c4,lk,q2,z2,c5,c6,s3,s4,lx,ly,y2,y4,y5,sL,y6,ee,c7];clear lx ly y2 y4 y5 y6 c7 c6 c5 c3 c4 c1 c2 s3 s4 r1 r2 lk la lb;generalize il (suf 108) a=X at hX w6 I ⊢;generalize il (suf 114) b=Y at hY j1 I ⊢;refine ic 19 _ (λst h=>st.get 4=.ptr 2 0/\st.get 8=.int .i64 d.length/\st.get 11=.ptr 4 0/\st.get 12=binds s/\st.get 13=.ptr 12 0/\h[2]?=some (.cells dU .live)/\h[4]?=some (.cells (clC Y) .live)/\∃v,h[12]?=some (.cells (v::faC Y.head) .live)/\OwnR 34 h v (X.body.map aQ)) (by rw[gM];decide) k_ ?_ ?_
    ·show MX C 34 _ 5 _ 0 _ _ _ _;generalize w7:[VObj.cells (clC a) .live,VObj.cells (clC b) .live,VObj.cells dU .live,VObj.cells (clC X) .live,VObj.cells (clC Y) .live]++List.replicate _ VObj.void=H0;have K:Pl [.cells (clC a) .live,.cells (clC b) .live,.cells dU .live,.cells (clC X) .live,.cells (clC Y) .live] H0 9:=w7▸Pl.mk' _ 9;have z8:H0.length=14:=K.len;clear w7;have p2:H0[2]?=some (.cells dU .live):=K.get rfl;have p3:H0[3]?=some (.cells (clC X) .live):=K.get rfl;have p4:H0[4]?=some (.cells (clC Y) .live):=K.get rfl;have q3:=jn p3;have q4:=lQ p4;have w8:au (aQ Y.head)=true:=rfl;refine bE (.ptr 4 1) rfl rfl (K.isV (i:=0) d_) (by simp[opN,go_sem]) (oM o_) ?_;refine cR (.ptr 4 1) (aQ Y.head) g_ q4 (dW s_) (K.isV (i:=1) d_) rfl ?_;refine gH (parts:=[]) [] (.isl [] .full) rfl rfl (oG _) (K.isV (i:=2) d_) ?_;refine bE (.ptr 3 0) rfl rfl (K.isV (i:=3) d_) (by simp[opN,go_sem]) (oM o_) ?_;refine cR (.ptr 3 0) (bK X.body) g_ q3 (dW s_) (K.isV (i:=4) d_) rfl ?_;rcases X with⟨xb,xh⟩
     cases xb with
     |nil=>
      refine dq (.isl [] .full) (bK []) _ H0 H0 (by simp[go_sem];rfl) g_ (by rw[wrC];exact Hp H0 .unk) o_ rfl (K.isV (i:=5) d_) (og _ _) ?_;rw[show(AV.isl [] .full).mv H0.length (5+5)=.isl [] .full from rfl];refine bE (.agg (.isl [] .full::faC Y.head)) rfl rfl (K.isV (i:=6) d_) (by simp[opN,fT,go_sem,w8,show au (AV.isl [] .full)=true from rfl,N8]) (MV s_) ?_;refine je _ om (K.isV (i:=7) d_) ?_;obtain⟨L,D⟩:∃g,g=H0.set (5+7) (.cells dU .live):=⟨_,rfl⟩
      have g0:L.length=14:=by rw[D];simp[z8]
      have y8:L[12]?=some (.cells dU .live):=by rw[D,aD o_]
      have n2:L[2]?=some (.cells dU .live):=by rw[D,aC s_];exact p2
      have n4:L[4]?=some (.cells (clC Y) .live):=by rw[D,aC s_];exact p4
      have y9:dE L[5+8]?=true:=by rw[D];exact dg (K.isV (i:=8) d_) o_
      change MX C 34 _ 5 _ _ _ _ (H0.set (5+7) (.cells dU .live)) _;rw[<-D];have q':ah C.P L 39 (.ptr 12 0) (.agg (.isl [] .full::faC Y.head))=some (L.set 12 (.cells (.isl [] .full::faC Y.head) .live)):=by simp[ah,y8,s37,dU,faC]
      refine iA 12 0 (.agg (.isl [] .full::faC Y.head)) _ g_ g_ q' o_ y9 ?_;refine⟨k_,g_,g_,g_,g_,g_,by rw[aC s_];exact n2,by rw[aC s_];exact n4,.isl [] .full,?_,.inl rfl⟩;rw[aD o_];rfl
     |cons u l=>
      have hc:=Fm H0 u l .unk (by simp at w6 ⊢;omega);refine dq (.isl [] .full) (bK (u::l)) _ _ _ (by simp[go_sem];rfl) g_ (by rw[wrC];exact hc) s_ rfl (K.isV (i:=5) d_) (jK o_) ?_;rw[show(AV.isl ((u::l).map aQ) (.tok H0.length)).mv H0.length (5+5)=.isl ((u::l).map aQ) (.tok 10) by simp[AV.mv]];obtain⟨L,D⟩:∃g,g=H0.set (5+5) (VObj.mv H0.length (5+5) (.tok (u::l).length 34)):=⟨_,rfl⟩
      have j2:L[10]?=some (.tok (u::l).length 34):=by rw[D,aD o_];rfl
      have x':L.length=14:=by rw[D];simp[z8]
      have hv:∀i,i<9->i≠5->dE L[5+i]?=true:=λi hi hn=>by rw[D];exact dg (K.isV hi) o_
      have j3:L[2]?=some (.cells dU .live):=by rw[D,aC s_];exact p2
      have j4:L[4]?=some (.cells (clC Y) .live):=by rw[D,aC s_];exact p4
      rw[<-D];refine bE (.agg (.isl ((u::l).map aQ) (.tok 10)::faC Y.head)) rfl rfl (hv 6 d_ d_) (by simp[opN,fT,go_sem,w8,show au (AV.isl (aQ u::l.map aQ) (.tok 10))=true from rfl,N8]) (MV (by intro t A;cases A;omega)) ?_;refine je _ om (hv 7 d_ d_) ?_;obtain⟨H2,M⟩:∃g,g=L.set (5+7) (.cells dU .live):=⟨_,rfl⟩
      have x0:H2.length=14:=by rw[M];simp[x']
      have y8:H2[12]?=some (.cells dU .live):=by rw[M,aD o_]
      have n2:H2[2]?=some (.cells dU .live):=by rw[M,aC s_];exact j3
      have n4:H2[4]?=some (.cells (clC Y) .live):=by rw[M,aC s_];exact j4
      have j5:H2[10]?=some (.tok (u::l).length 34):=by rw[M,aC s_];exact j2
      have y9:dE H2[5+8]?=true:=by rw[M];exact dg (hv 8 d_ d_) o_
      change MX C 34 _ 5 _ _ _ _ (L.set (5+7) (.cells dU .live)) _;rw[<-M];have q':ah C.P H2 39 (.ptr 12 0) (.agg (.isl ((u::l).map aQ) (.tok 10)::faC Y.head))=some (H2.set 12 (.cells (.isl ((u::l).map aQ) (.tok 10)::faC Y.head) .live)):=by simp[ah,y8,s37,dU,faC]
      have j6:VObj.mv H2.length (5+8) (.cells (.isl ((u::l).map aQ) (.tok 10)::faC Y.head) .live)=.cells (.isl ((u::l).map aQ) (.tok 10)::faC Y.head) .live:=by have:=MV (es:=(u::l).map aQ) (x:=.tok 10) (f:=Y.head) (n:=H2.length) (k:=5+8) (by intro t A;cases A;omega);simp only[AV.mv,AV.agg.injEq]at this;simp only[VObj.mv,this]
      refine iA 12 0 (.agg (.isl ((u::l).map aQ) (.tok 10)::faC Y.head)) _ g_ g_ q' o_ y9 ?_;rw[j6];refine⟨by simp[it,cF,gZ];kernel_rfl,g_,g_,g_,g_,g_,by rw[aC s_];exact n2,by rw[aC s_];exact n4,.isl ((u::l).map aQ) (.tok 10),?_,.inr ⟨10,rfl,?_⟩⟩
      ·rw[aD o_]
      rw[aC s_,j5];simp
    rintro st h ⟨g4,g8,N,z3,q0,m2,m4,v,E,go⟩;simp[go_sem];refine bX (aAE X Y s d.length) Y.body.length ⟨0,v,rfl,aO _,m2,m4,E,g_,g_,g_,g_,g_,g_,by simpa using go⟩ ?_;clear g4 g8 N z3 q0 m2 m4 E go;clear h st v;rintro m st h ⟨i,v,rfl,g1,m2,m4,E,g4,g8,N,z3,q0,q9,go⟩;have ly:=jn m4;have z4:=iu Y.body;have lv:aJ C.P h 29 (.ptr 12 0)=some v:=by obtain⟨y,rfl⟩:=go.isl;simp[aJ,E,aY,a33,s33]
    by_cases z':i<Y.body.length
    ·have w9:(i:Int)<Y.body.length:=o_;have j7:aZ C.P 29 (bK Y.body) (.int .i64 i)=some (.iptr (aQ Y.body[i]) 0):=kD Y.body i z' .unk;have j8:=ll Y.body[i];have w2:=wS i o_;have j9:Y.body.take (i+1)=Y.body.take i++[Y.body[i]]:=by rw[<-aW z']
     have S:=HK (Y.body.take i) Y.body[i] d.length;rw[<-j9]at S;have k':(Y.body.take i).length=i:=by simp;omega
     rw[k']at S;by_cases q7:d.length=i
     ·rw[if_pos q7]at S;subst q7;simp[go_sem,g8,N,q9,ly,z4,z',-Int.natCast_add,w2];refine⟨Y.body.length-(d.length+1),o_,d.length+1,v,rfl,z',m2,m4,E,g_,g_,g_,g_,g_,g_,?_⟩;rw[S];rwa[lE o_]at go
     rw[if_neg q7]at S;have k0:¬(i:Int)=d.length:=o_;have⟨v',h',ha,k1,hw,z9,x1⟩:=wv (i:=12) (o:=0) Y.body[i] go E s_ (by
      have h1:((Y.body.take i).eraseIdx d.length).length<=(Y.body.take i).length:=by rw[List.length_eraseIdx];split<;>omega
      simp at h1 ⊢;omega)
     have v0:=bn go E;have k2:=bn go m4;rw[List.append_assoc,<-S]at hw;simp[go_sem,g8,N,q9,ly,z4,w9,k0];refine eQ 24 _ (by simp[gM]) rfl ?_;simp[go_sem,N,q0,q9,ly,lv,j7,j8,eI,ha,k1,show au (aQ Y.body[i])=true from rfl,-Int.natCast_add,w2];refine⟨?_,Y.body.length-(i+1),o_,i+1,v',rfl,z',z9 2 _ _ o_ m2,z9 4 _ _ o_ m4,x1,g_,g_,g_,g_,g_,g_,hw⟩;rcases go with rfl|⟨id,rfl,g2⟩
     ·simp[go_sem,ff,fL,fP,iC,dy,cF]
     simp only[cG,ne_eq,aA]at v0 k2;simp[go_sem,ff,fL,fP,iC,dy,cF]
     (try omega)
    have:i=Y.body.length:=o_;subst this;rw[ak]at go;obtain⟨y,rfl⟩:=go.isl;change h[12]?=some (.cells (coV (X.body++Y.body.eraseIdx d.length) y Y.head) .live)at E;have x2:=Mf E;have g3:(Y.body.eraseIdx d.length).length<=Y.body.length:=by rw[List.length_eraseIdx];split<;>omega
    have z0:∀f∈aN ⟨X.body++Y.body.eraseIdx d.length,Y.head⟩,f.terms.length<=8/\∀t∈f.terms,t.size<=400:=λf q=>by
     rcases aK.1 q with q|q
     ·rcases aK.1 q with q|q
      ·exact hX f (aa _ q)
      exact hY f (aa _ (List.mem_of_mem_eraseIdx q))
     exact hY f (bk _ q)
    have k3:(X.body++Y.body.eraseIdx d.length).length<=24:=by rw[List.length_append];omega
    generalize X.body++Y.body.eraseIdx d.length=B at x2 E z0 I k3;have k4:∀f∈aN ⟨B,Y.head⟩,smallT f.terms:=λf q=>⟨by have:=(z0 f q).1;omega,λt A=>by have:=(z0 f q).2 t A;omega⟩
    have v1:=Dl s ⟨B,Y.head⟩ j0 o_ k4 (by show B.length<=10000;omega);rw[<-I]at v1;have c6:∀h,aj C h (.func 38 []) (some [binds s,.agg (coV B y Y.head)])=some (ai (mO s a b d j),h):=λh=>an (args':=[binds s,ai ⟨B,Y.head⟩]) rfl (by simp[el];simp[short,coV,faC]) s_ v1
    have k5:smallC (mO s a b d j):=by
     rw[I];have G:∀f∈aN ⟨B,Y.head⟩,smallT (cD s f).terms:=λf q=>⟨by have:=(z0 f q).1;simp[cD];omega,λt A=>by obtain⟨u,J,rfl⟩:=ae.1 A;have h1:=uS s (λb hb=>(bg (z7 b hb).2).2.1) u;have h2:=(z0 f q).2 u J;omega⟩
     refine⟨by simp[fK];omega,λf q=>?_⟩;rcases aK.1 q with q|q
     ·obtain⟨g,hg,rfl⟩:=ae.1 q;exact G g (aa _ hg)
     rw[aS.1 q];exact G Y.head (by simp[aN])
    have c7:=qB (mO s a b d j) k5.okF;have x3:ah C.P h 39 (.ptr 12 0) (ai (mO s a b d j))=some (h.set 12 (.cells (clC (mO s a b d j)) .live)):=by simp[ah,E,s37,coV,faC,ai,clC]
    have v2:=(aB.1 E).1;have x4:aJ C.P (h.set 12 (.cells (clC (mO s a b d j)) .live)) 39 (.ptr 12 0)=some (ai (mO s a b d j)):=jJ (by rw[aD v2]);have z5:(h.set 12 (.cells (clC (mO s a b d j)) .live))[2]?=some (.cells dU .live):=by rw[aC o_];exact m2
    generalize h.set 12 (.cells (clC (mO s a b d j)) .live)=h2 at x3 x4 z5;have x0:=(aB.1 z5).1;by_cases q8:bY (mO s a b d j)=0
    ·rw[q8]at c7;have k6:=I2 (mO s a b d j) q8 (by have:=yC (c:=mO s a b d j) (b:=lS (setF (mO s a b d j).body)) (λf q=>zx ((np _).mem_iff.2 q));omega);have c8:∀h,aj C h (.func 61 []) (some [ai (mO s a b d j)])=some (.tuple [ai (qp nmV (mO s a b d j)),.int .i64 0],h):=λh=>an (oy _) (by simp[jF]) s_ k6
     generalize k7:qp nmV (mO s a b d j)=cc at c8;have e2:ah C.P h2 39 (.ptr 2 0) (ai cc)=some (h2.set 2 (.cells (clC cc) .live)):=by simp only[ah,z5];simp[s37,dU,ai,clC,faC]
     have l2:aJ C.P (h2.set 2 (.cells (clC cc) .live)) 39 (.ptr 2 0)=some (ai cc):=jJ (by rw[aD x0]);simp[go_sem,g4,N,z3,q0,q9,ly,z4,x2,c6,x3,x4,c7,c8,e2];exact hR _ _ _ (.inr rfl) ⟨.tuple [ai cc,.int .i64 0],⟨cc,0,rfl,z6 _ _ (.inr ⟨rfl,rfl,q8,w5,k7.symm⟩)⟩,.tuple [ai cc,.int .i64 0],by simp[ag,gk,cO,f34,go_sem,g4,l2],du rfl rfl s_⟩
    have e2:ah C.P h2 39 (.ptr 2 0) (.agg dU)=some (h2.set 2 (.cells dU .live)):=by simp only[ah,z5];simp[s37,dU]
    have l2:aJ C.P (h2.set 2 (.cells dU .live)) 39 (.ptr 2 0)=some (.agg dU):=by simp only[aJ,aD x0];simp[aY,a37,s37,dU]
    simp[go_sem,g4,N,z3,q0,q9,ly,z4,x2,c6,x3,x4,c7,q8,uA,e2];exact hR _ _ _ (.inr rfl) ⟨.tuple [ai zeC,.int .i64 3],⟨zeC,3,rfl,.inr (.inl rfl)⟩,.tuple [.agg dU,.int .i64 3],by simp[ag,gk,cO,f34,go_sem,g4,l2],du rfl rfl s_⟩
def PairQ(o:List Cl) (a b:Cl):Prop:=∃r e,ResQ a b r e/\(e=9\/e=11\/e=0/\(qL (gK r)=true\/gK r∈o))
def FromQ(l:List Cl) (c:Cl):Prop:=∃a∈l,∃b∈l,∃r,ResQ a b r 0/\c=gK r
def LN(l o:List Cl):Prop:=(∀c∈o,FromQ l c)/\∀a∈l,∀b∈l,PairQ o a b
theorem PairQ.mono{o o':List Cl}{a b:Cl}(h:PairQ o a b) (ho:∀c∈o,c∈o'):PairQ o' a b:=by
 have⟨r,e,g,d⟩:=h;refine⟨r,e,g,?_⟩;rcases d with d|d|⟨d,f|f⟩
 ·exact .inl d
 ·exact .inr (.inl d)
 ·exact .inr (.inr ⟨d,.inl f⟩)
 exact .inr (.inr ⟨d,.inr (ho _ f)⟩)
theorem ResQ.info{a b r:Cl}(h:ResQ a b r 0) (hn:nv a+nv b<600):bY r=0/\nv r<=nv a+nv b:=by
 rcases h with⟨h,_⟩|h|⟨_,_,d,sel,c,_,_,_,_,_,n,i,j,k,_,_,⟨_,h⟩|⟨_,_,e,f,g⟩⟩
 ·cases h
 ·cases h
 ·cases h
 subst g;have:=DW e o_;exact⟨this.valid,cJ this.nvs f⟩
def Xs(l:List Cl) (n:Nat) (st:PT) (_h:H):Prop:=∃i:Nat,n=l.length-i/\i<=l.length/\st.get 0=dV l/\st.get 4=.int .i64 i
def Xi(l:List Cl) (n:Nat) (st:PT) (_h:H):Prop:=∃(i:Nat) (o:List Cl) (x:Ext),n=l.length-i/\i<=l.length/\o.length<=60*i/\(∀c∈o,smallC c)/\(∀c∈o,FromQ l c)/\(∀a∈l.take i,∀b∈l,PairQ o a b)/\st.get 0=dV l/\st.get 6=.isl (o.map ai) x/\st.get 7=.int .i64 i
def Xb(l:List Cl) (i:Nat) (a:Cl) (n:Nat) (st:PT) (_h:H):Prop:=∃(j:Nat) (o:List Cl) (x:Ext),n=l.length-j/\j<=l.length/\o.length<=60*i+j/\(∀c∈o,smallC c)/\(∀c∈o,FromQ l c)/\(∀a∈l.take i,∀b∈l,PairQ o a b)/\(∀b∈l.take j,PairQ o a b)/\st.get 0=dV l/\st.get 6=.isl (o.map ai) x/\st.get 7=.int .i64 i/\st.get 8=.int .i64 j
theorem lg{α:Type}{l:List α}{i:Nat}(h:i<l.length){x:α}:x∈l.take (i+1)↔x∈l.take i\/x=l[i]:=by rw[<-aW h,aK,aS]
theorem Tt(a b:Cl) (ha:bY a=0) (hb:bY b=0) (hn:nv a+nv b<600):∃r e,ResQ a b r e/\∀h,aj C h (.func 34 []) (some [ai a,ai b])=some (.tuple [ai r,.int .i64 e],h):=by obtain⟨v,c,r,e,rfl,d⟩:=Ju a b ha hb hn;exact⟨r,e,d,λh=>an (args':=[ai a,ai b]) rfl rfl s_ c⟩
theorem Wm(l:List Cl) (hv:∀c∈l,bY c=0) (hn:∀a∈l,∀b∈l,nv a+nv b<600):∃v,az C 17 [dV l]=some v/\∃o e,v=.tuple [dV o,.int .i64 e]/\(e≠0\/e=0/\l.length<=60/\LN l o/\o.length<=400):=by
 refine mC rfl func17 rfl k_ (by simp[f17]) λR hR=>?_
 have u:=sG l;have fin:∀(st:PT) (h:H) (o:List Cl) (x:Ext) (e:Int),st.get 2=.isl (o.map ai) x->st.get 3=.int .i64 e->(e≠0\/e=0/\l.length<=60/\LN l o/\o.length<=400)->R .ret st h:=λst h o x e h2 h3 hq=>hR _ _ _ (.inr rfl) ⟨.tuple [dV o,.int .i64 e],⟨o,e,rfl,hq⟩,.tuple [.isl (o.map ai) x,.int .i64 e],by simp[ag,gk,cO,f17,go_sem,h2,h3],du rfl rfl s_⟩
 clear hR;by_cases q1:60<l.length
 ·have N:(60:Int)<l.length:=o_;simp[go_sem,u,N];exact fin _ _ [] (.tok 1) 3 g_ g_ (.inl d_)
 have N:¬(60:Int)<l.length:=o_;simp[go_sem,u,N];refine bX (Xs l) l.length ⟨0,rfl,aO _,g_,g_⟩ ?_;rintro n st h ⟨i,rfl,hi,B,g4⟩;by_cases f:i<l.length
 ·have E:(i:Int)<l.length:=o_;have O:aZ C.P 24 (dV l) (.int .i64 i)=some (.iptr (ai l[i]) 0):=vG l i f;have li:=sh l[i];have I:=hv _ (aG f);have c1:=qB l[i] (gR I).okF;rw[I]at c1;have w2:=wS i o_;simp[go_sem,B,g4,u,E,O,li,c1,-Int.natCast_add,w2];exact⟨l.length-(i+1),o_,i+1,rfl,f,g_,g_⟩
 have:i=l.length:=o_;subst this;simp[go_sem,B,g4,u];clear g4 hi f;refine bX (Xi l) l.length ⟨0,[],.tok h.length,rfl,aO _,aO _,s_,s_,s_,g_,g_,g_⟩  ?_;clear B;rintro n st h ⟨i,o,x,rfl,hi,Y,w,y,s,B,V,K⟩;by_cases f:i<l.length
 rotate_left
 ·have:i=l.length:=o_;subst this;rw[ak]at s;have Z:=IY o x;by_cases q2:400<o.length
  ·have Q:(400:Int)<o.length:=o_;simp[go_sem,B,V,K,u,Z,Q];exact fin _ _ [] (.tok h.length) 3 g_ g_ (.inl d_)
  have Q:¬(400:Int)<o.length:=o_;simp[go_sem,B,V,K,u,Z,Q];exact fin _ _ o x 0 g_ g_ (.inr ⟨rfl,o_,⟨y,s⟩,o_⟩)
 have E:(i:Int)<l.length:=o_;have O:aZ C.P 24 (dV l) (.int .i64 i)=some (.iptr (ai l[i]) 0):=vG l i f;have li:=sh l[i];have I:=hv _ (aG f);have w2:=wS i o_;simp[go_sem,B,K,u,E];refine bX (Xb l i l[i]) l.length ⟨0,o,x,rfl,aO _,o_,w,y,s,s_,g_,g_,g_,g_⟩ ?_;clear B V K w y s Y;rintro n st h ⟨j,o,x,rfl,hj,Y,w,y,s,D,B,V,K,L⟩;by_cases d:j<l.length
 rotate_left
 ·have:j=l.length:=o_;subst this;rw[ak]at D;simp[go_sem,B,K,L,u,-Int.natCast_add,w2];exact⟨l.length-(i+1),o_,i+1,o,x,rfl,f,o_,w,y,λa ha b p=>by
   rcases(lg f).1 ha with ha|rfl
   ·exact s a ha b p
   exact D b p,g_,g_,g_⟩
 have q':(j:Int)<l.length:=o_;have q8:aZ C.P 24 (dV l) (.int .i64 j)=some (.iptr (ai l[j]) 0):=vG l j d;have lj:=sh l[j];have z':=hv _ (aG d);have q3:=hn _ (aG f) _ (aG d);have⟨r,e,t,c1⟩:=Tt l[i] l[j] I z' q3;have w3:=wS j o_;simp[go_sem,B,L,u,q'];refine ic 16 _ (λz X=>∃q,z.get 0=dV l/\z.get 6=.isl (o.map ai) x/\z.get 7=.int .i64 i/\z.get 8=.int .i64 j/\z.get 9=.ptr q 0/\z.get 10=.int .i64 e/\X[q]?=some (.cells (clC r) .live)) (by rw[gM];decide) k_ ?_ ?_
 ·generalize q4:h++List.replicate _ VObj.void=H0;have A:Pl h H0 15:=q4▸Pl.mk' h 15;have q5:=A.len;clear q4;have z4:∀n k,(ai r).mv n k=ai r:=λ_ _=>rfl
  refine bE (dV l) rfl rfl (A.isV (i:=0) d_) (by simp[opN,go_sem,B]) rfl ?_;refine bE (.int .i64 i) rfl rfl (A.isV (i:=1) d_) (by simp[opN,go_sem,K]) rfl ?_;refine bE (.iptr (ai l[i]) 0) rfl rfl (A.isV (i:=2) d_) (by simp[opN,go_sem,O]) rfl ?_;refine cR (.iptr (ai l[i]) 0) (ai l[i]) g_ (li H0) (by simp[it]) (A.isV (i:=3) d_) rfl ?_;refine bE (dV l) rfl rfl (A.isV (i:=4) d_) (by simp[opN,go_sem,B]) rfl ?_;refine bE (.int .i64 j) rfl rfl (A.isV (i:=5) d_) (by simp[opN,go_sem,L]) rfl ?_;refine bE (.iptr (ai l[j]) 0) rfl rfl (A.isV (i:=6) d_) (by simp[opN,go_sem,q8]) rfl ?_;refine cR (.iptr (ai l[j]) 0) (ai l[j]) g_ (lj H0) (by simp[it]) (A.isV (i:=7) d_) rfl ?_;refine qc [ai l[i],ai l[j]] (.tuple [ai r,.int .i64 e]) k_ rfl g_ rfl (c1 H0) (A.isV (i:=8) d_) rfl ?_;refine bE (.tuple [ai r,.int .i64 e]) rfl rfl (A.isV (i:=9) d_) (by simp[opN,go_sem]) rfl ?_;refine bE (ai r) rfl rfl (A.isV (i:=10) d_) (by simp[opN,go_sem]) rfl ?_;refine bE (.int .i64 e) rfl rfl (A.isV (i:=11) d_) (by simp[opN,go_sem]) rfl ?_;refine je _ om (A.isV (i:=12) d_) ?_;obtain⟨H1,J⟩:∃g,g=H0.set (h.length+12) (.cells dU .live):=⟨_,rfl⟩
  have z5:H1.length=h.length+15:=by rw[J];simp[q5]
  have z0:H1[h.length+12]?=some (.cells dU .live):=by rw[J,aD o_]
  have hv:∀i,i<15->i≠12->dE H1[h.length+i]?=true:=λi hi hn=>by rw[J];exact dg (A.isV hi) o_
  change MX C 17 _ _ _ _ _ _ (H0.set (h.length+12) (.cells dU .live)) _;rw[<-J];have q6:ah C.P H1 39 (.ptr (h.length+12) 0) (ai r)=some (H1.set (h.length+12) (.cells (clC r) .live)):=by simp[ah,z0,s37,dU,ai,clC,faC]
  refine iA (h.length+12) 0 (ai r) _ g_ g_ q6 o_ (hv 13 d_ d_) ?_;refine bE (.int .i64 e) rfl rfl ?_ (by simp[opN,go_sem]) rfl ?_
  ·rw[aC o_];exact hv 14 d_ d_
  refine⟨?_,h.length+12,g_,g_,g_,g_,g_,g_,?_⟩
  ·unfold sq;generalize p:Region.before _=bb;have z1:(bb.getD 13 0).testBit 12=true:=by rw[<-p];kernel_rfl
   clear p;simp[it,qm,List.range,List.range.loop];simpa[ar]using z1
  rw[aD o_];rfl
 rintro z X ⟨q,B,V,K,L,g9,F,m⟩;have lr:=jJ m;by_cases q9:e=9
 ·simp[go_sem,L,F,q9,-Int.natCast_add,w3];exact⟨l.length-(j+1),o_,j+1,o,x,rfl,d,o_,w,y,s,λb p=>by
   rcases(lg d).1 p with p|rfl
   ·exact D b p
   exact⟨r,e,t,.inl q9⟩,g_,g_,g_,g_⟩
 by_cases S:e=11
 ·simp[go_sem,L,F,S,-Int.natCast_add,w3];exact⟨l.length-(j+1),o_,j+1,o,x,rfl,d,o_,w,y,s,λb p=>by
   rcases(lg d).1 p with p|rfl
   ·exact D b p
   exact⟨r,e,t,.inr (.inl S)⟩,g_,g_,g_,g_⟩
 by_cases q0:e=0
 rotate_left
 ·simp[go_sem,F,q9,S,q0];exact fin _ _ [] (.tok X.length) e g_ g_ (.inl q0)
 subst q0;have⟨z2,z6⟩:=t.info q3;have G:=wK z2 o_;have c2:=G.call;have c3:=DZ (gK r) G.small.1 G.small.2;have z3:=(aB.1 m).1;have e9:ah C.P X 39 (.ptr q 0) (ai (gK r))=some (X.set q (.cells (clC (gK r)) .live)):=by simp only[ah,m];simp[s37,ai,clC,faC]
 have l9:aJ C.P (X.set q (.cells (clC (gK r)) .live)) 39 (.ptr q 0)=some (ai (gK r)):=jJ (by rw[aD z3]);cases q:qL (gK r)with
 |true=>
  rw[q]at c3;simp[go_sem,L,g9,F,lr,c2,e9,l9,c3,-Int.natCast_add,w3];exact⟨l.length-(j+1),o_,j+1,o,x,rfl,d,o_,w,y,s,λb p=>by
   rcases(lg d).1 p with p|rfl
   ·exact D b p
   exact⟨r,0,t,.inr (.inr ⟨rfl,.inl q⟩)⟩,g_,g_,g_,g_⟩
 |false=>
  rw[q]at c3;have c4:=N2 o (gK r) x o_ w G.small;have q7:gK r∈nT rS (gK r) o:=Ab λa h=>(I1 h).symm
  have M:∀c∈o,c∈nT rS (gK r) o:=λc h=>Aa h
  simp[go_sem,V,L,g9,F,lr,c2,e9,l9,c3,c4,-Int.natCast_add,w3];exact⟨l.length-(j+1),o_,j+1,nT rS (gK r) o,.unk,rfl,d,by have:=wk (cmp:=rS) (c:=gK r) (l:=o);omega,λc U=>by
   rcases rN U with rfl|U
   ·exact G.small
   ·exact w c U,λc U=>by
   rcases rN U with rfl|U
   ·exact⟨_,aG f,_,aG d,r,t,rfl⟩
   ·exact y c U,λa ha b p=>(s a ha b p).mono M,λb p=>by
   rcases(lg d).1 p with p|rfl
   ·exact(D b p).mono M
   exact⟨r,0,t,.inr (.inr ⟨rfl,.inr q7⟩)⟩,g_,by simp[go_sem,dV],g_,g_⟩
theorem Tw(l:List Cl) (x:Ext) (hv:∀c∈l,bY c=0) (hn:∀a∈l,∀b∈l,nv a+nv b<600):∃o e,(e≠0\/e=0/\l.length<=60/\LN l o/\o.length<=400)/\∀h,aj C h (.func 17 []) (some [.isl (l.map ai) x])=some (.tuple [dV o,.int .i64 e],h):=by obtain⟨v,hv,o,e,rfl,d⟩:=Wm l hv hn;exact⟨o,e,d,λh=>an (args':=[dV l]) rfl (by simp[short]) s_ hv⟩
structure Keeps (Inv:List Cl->Nat->Prop):Prop where
 val:∀t p,Inv t p->∀c∈t,bY c=0
 nvs:∀t p,Inv t p->∀a∈t,∀b∈t,nv a+nv b<600
 step:∀t p o t',Inv t p->LN t o->(o.filter λc=>!gA gK t c)≠[]->(o.filter λc=>!gA gK t c).length<=p->BW gK (t++o.filter λc=>!gA gK t c) t'->Inv t' (p-(o.filter λc=>!gA gK t c).length)
def NA6(Inv:List Cl->Nat->Prop) (m:Nat) (st:PT) (_h:H):Prop:=∃(t:List Cl) (p:Nat),m=p+1/\p<=10/\Inv t p/\st.get 1=.int .i64 p/\st.get 7=dV t
def NB6(t o:List Cl) (p:Nat) (n:Nat) (st:PT) (h:H):Prop:=∃(i:Nat) (v:AV),n=o.length-i/\i<=o.length/\st.get 1=.int .i64 p/\st.get 7=dV t/\st.get 8=dV o/\st.get 10=v/\OwnR 39 h v (((o.take i).filter λc=>!gA gK t c).map ai)/\st.get 11=.int .i64 i
theorem FromQ.info{l:List Cl}{c:Cl}(h:FromQ l c) (hn:∀a∈l,∀b∈l,nv a+nv b<600):bY c=0/\nv c<600:=by obtain⟨a,d,b,e,r,f,rfl⟩:=h;have g:=hn a d b e;have⟨i,j⟩:=f.info g;have:=qj i o_;exact⟨this.valid,by have:=this.nvs;omega⟩
def OL(Inv:List Cl->Nat->Prop) (out:List Cl):Prop:=out.length<=60/\∃p o,Inv out p/\LN out o/\∀c∈o,gA gK out c=true
theorem Yh{Inv:List Cl->Nat->Prop}(K:Keeps Inv) (l:List Cl) (hl:l.length<=1000) (hv:∀c∈l,bY c=0) (hn:∀c∈l,nv c<600) (h0:∀t,BW gK l t->Inv t 10):∃v,az C 6 [dV l,.int .i64 10]=some v/\∃o e,v=.tuple [dV o,.int .i64 e]/\(e≠0\/e=0/\OL Inv o):=by
 refine mC rfl func6 rfl k_ (by simp[f6]) λR hR=>?_
 have fin:∀(st:PT) (h:H) (o:List Cl) (x:Ext) (e:Int),st.get 4=.isl (o.map ai) x->st.get 5=.int .i64 e->(e≠0\/e=0/\OL Inv o)->R .ret st h:=λst h o x e h2 h3 hq=>hR _ _ _ (.inr rfl) ⟨.tuple [dV o,.int .i64 e],⟨o,e,rfl,hq⟩,.tuple [.isl (o.map ai) x,.int .i64 e],by simp[ag,gk,cO,f6,go_sem,h2,h3],du rfl rfl s_⟩
 clear hR;have c1:=JI l .unk o_ λc hc=>gR (hv c hc)
 by_cases q1:tX l=0
 rotate_left
 ·simp[go_sem,c1,dV,q1];exact fin _ _ [] (.tok 1) _ g_ g_ (.inl q1)
 have⟨t0,hr0,c2⟩:=N3 l .unk o_ λc hc=>wK (hv c hc) (hn c hc)
 simp[go_sem,c1,dV,q1,c2];refine bX (NA6 Inv) 11 ⟨t0,10,rfl,o_,h0 t0 hr0,g_,by simp[go_sem,dV]⟩ ?_;clear c1 c2;rintro m st h ⟨t,p,rfl,hp,hI,g1,g7⟩;have tv:=K.val t p hI;have tn:=K.nvs t p hI;have⟨o,e,ho,c3⟩:=Tw t .unk tv tn;change ∀h,aj C h (.func 17 []) (some [dV t])=_ at c3;have hlo:=sG o;by_cases q2:e=0
 rotate_left
 ·simp[go_sem,g7,c3,q2];exact fin _ _ [] _ _ (by simp[go_sem];rfl) g_ (.inl q2)
 subst q2;obtain⟨htl,hA,hol⟩:t.length<=60/\LN t o/\o.length<=400:=by
  rcases ho with h|⟨_,h⟩
  ·exact absurd rfl h
  exact h
 clear ho;simp[go_sem,g7,c3];refine bX (NB6 t o p) o.length ⟨0,.isl [] (.tok h.length),rfl,aO _,g_,g_,g_,g_,.inr ⟨h.length,rfl,s_⟩,g_⟩ ?_;clear g1 g7 c3;rintro n st h ⟨i,v,rfl,hi,g1,g7,g8,g10,go,g11⟩;by_cases hlt:i<o.length
 ·have hlt':(i:Int)<o.length:=o_;have hix:aZ C.P 24 (dV o) (.int .i64 i)=some (.iptr (ai o[i]) 0):=vG o i hlt;have li:=sh o[i];have hfo:=(hA.1 _ (aG hlt)).info tn;have c4:∀h,aj C h (.func 18 []) (some [dV t,ai o[i]])=some (.bool (gA gK t o[i]),h):=Tv t o[i] .unk o_ (λc hc=>gR (tv c hc)) (wK hfo.1 hfo.2);have w2:=wS i o_;have htk:o.take (i+1)=o.take i++[o[i]]:=by rw[<-aW hlt]
  cases q:gA gK t o[i]with
  |true=>rw[q]at c4;simp[go_sem,g7,g8,g11,hlo,hlt',hix,li,c4,-Int.natCast_add,w2];exact⟨o.length-(i+1),o_,i+1,v,rfl,hlt,g_,g_,g_,g_,by rw[htk,gu];simpa[q]using go,g_⟩
  |false=>rw[q]at c4;obtain⟨y,rfl⟩:=go.isl;have hfl:=dS (λc=>!gA gK t c) (o.take i);rw[bU]at hfl;have⟨v',h',ha,hw,hkp,hid⟩:=nM (ys:=[o[i]]) (x:=.full) go (by simp only[eK];omega);rw[aM,bM]at ha;rw[show(o.take i).filter (λc=>!gA gK t c)++[o[i]]=(o.take (i+1)).filter (λc=>!gA gK t c) by rw[htk,gu];simp[q]]at hw;generalize (o.take i).filter (λc=>!gA gK t c)=fr at go g10 ha;simp[go_sem,g7,g8,g10,g11,hlo,hlt',hix,li,c4,oi,ha,show au (ai o[i])=true from rfl,-Int.natCast_add,w2];exact⟨o.length-(i+1),o_,i+1,v',rfl,hlt,g_,g_,g_,g_,hw,g_⟩
 have:i=o.length:=o_;subst this;rw[ak]at go;obtain⟨y,rfl⟩:=go.isl;have hfl:=dS (λc=>!gA gK t c) o;obtain⟨fr,hfr⟩:∃fr,fr=o.filter λc=>!gA gK t c:=⟨_,rfl⟩
 have hK:=λt'=>K.step t p o t' hI hA
 rw[<-hfr]at go g10 hfl hK;have hlf:=IY fr y;by_cases q3:fr=[]
 ·have hcov:∀c∈o,gA gK t c=true:=λc hc=>by rw[q3]at hfr;have:=(List.filter_eq_nil_iff.1 hfr.symm) c hc;simpa using this
  have q3':(fr.length:Int)=0:=by rw[q3];rfl
  simp[go_sem,g7,g8,g10,g11,hlo,hlf,q3'];exact fin _ _ t .unk 0 (by simp[go_sem,dV]) g_ (.inr ⟨rfl,htl,p,o,hI,hA,hcov⟩)
 have q3':¬(fr.length:Int)=0:=by have:=jY.2 q3;omega
 have hpos:=jY.2 q3;have w4:IntKind.i64.wrap ((p:Int)-fr.length)=(p:Int)-fr.length:=ay o_;by_cases q4:(p:Int)<fr.length
 ·have q4':(p:Int)-fr.length<0:=o_;simp[go_sem,g1,g8,g10,g11,hlo,hlf,q3,w4,q4'];exact fin _ _ [] _ 14 (by simp[go_sem];rfl) g_ (.inl d_)
 have frv:∀c∈fr,FromQ t c:=λc hc=>by rw[hfr]at hc;exact hA.1 c (cE.1 hc).1
 have q4':¬(p:Int)-fr.length<0:=o_;have n0:OwnR 39 h (.isl [] .full) (([]:List Cl).map ai):=.inl rfl;obtain⟨v1,h1,a1,go1,-,-⟩:=nM (ys:=t) (x:=.unk) n0 (by simp;omega);rw[cN]at go1;obtain⟨y1,rfl⟩:=go1.isl;obtain⟨v2,h2,a2,go2,-,-⟩:=nM (ys:=fr) (x:=y) go1 o_;obtain⟨y2,rfl⟩:=go2.isl;have b0:∀h,cQ C.P h 24 0 []=some (.isl [] .full,h):=λh=>cY u22 s37 z37 rfl o_ rfl rfl rfl s_ rfl
 obtain⟨t',hr',c6⟩:=N3 (t++fr) y2 (by simp;omega) λc hc=>by
  rcases aK.1 hc with hc|hc
  ·exact wK (tv c hc) (by have:=tn c hc c hc;omega)
  have⟨h1,h2⟩:=(frv c hc).info tn;exact wK h1 h2
 change bi C.P false h 24 (.isl [] .full) (dV t)=_ at a1
 have hnat:(p:Int)-fr.length=((p-fr.length:Nat):Int):=by omega
 generalize (t++fr).map ai=tf at a2 c6
 generalize hfe:fr.map ai=fe at a2 g10 hlf
 generalize hte:t.map ai=te at a1 a2
 simp[go_sem,g1,g7,g8,g10,g11,hlo,hlf,q3,w4,q4',b0,a1,a2,c6]
 exact⟨p-fr.length+1,by omega,t',p-fr.length,rfl,by omega,hK t' q3 (by omega) hr',by simp[go_sem,hnat],by simp[go_sem]⟩
theorem xf{own:List ByteArray}:∀ {l:Lq}{k n:Nat},k+l.length+own.length<999->NumQ own k n->∀b∈gh own l n,∃m,n<=m/\m<1000/\b.2=.mk 1 (qn m) b.1.sort []
 |[],_,_,_,_,b,hb=>by simp[gh]at hb
 |x::l,k,n,hk,h,b,hb=>by
  simp only[aL]at hk;have⟨h1,h2,h3⟩:=zK o_ h;rw[gh]at hb;rcases aV.1 hb with rfl|hb
  ·exact⟨_,h3,h2.2,rfl⟩
  have⟨m,d,a,c⟩:=xf (k:=k+1) o_ (h2.use o_) b hb;exact⟨m,o_,a,c⟩
theorem wa{own:List ByteArray}:∀ {l:Lq}{k n:Nat},k+l.length+own.length<999->NumQ own k n->((gh own l n).map (·.2)).Nodup
 |[],_,_,_,_=>by simp[gh]
 |x::l,k,n,hk,h=>by simp only[aL]at hk;have⟨h1,h2,h3⟩:=zK o_ h;have a:=h2.use (k:=k) o_;rw[gh,aM,gd];refine⟨λc=>?_,wa (k:=k+1) o_ a⟩;have⟨b,d,e⟩:=ae.1 c;have⟨m,i,f,g⟩:=xf (k:=k+1) o_ a b d;rw[g]at e;simp only[T.mk.injEq]at e;have:=L7 f h2.2 e.2.1;omega
theorem Ky{c:Cl}{f:Fa}(p:Pr c f) (hnd:((gh ((bS f.terms).map T.name) (bS (bN c)) 0).map (·.1)).Nodup):cov (apC c f) c:=by
 have o:=p.vars;have i:NumQ ((bS f.terms).map T.name) 0 0:=⟨aO _,d_⟩
 have a:0+(bS (bN c)).length+((bS f.terms).map T.name).length<999:=by rw[ax];omega
 have d:=nu ((bS f.terms).map T.name) (bS (bN c)) 0;refine CD (fa p.hc) ?_ (λb j=>?_) hnd (wa a i)
 ·rw[d];exact λg k t l v h n=>nw (kl k l) h n
 have⟨m,_,_,e⟩:=xf a i b j;have h:b.1∈bS (bN c):=by rw[<-d];exact df j
 rw[e];exact⟨mW h,rfl,rfl⟩
theorem PU{c:Cl}{f:Fa}{t:T}(p:Pr c f) (hnd:((gh ((bS f.terms).map T.name) (bS (bN c)) 0).map (·.1)).Nodup) (hg:oB c f=true) (hk:f.kind=1) (ht:f.terms=[t]) (hgr:oC t) (hz:t.size<=40){θ:T->T}(hs:fS θ) (hθ:fu c θ=t):jl f c=true:=by
 have d:(apC c f).head.terms.length=1:=by
  have:c.head.terms.length=f.terms.length:=by simp only[oB,bI,decide_eq_true_eq]at hg;exact hg.2
  rw[ht]at this;simpa[apC,fK,cD]using this
 obtain⟨a,m⟩:∃a,(apC c f).head.terms=[a]:=by
  match h:(apC c f).head.terms with
  |[]=>rw[h]at d;simp at d
  |[a]=>exact⟨a,rfl⟩
  |_::_::_=>rw[h]at d;simp at d
 have⟨θ',j,u,_⟩:=(Ky p hnd).2 θ hs;have v:bc θ' a=t:=by
  have:fu (apC c f) θ'=bc θ' a:=by unfold fu dQ;rw[m];rfl
  rw[<-this,u,hθ]
 have w:=Dz p hg;have⟨k,_⟩:=w;have g:∀x∈(apC c f).head.terms,bA x=0:=(p.apval _ (by simp[aN])).2;have i:=p.fact.2.2;have⟨n,y,D,e,o,_,_,z,_⟩:=KS g i (by rw[d,ht];rfl) (by rw[d];decide);rw[z]at k;simp only[aA,AV.tuple.injEq,ct,AV.int.injEq,true_and,and_true]at k;have r:=vk g i;rw[m,ht]at o r;have l:=qy j n _ _ y e r (λq s=>by simp only[gq,List.zip_nil_left,aS]at s;subst s;dsimp only;rw[v,A6 t hgr];exact⟨rfl,hz⟩) (λb A=>by simp at A) o
 have B:(unV c f).2=0:=by rw[<-k.2,l.1]
 unfold jl nX;rw[if_pos hg,B];simp[hk]
theorem Iv{S:Ru->Prop}:∀ {l:Lq},(∀w∈l,∃n,Der S w n)->∃n,DerL S l n
 |[],_=>⟨0,.nil⟩
 |t::l,h=>by
  have⟨n,hn⟩:=h t s_;have⟨m,a⟩:=Iv (l:=l) λw b=>h w (by simp[b])
  exact⟨n+m,.cons hn a⟩
theorem NU{l:List Cl}{c:Cl}(hc:c∈l) (hk:c.head.kind=1){θ:T->T}(hs:fS θ) (h:∀w∈ii c θ,w.size<=40/\∃n,Der (vF l) w n) (hz:(fu c θ).size<=40):∃n,Der (vF l) (fu c θ) n:=by
 have⟨n,b⟩:=Iv λw a=>(h w a).2
 exact⟨n+1,Der.mk (r:=Lz c θ) ⟨c,hc,θ,hk,hs,rfl,hz,λw a=>(h w a).1⟩ b⟩
def grd(s:Lb) (v:T):T:=match s.find? λb=>decide (b.1.cmp v=0)with
 |some b=>b.2
 |none=>.mk 2 v.name v.sort []
theorem G9{s:Lb}(h:∀b∈s,b.1.kind=1->b.1.sort≠0->b.2.kind=2/\b.2.sort=b.1.sort):fS (grd s):=vS h
theorem Pv{s:Lb}{v:T}(h:∃b∈s,b.1=v):grd s v=dp s v:=by
 unfold grd;cases a:s.find? λb=>decide (b.1.cmp v=0)with
 |some b=>exact(wt a).1.symm
 |none=>have⟨b,c,e⟩:=h;exact absurd e (M8 a b c)
theorem JR{s:Lb}:∀t:T,bnd s t->bc (grd s) t=cy s t:=by
 refine T.ind λt c h=>?_
 rw[fh];by_cases k:t.kind=1
 ·rw[if_pos k,ea k,Pv (h t (dD t) k)]
 rw[if_neg k,dz k];congr 1
 exact bf λa b=>c a b λv d e=>h v (mem_walk.2 (.inr ⟨a,b,d⟩)) e
def zB(x t:T):Bool:=decide (x.sort=0)||(decide (t.kind≠3)&&decide (t.sort=x.sort))
structure PairsOk (p t:T) (r:Lb):Prop where
 vars:∀b∈r,b.1.kind=1/\b.1∈bm bD p/\b.2∈bm bD t/\zB b.1 b.2=true
 put:∀θ:T->T,(∀b∈r,θ b.1=b.2)->bc θ p=t
 bound:∀v∈bm bD p,v.kind=1->∃b∈r,b.1=v
structure PairsL (ps ts:Lq) (r:Lb):Prop where
 vars:∀b∈r,b.1.kind=1/\(∃p∈ps,b.1∈bm bD p)/\(∃t∈ts,b.2∈bm bD t)/\zB b.1 b.2=true
 put:∀θ:T->T,(∀b∈r,θ b.1=b.2)->ps.map (bc θ)=ts
 bound:∀p∈ps,∀v∈bm bD p,v.kind=1->∃b∈r,b.1=v
theorem PairsL.nil:PairsL [] [] []:=⟨s_,λ_ _=>rfl,s_⟩
theorem PairsL.snoc{ps ts:Lq}{r r':Lb}{p t:T}(h:PairsL ps ts r) (h':PairsOk p t r'):PairsL (ps++[p]) (ts++[t]) (r++r'):=by
 refine⟨λb a=>?_,λθ i=>?_,λq c v d j=>?_⟩
 ·rcases aK.1 a with a|a
  ·have⟨f,⟨k,g,a3⟩,⟨l,a4,a5⟩,m⟩:=h.vars b a;exact⟨f,⟨k,by simp[g],a3⟩,⟨l,by simp[a4],a5⟩,m⟩
  have⟨f,g,a3,a4⟩:=h'.vars b a;exact⟨f,⟨p,s_,g⟩,⟨t,s_,a3⟩,a4⟩
 ·rw[List.map_append,h.put θ λb a=>i b (by simp[a]),aM,h'.put θ λb a=>i b (by simp[a])];rfl
 rcases aK.1 c with c|c
 ·have⟨b,a,e⟩:=h.bound q c v d j;exact⟨b,by simp[a],e⟩
 rw[aS.1 c]at d;have⟨b,a,e⟩:=h'.bound v d j;exact⟨b,by simp[a],e⟩
theorem KA{p t:T}(hk:p.kind=1) (hl:p.kids=[]) (hf:zB p t=true):PairsOk p t [(p,t)]:=by
 refine⟨λb a=>?_,λθ c=>?_,λv d _=>?_⟩
 ·rw[aS.1 a];exact⟨hk,dD p,dD t,hf⟩
 ·rw[ea hk];exact c (p,t) s_
 rcases mem_walk.1 d with rfl|⟨k,hk,_⟩
 ·exact⟨(v,t),s_,rfl⟩
 rw[hl]at hk;simp at hk
theorem Ge{p:T}(hk:p.kind≠1) (hl:p.kids=[]):PairsOk p p []:=by
 refine⟨s_,λθ _=>?_,λv a b=>?_⟩
 ·rw[dz hk,hl];cases p;subst hl;rfl
 rcases mem_walk.1 a with rfl|⟨k,hk,_⟩
 ·exact absurd b hk
 rw[hl]at hk;simp at hk
theorem Gf{p t:T}{r:Lb}(hk:p.kind≠1) (h1:p.kind=t.kind) (h2:p.name=t.name) (h3:p.sort=t.sort) (h:PairsL p.kids t.kids r):PairsOk p t r:=by
 refine⟨λb d=>?_,λθ e=>?_,λv f a=>?_⟩
 ·have⟨g,⟨i,j,a3⟩,⟨l,a4,a5⟩,m⟩:=h.vars b d;exact⟨g,mem_walk.2 (.inr ⟨i,j,a3⟩),mem_walk.2 (.inr ⟨l,a4,a5⟩),m⟩
 ·rw[dz hk,h.put θ e,h1,h2,h3];cases t;rfl
 rcases mem_walk.1 f with rfl|⟨k,c,n⟩
 ·exact absurd a hk
 exact h.bound k c v n a
def E1(l:Lb):Prop:=∀b∈l,∀c∈l,b.1=c.1->b.2=c.2
theorem Ae{l:Lb}(h:E1 l){b:T × T}(hb:b∈l):dp l b.1=b.2:=by
 have f:∀m:Lb,(∀c∈m,c∈l)->(∃c∈m,c.1=b.1)->dp m b.1=b.2:=by
  intro m;induction m with
  |nil=>rintro _ ⟨c,d,_⟩;simp at d
  |cons a m j=>
   rintro i ⟨c,d,e⟩;rw[dp];split
   ·rename_i g;exact h a (i a s_) b hb (cmp_zero.1 g)
   rename_i g;refine j (λc d=>i c (by simp[d])) ⟨c,?_,e⟩;rcases aV.1 d with rfl|d
   ·exact absurd (cmp_zero.2 e) g
   exact d
 exact f l (λ_ h=>h) ⟨b,hb,rfl⟩
def jZ(ps:Lb):Lq->Lb
 |[]=>[]
 |v::l=>match ps.find? λb=>decide (b.1.cmp v=0)with
  |some b=>if b.2.cmp v=0 then jZ ps l else(v,b.2)::jZ ps l
  |none=>jZ ps l
theorem oZ{ps:Lb}:∀ {l:Lq}{b:T × T},b∈jZ ps l->b∈ps/\b.1∈l
 |[],b,h=>by simp[jZ]at h
 |v::l,b,h=>by
  rw[jZ]at h;split at h
  ·rename_i c hc;have h1:=jA hc;have a:c.1=v:=cmp_zero.1 (by simpa using pB hc);split at h
   ·exact⟨(oZ h).1,by simp[(oZ h).2]⟩
   rcases aV.1 h with rfl|h
   ·subst a;exact⟨h1,s_⟩
   exact⟨(oZ h).1,by simp[(oZ h).2]⟩
  exact⟨(oZ h).1,by simp[(oZ h).2]⟩
theorem AO{ps:Lb}{v:T}(hb:∃b∈ps,b.1=v) (hv:∀b∈ps,b.1=v->b.2≠v):∀ {l:Lq},v∈l->∃b∈jZ ps l,b.1=v
 |u::l,h=>by
  rw[jZ];rcases aV.1 h with rfl|h
  ·split
   ·rename_i c hc;have h1:=jA hc;have a:c.1=v:=cmp_zero.1 (by simpa using pB hc);rw[if_neg λe=>hv c h1 a (cmp_zero.1 e)];exact⟨(v,c.2),s_,rfl⟩
   rename_i hc;have⟨b,hb,e⟩:=hb;have:=List.find?_eq_none.1 hc b hb;simp only[decide_eq_true_eq]at this;exact absurd (cmp_zero.2 e) this
  have⟨b,hb,e⟩:=AO hb hv h;split
  ·split
   ·exact⟨b,hb,e⟩
   exact⟨b,by simp[hb],e⟩
  exact⟨b,hb,e⟩
structure Good (s:Lb):Prop where
 var:∀b∈s,b.1.kind=1/\b.1.kids=[]
 grnd:∀b∈s,oC b.2
 val:∀b∈s,cz b.2=0
 fits:∀b∈s,zB b.1 b.2=true
 func:E1 s
theorem Good.nil:Good []:=⟨s_,s_,s_,s_,λb a=>by simp at a⟩
theorem By{t v:T}(h:v∈bm bD t) (hk:v.kind=1):v∈jS t:=mem_setS.2 (cE.2 ⟨h,by simp[isK,hk]⟩)
def LL(s:Lb) (p:T) (ts:Lq) (s':Lb):Prop:=∃t∈ts,∃ps,PairsOk (cy s p) t ps/\E1 ps/\s'.Perm (s++jZ ps (jS (cy s p)))
theorem JZ{t:T}:∀ {u:T},u∈bm bD t->∀v∈bm bD u,v∈bm bD t:=by
 refine T.ind (p:=λt=>∀ {u:T},u∈bm bD t->∀v∈bm bD u,v∈bm bD t) (λt d u a v b=>?_) t;rcases mem_walk.1 a with rfl|⟨k,c,a⟩
 ·exact b
 exact mem_walk.2 (.inr ⟨k,c,d k c a v b⟩)
theorem Ev{t u:T}(h:oC t) (hu:u∈bm bD t):oC u:=λv a=>h v (JZ hu v a)
theorem C9{s:Lb}{v:T}(h:∃b∈s,b.1=v):∃c∈s,c.1=v/\dp s v=c.2:=by
 obtain⟨b,d,rfl⟩:=h;induction s with
 |nil=>simp at d
 |cons a s g=>
  rw[dp];split
  ·rename_i f;exact⟨a,s_,cmp_zero.1 f,rfl⟩
  rename_i f;rcases aV.1 d with rfl|d
  ·exact absurd (cmp_zero.2 rfl) f
  have⟨c,i,e⟩:=g d;exact⟨c,by simp[i],e⟩
theorem Ad{s:Lb}{v:T}(h:¬ ∃b∈s,b.1=v):dp s v=v:=by
 rcases iF s v with e|⟨b,a,c,_⟩
 ·exact e
 exact absurd ⟨b,a,cmp_zero.1 c⟩ h
theorem EP{s:Lb}(hg:∀b∈s,oC b.2):∀p:T,jI p->∀v∈bm bD (cy s p),v.kind=1->v∈bm bD p/\¬ ∃b∈s,b.1=v:=by
 refine T.ind λp m j v d h=>?_
 rw[fh]at d;by_cases k:p.kind=1
 ·rw[if_pos k]at d;by_cases i:∃b∈s,b.1=p
  ·have⟨c,n,_,e⟩:=C9 i;rw[e]at d;exact absurd h (hg c n v d)
  rw[Ad i]at d;rcases mem_walk.1 d with rfl|⟨a,g,_⟩
  ·exact⟨dD v,i⟩
  rw[j p (dD p) k]at g;simp at g
 rw[if_neg k]at d;rcases mem_walk.1 d with rfl|⟨a,g,d⟩
 ·exact absurd h k
 obtain⟨l,f,rfl⟩:=ae.1 g;have⟨o,q⟩:=m l f (kI j f) v d h;exact⟨mem_walk.2 (.inr ⟨l,f,o⟩),q⟩
theorem L8{s:Lb}:∀p:T,jI p->∀v∈bm bD p,v.kind=1->(¬ ∃b∈s,b.1=v)->v∈bm bD (cy s p):=by
 refine T.ind λp h e v d f g=>?_
 rw[fh];by_cases k:p.kind=1
 ·rcases mem_walk.1 d with rfl|⟨a,c,_⟩
  ·rw[if_pos k,Ad g];exact dD v
  rw[e p (dD p) k]at c;simp at c
 rw[if_neg k];rcases mem_walk.1 d with rfl|⟨a,c,d⟩
 ·exact absurd f k
 exact mem_walk.2 (.inr ⟨cy s a,ae.2 ⟨a,c,rfl⟩,h a c (kI e c) v d f g⟩)
theorem PO{s s':Lb}(hg:∀b∈s,oC b.2) (hs:∀b∈s,b∈s') (hf:E1 s'):∀p:T,bc (dp s') (cy s p)=cy s' p:=by
 refine T.ind λp g=>?_
 rw[fh,fh];by_cases k:p.kind=1
 ·rw[if_pos k,if_pos k];by_cases d:∃b∈s,b.1=p
  ·obtain⟨c,f,rfl,e⟩:=C9 d;rw[e,A6 _ (hg c f),Ae hf (hs c f)]
  rw[Ad d,ea k]
 rw[if_neg k,if_neg k,dz (show(T.mk p.kind p.name p.sort _).kind≠1 from k)];show T.mk p.kind p.name p.sort ((p.kids.map (cy s)).map (bc (dp s')))=_;rw[eG];congr 1
 exact bf λa h=>g a h
theorem PP{s s':Lb}(hs:∀b∈s,b∈s') (hf:E1 s'){q:T}(hq:bnd s q):bnd s' q/\cy s' q=cy s q:=by
 refine⟨λv d f=>?_,?_⟩
 ·have⟨b,h,e⟩:=hq v d f;exact⟨b,hs b h,e⟩
 revert hq
 refine T.ind (p:=λq=>bnd s q->cy s' q=cy s q) (λq i hq=>?_) q;rw[fh,fh s];by_cases k:q.kind=1
 ·rw[if_pos k,if_pos k];obtain⟨c,j,rfl,e⟩:=C9 (hq q (dD q) k);rw[e,Ae hf (hs c j)]
 rw[if_neg k,if_neg k];congr 1
 exact bf λa g=>i a g λv d f=>hq v (mem_walk.2 (.inr ⟨a,g,d⟩)) f
theorem tL{t:T}(h:cz t=0):jI t:=λy a k=>lH (eF (pQ t h y a)) (.inl k)
theorem QC{s:Lb}{p:T}{ts:Lq}{s':Lb}(hs:Good s) (hp:cz p=0) (hts:∀t∈ts,oC t/\cz t=0) (h:LL s p ts s'):Good s'/\bnd s' p/\cy s' p∈ts/\∀q,bnd s q->bnd s' q/\cy s' q=cy s q:=by
 have⟨t,B,l,k,D,m⟩:=h;have⟨F,G⟩:=hts t B;have y:=tL hp;have d:∀b,b∈s'↔b∈s\/b∈jZ l (jS (cy s p)):=λb=>by rw[m.mem_iff,aK]
 have f:∀b∈jZ l (jS (cy s p)),b∈l:=λb a=>(oZ a).1
 have n:∀b∈l,b.1∈bm bD p/\(¬ ∃c∈s,c.1=b.1):=λb a=>EP hs.grnd p y b.1 (k.vars b a).2.1 (k.vars b a).1
 have o:∀b∈l,oC b.2:=λb a=>Ev F (k.vars b a).2.2.1
 have r:∀v:T,v.kind=1->∀b∈l,b.1=v->b.2≠v:=λv z b a _ e=>o b a b.2 (dD _) (by rw[e];exact z)
 have g:E1 s':=λb a c i e=>by
  rcases(d b).1 a with a|a<;>rcases(d c).1 i with i|i
  ·exact hs.func b a c i e
  ·exact absurd ⟨b,a,e⟩ (n c (f c i)).2
  ·exact absurd ⟨c,i,e.symm⟩ (n b (f b a)).2
  exact D b (f b a) c (f c i) e
 have j:∀b∈s,b∈s':=λb a=>(d b).2 (.inl a)
 have u:∀b∈l,dp s' b.1=b.2:=λb a=>by have A:=k.vars b a;have⟨c,i,e⟩:=AO (v:=b.1) ⟨b,a,rfl⟩ (r b.1 A.1) (By A.2.1 A.1);rw[<-e,Ae g ((d c).2 (.inr i))];exact D c (f c i) b a e
 refine⟨⟨λb a=>?_,λb a=>?_,λb a=>?_,λb a=>?_,g⟩,λv z x=>?_,?_,λq I=>PP j g I⟩
 ·rcases(d b).1 a with a|a
  ·exact hs.var b a
  exact⟨(k.vars b (f b a)).1,y b.1 (n b (f b a)).1 (k.vars b (f b a)).1⟩
 ·rcases(d b).1 a with a|a
  ·exact hs.grnd b a
  exact o b (f b a)
 ·rcases(d b).1 a with a|a
  ·exact hs.val b a
  exact pQ t G b.2 (k.vars b (f b a)).2.2.1
 ·rcases(d b).1 a with a|a
  ·exact hs.fits b a
  exact(k.vars b (f b a)).2.2.2
 ·by_cases E:∃b∈s,b.1=v
  ·have⟨b,a,e⟩:=E;exact⟨b,j b a,e⟩
  have w:=L8 p y v z x E;have⟨c,i,e⟩:=AO (k.bound v w x) (r v x) (By w x);exact⟨c,(d c).2 (.inr i),e⟩
 rw[<-PO hs.grnd j g p,k.put (dp s') u];exact B
inductive Chain (ts:Lq):Lq->Lb->Prop
 |nil:Chain ts [] []
 |snoc {ps:Lq}{s:Lb}{p:T}{s':Lb}:Chain ts ps s->LL s p ts s'->Chain ts (ps++[p]) s'
theorem Np{ts:Lq}(hts:∀t∈ts,oC t/\cz t=0){ps:Lq}{s:Lb}(h:Chain ts ps s):(∀p∈ps,cz p=0)->Good s/\∀p∈ps,bnd s p/\cy s p∈ts:=by
 induction h with
 |nil=>exact λ_=>⟨.nil,s_⟩
 |snoc u d e=>
  intro c;have⟨g,k⟩:=e λp b=>c p (by simp[b])
  have⟨f,i,j,l⟩:=QC g (c _ s_) hts d;refine⟨f,λq a=>?_⟩;rcases aK.1 a with a|a
  ·have⟨m,n⟩:=k q a;have⟨o,r⟩:=l q m;exact⟨o,by rw[r];exact n⟩
  rw[aS.1 a];exact⟨i,j⟩
theorem GX{s:Lb}(hs:Good s){p:T}(hl:jI p) (hb:bnd s p):oC (cy s p):=λv b a=>by have⟨c,d⟩:=EP hs.grnd p hl v b a;exact d (hb v c a)
theorem Ew{s:Lb}(hs:Good s):fS (grd s):=G9 λb a _ d=>by have c:=hs.fits b a;simp only[zB,bz,bI,decide_eq_true_eq]at c;have e:=c.resolve_left d;have f:=hs.grnd b a b.2 (dD _);have g:=xe (eF (hs.val b a));exact⟨o_,e.2⟩
def BD(l:List Cl) (t:T):Prop:=oC t/\t.size<=7/\cz t=0/\∃n,Der (vF l) t n
theorem SL{l m:Lq}(hl:l.Nodup) (hs:∀x∈l,x∈m) (hm:m.length<=l.length){x:T}(hx:x∈m) (_hmn:m.Nodup):x∈l:=by
 by_cases h:x∈l
 ·exact h
 have:=zE (l:=x::l) (m:=m) (by simp[hl,h]) λy a=>by
  rcases aV.1 a with rfl|a
  ·exact hx
  exact hs y a
 simp only[aL]at this;omega
theorem rT(l:Lq):(bS l).Nodup:=by have c:(bS l).Pairwise lt:=oX _;exact c.imp fun {a b} h (e:a=b)=>AP (by rw[e]at h;exact h)
theorem Gk{s:Lb}(hs:∀b∈s,cz b.2=0):∀t:T,cz t=0->cz (cy s t)=0:=by
 refine T.ind λt g c=>?_
 rw[fh];split
 ·rcases iF s t with e|⟨b,h,_,e⟩
  ·rw[e];exact c
  rw[e];exact hs b h
 rw[fi]at c ⊢;have⟨i,j⟩:=thn_zero.1 c;have e:gL (.mk t.kind t.name t.sort (t.kids.map (cy s)))=gL t:=by cases t;unfold gL kz;simp only[T.kind,T.name,T.sort,T.kids,ax];congr
 rw[e,i,thn,if_pos rfl];refine ve λk d=>?_
 change k∈t.kids.map (cy s)at d;obtain⟨f,a,rfl⟩:=ae.1 d;exact g f a (jH j f a)
theorem Pt{l:List Cl}{c:Cl}(hc:c∈l) (hv:bY c=0) (hk:c.head.kind=1){ts:Lq}(hts:∀t∈ts,BD l t){s:Lb}(h:Chain ts (bd c.body) s) (hn:(bS (bd c.body)).length=(bS (bN c)).length) (hz:(cy s (dQ c.head)).size<=7):BD l (cy s (dQ c.head)):=by
 have j:∀t∈bd c.body,t∈bN c:=λt b=>by have⟨f,k,d⟩:=qD (λf k=>fa hv f (aa _ k)) b;exact kl (aa _ k) d
 have e:∀t∈bN c,cz t=0:=λt b=>by have⟨f,k,d⟩:=bR.1 ((gb c t).2 b);exact(bg ((eS ((dH hv).2 f k)).2.2 t d)).1
 have⟨g,u⟩:=Np (λt b=>⟨(hts t b).1,(hts t b).2.2.1⟩) h λp E=>e p (j p E)
 have i:dQ c.head∈bN c:=by
  have:c.head.terms≠[]:=fa hv c.head (by simp[aN]);refine kl (f:=c.head) (by simp[aN]) ?_;unfold dQ;cases F:c.head.terms with
  |nil=>exact absurd F this
  |cons a r=>simp
 have m:bnd s (dQ c.head):=λv y n=>by
  have G:v∈bS (bN c):=nw i y n;have I:v∈bS (bd c.body):=SL (rT _) (λx B=>by have⟨t,b,z⟩:=oN B;exact nw (j t b) z (mW B)) o_ G (rT _)
  have⟨t,b,A⟩:=oN I;exact(u t b).1 v A n
 refine⟨GX g (tL (e _ i)) m,hz,Gk g.val _ (e _ i),?_⟩;have D:fu c (grd s)=cy s (dQ c.head):=JR _ m;have q:∀w∈ii c (grd s),BD l w:=λw q=>by obtain⟨t,b,rfl⟩:=ae.1 q;rw[JR t (u t b).1];exact hts _ (u t b).2
 rw[<-D];exact NU hc hk (Ew g) (λw o=>⟨by have:=(q w o).2.1;omega,(q w o).2.2.2⟩) (by rw[D];omega)
theorem Eh{smp:Cl->Cl}:∀(l o:List Cl) (d:Cl),d∈l.foldl (BV smp) o->d∈o\/∃c∈l,d=smp c
 |[],o,d,h=>.inl h
 |a::l,o,d,h=>by
  rw[dc]at h;rcases Eh l _ d h with h|⟨c,hc,e⟩
  ·rw[BV]at h;split at h
   ·exact .inl h
   rcases rN h with e|h
   ·exact .inr ⟨a,s_,e⟩
   exact .inl h
  exact .inr ⟨c,by simp[hc],e⟩
theorem Fs{smp:Cl->Cl}:∀(l o:List Cl) (d:Cl),d∈o->d∈l.foldl (BV smp) o
 |[],o,d,h=>h
 |a::l,o,d,h=>by
  rw[dc];refine Fs l _ d ?_;rw[BV];split
  ·exact h
  exact Aa h
theorem Ft{smp:Cl->Cl}:∀(l o:List Cl) (c:Cl),c∈l->qL (smp c)=true\/smp c∈l.foldl (BV smp) o
 |a::l,o,c,h=>by
  rw[dc];rcases aV.1 h with rfl|h
  ·cases q:qL (smp c)with
   |true=>exact .inl rfl
   |false=>refine .inr (Fs l _ _ ?_);rw[BV,if_neg (by simp[q])];exact Ab λa h=>(I1 h).symm
  exact Ft l _ c h
theorem zd{c:Cl}(h:qL c=true):c.head∈c.body:=by have⟨g,a,e⟩:=dT.1 h;have b:g=c.head:=zP (by simpa using e);rw[<-b];exact a
theorem Cj{l out:List Cl}(h:BW gK l out){d:Cl}(hd:d∈out):∃c∈l,d=gK c:=by
 have⟨j,a,_⟩:=(h.1 d).1 hd;rcases Eh l [] d (bQ a)with h|h
 ·simp at h
 exact h
theorem IE{l out:List Cl}(h:BW gK l out) (hv:∀c∈l,bY c=0/\nv c<600):∀c∈l,c.head.kind=1->∀θ,fS θ->had out (fu c θ) (ii c θ):=by
 refine GV (all:=RK gK l) (smp:=gK) (λc a=>(qj (hv c a).1 (hv c a).2).covers) (λc a=>?_) λj d b e=>(h.1 d).2 ⟨j,b,e⟩
 rcases Ft (smp:=gK) l [] c a with h|h
 ·exact .inl (zd h)
 exact .inr h
def qT(c:Cl):Prop:=(∀f∈c.body,f.terms.length<=1)/\c.head.terms.length<=2
theorem Ag{c d:Cl}(h:Can c d) (hc:qT c):qT d:=⟨h.fbody 1 hc.1,by rw[h.fhead];exact hc.2⟩
theorem xm(g:T->T) (f:Fa):(cq g f).terms.length=f.terms.length:=by simp[cq]
theorem B0(l:Lb) (f:Fa):(cD l f).terms.length=f.terms.length:=by simp[cD]
theorem ResQ.more{a b r:Cl}(h:ResQ a b r 0) (hn:nv a+nv b<600):kc a=true/\b.body.any gU=true/\(qT a->qT b->qT r):=by
 rcases h with⟨h,_⟩|h|⟨m,_,o,sel,j,l,d,_,_,_,n,v,p,w,_,_,⟨_,h⟩|⟨_,_,q,x,s⟩⟩
 ·cases h
 ·cases h
 ·cases h
 subst s;refine⟨m,dT.2 ⟨sel,by rw[l];simp,d⟩,λt e=>Ag (DW q o_) ⟨λf u=>?_,?_⟩⟩
 ·obtain⟨g,i,rfl⟩:=ae.1 u;rw[B0];rcases aK.1 i with i|i
  ·obtain⟨k,c,rfl⟩:=ae.1 i;rw[xm];exact t.1 k c
  obtain⟨k,c,rfl⟩:=ae.1 i;rw[xm];refine e.1 k ?_;rw[l];rcases aK.1 c with c|c<;>simp[c]
 show(cD p (cq (suf 114) b.head)).terms.length<=2;rw[B0,xm];exact e.2
def pK:Nat->Nat
 |0=>2
 |1=>4
 |n+2=>pK (n+1)+pK n
theorem Ak(n:Nat):pK n<=pK (n+1):=by
 match n with
 |0=>decide
 |n+1=>rw[show n+1+1=n+2 from rfl,pK];omega
theorem th{n m:Nat}(h:n<=m):pK n<=pK m:=by
 induction m with
 |zero=>rw[Nat.le_zero.1 h];exact aP _
 |succ m a=>
  rcases fj n (m+1)with b|b
  ·exact cJ (a o_) (Ak m)
  rw[show n=m+1 by omega];exact aP _
def NvB(t:List Cl) (q:Nat):Prop:=∃S U,S<=pK q/\U<=pK q/\S+U<=pK (q+1)/\∀c∈t,if c.body.any gU=true then nv c<=U else nv c<=S
theorem NvB.max{t:List Cl}{q:Nat}(h:NvB t q):∀c∈t,nv c<=pK q:=λc a=>by have⟨S,U,d,e,_,b⟩:=h;have:=b c a;split at this<;>omega
theorem IP{l t:List Cl}{q:Nat}(h:NvB l q) (hq:q<=10) (hv:∀c∈l,bY c=0) (hr:BW gK l t):NvB t q:=by
 have f:=h.max;have⟨S,U,g,i,j,m⟩:=h;refine⟨S,U,g,i,j,λd n=>?_⟩;obtain⟨c,a,rfl⟩:=Cj hr n;have p:=f c a;have r:=th hq;have o:pK 10=288:=d_;have k:=qj (hv c a) o_;have b:=m c a;have s:=k.nvs;rw[k.sel];by_cases e:c.body.any gU=true
 ·rw[if_pos e]at b ⊢;omega
 rw[if_neg e]at b ⊢;omega
theorem MP{t fr:List Cl}{q:Nat}(h:NvB t q) (hq:q<=10) (_hv:∀c∈t,bY c=0) (hf:∀c∈fr,FromQ t c) (hne:fr≠[]):NvB (t++fr) (q+fr.length):=by
 have u:=h.max;have z:pK 10=288:=d_;have A:=th hq;have⟨S,U,E,F,G,m⟩:=h;have i:∀c∈fr,nv c<=S+U:=λc o=>by obtain⟨a,v,b,w,r,j,rfl⟩:=hf c o;have I:=u a v;have nb:=u b w;have⟨B,J⟩:=j.info o_;have⟨x,D,_⟩:=j.more o_;have k:=qj B o_;have K:=k.nvs;have p:=m a v;have s:=m b w;rw[if_pos D]at s;simp only[kc,bI,cL]at x;rw[if_neg (by simp[x.2])]at p;omega
 have L:pK (q+1)<=pK (q+fr.length):=th (by have:=jY.2 hne;omega);have M:=Ak q;match fr,hne with
 |[c],_=>
  have o:=i c s_;have N:pK (q+1+1)=pK (q+1)+pK q:=rfl;simp only[eK]at *;by_cases y:c.body.any gU=true
  ·refine⟨S,S+U,o_,o_,o_,λd f=>?_⟩;rcases aK.1 f with f|f
   ·have:=m d f;by_cases g:d.body.any gU=true
    ·rw[if_pos g]at this ⊢;omega
    rw[if_neg g]at this ⊢;omega
   rw[aS.1 f,if_pos y];exact o
  refine⟨S+U,U,o_,o_,o_,λd f=>?_⟩;rcases aK.1 f with f|f
  ·have:=m d f;by_cases g:d.body.any gU=true
   ·rw[if_pos g]at this ⊢;omega
   rw[if_neg g]at this ⊢;omega
  rw[aS.1 f,if_neg y];exact o
 |c::d::l,_=>
  have O:pK (q+1+2)=pK (q+1+1)+pK (q+1):=rfl;have Q:=Ak (q+1);have V:pK (q+1+2)<=pK (q+(c::d::l).length+1):=th s_;refine⟨S+U,S+U,o_,o_,o_,λe n=>?_⟩;have:nv e<=S+U:=by
   rcases aK.1 n with n|n
   ·have:=m e n;split at this<;>omega
   exact i e n
  split<;>exact this
def InvS(l t:List Cl) (p:Nat):Prop:=p<=10/\(∀c∈t,bY c=0)/\(∀c∈t,qT c)/\NvB t (10-p)/\∀c∈l,c.head.kind=1->∀θ,fS θ->had t (fu c θ) (ii c θ)
theorem InvS.nvs{l t:List Cl}{p:Nat}(h:InvS l t p):∀c∈t,nv c<=288:=λc a=>by have d:=h.2.2.2.1.max c a;have e:=th (show 10-p<=10 by omega);have b:pK 10=288:=d_;omega
theorem IB{l t:List Cl}(hr:BW gK l t) (hv:∀c∈l,bY c=0/\nv c<600) (hf:∀c∈l,qT c):(∀c∈t,bY c=0)/\∀c∈t,qT c:=by
 refine⟨λd b=>?_,λd b=>?_⟩
 ·obtain⟨c,a,rfl⟩:=Cj hr b;exact(qj (hv c a).1 (hv c a).2).valid
 obtain⟨c,a,rfl⟩:=Cj hr b;exact Ag (qj (hv c a).1 (hv c a).2) (hf c a)
theorem G6{l t:List Cl}(hv:∀c∈l,bY c=0) (hf:∀c∈l,qT c) (hn:∀c∈l,nv c<=2) (hr:BW gK l t):InvS l t 10:=by
 have a:∀c∈l,bY c=0/\nv c<600:=λc b=>⟨hv c b,by have:=hn c b;omega⟩
 have⟨d,e⟩:=IB hr a hf;refine⟨o_,d,e,IP (l:=l) ⟨2,2,d_,d_,d_,λc b=>?_⟩ o_ hv hr,IE hr a⟩;have:=hn c b;split<;>exact this
theorem S4(l:List Cl):Keeps (InvS l):=by
 refine⟨λt p h=>h.2.1,λt p h a g b i=>?_,λt p o O h E q v u=>?_⟩
 ·have:=h.nvs a g;have:=h.nvs b i;omega
 have k:=h.nvs;have⟨Q,B,w,F,G⟩:=h;obtain⟨m,s⟩:∃m,m=o.filter λc=>!gA gK t c:=⟨_,rfl⟩
 rw[<-s]at q v u ⊢;have x:∀c∈m,FromQ t c:=λc e=>E.1 c (by rw[s]at e;exact(cE.1 e).1)
 have f:∀a∈t,∀b∈t,nv a+nv b<600:=λa g b i=>by have:=k a g;have:=k b i;omega
 have n:∀c∈t++m,bY c=0/\nv c<600:=λc e=>by
  rcases aK.1 e with e|e
  ·exact⟨B c e,by have:=k c e;omega⟩
  exact(x c e).info f
 have y:∀c∈t++m,qT c:=λc e=>by
  rcases aK.1 e with e|e
  ·exact w c e
  obtain⟨a,g,b,i,r,j,rfl⟩:=x c e;have⟨I,S⟩:=j.info (f a g b i);exact Ag (qj I (by have:=f a g b i;omega)) ((j.more (f a g b i)).2.2 (w a g) (w b i))
 have⟨J,K⟩:=IB u n y;have D:=MP F o_ B x q;rw[show 10-p+m.length=10-(p-m.length) by omega]at D;refine⟨o_,J,K,IP D o_ (λc e=>(n c e).1) u,λc e L θ M=>?_⟩;exact M3 (λd N z θ' A=>IE u n d (aa _ N) z θ' A) (G c e L θ M)
theorem Ls{l t:List Cl}(h:OL (InvS l) t):Sat (vF t):=by
 have⟨_,p,o,hI,hA,E⟩:=h;have F:=hI.nvs;have hv:=hI.2.1;have G:∀a∈t,∀b∈t,nv a+nv b<600:=λa ha b x=>by have:=F a ha;have:=F b x;omega
 refine GK hv λO h1 N h2 q1 k1 k2 q sel post x u I=>?_
 have⟨r,e,J,s⟩:=hA.2 O h1 N h2;rcases J with⟨rfl,hc⟩|rfl|⟨_,_,f,v,c,K,y,z,va,vb,n,rE,rO,e',L,A,B⟩
 ·exfalso;have:N.body.any gU=true:=dT.2 ⟨sel,by rw[x];simp,u⟩;rw[q1,this]at hc;simp[k1]at hc
 ·rcases s with s|s|⟨s,_⟩<;>cases s
 
 have hi:(f.length:Int)=q.length:=by have a1:=AW u (post:=post) (k:=0) I;have a2:=AW y (post:=c) (k:=0) z;rw[<-x]at a1;rw[<-K,a1]at a2;omega
 have Q:f=q/\v=sel/\c=post:=by
  have e1:q++sel::post=f++v::c:=by rw[<-x,K]
  have hl:q.length=f.length:=o_;have⟨x1,S⟩:=List.append_inj e1 hl;simp only[ct]at S;exact⟨x1.symm,S.1.symm,S.2.symm⟩
 obtain⟨rfl,rfl,rfl⟩:=Q;refine⟨va,vb,λm r' U=>?_⟩;have w:=O8 L U;simp only[aE]at w;obtain⟨rfl,rfl⟩:=w;rcases B with⟨V,_⟩|⟨_,q2,M,q',rfl⟩
 ·exact absurd rfl V
 have q0:=G O h1 N h2;have g:=DW M o_;have X:nv (qp nmV (mO rO O N f c))<600:=by have:=g.nvs;omega
 have i:=qj g.valid X;refine⟨rO,λb x=>A.mem_iff.2 x,?_⟩;rcases s with s|s|⟨s,Y|Y⟩
 ·omega
 ·omega
 ·exact⟨_,lL i.covers g.covers,.inl (zd Y)⟩
 have j:=E _ Y;have D:=qj i.valid (by have:=i.nvs;omega);refine⟨_,lL D.covers (lL i.covers g.covers),?_⟩;simp only[gA,bz]at j;rcases j with j|j
 ·exact .inl (zd j)
 have⟨d,hd,Z⟩:=dT.1 j;exact .inr ⟨d,hd,CC Z⟩
theorem P2(x t:T):az C 147 [enc x,enc t]=some (.bool (zB x t)):=by
 refine bL func147 rfl λR g=>?_
 have d:∀h x,mg C.P h 41 (enc x)=some (.ptr h.length 0,h++[.cells (tc x) .live]):=λh x=>by rw[gx];rfl
 have i:([VObj.cells (tc x) .live,.cells (tc t) .live]:H)[0]?=some (.cells (tc x) .live):=rfl;have j:([VObj.cells (tc x) .live,.cells (tc t) .live]:H)[1]?=some (.cells (tc t) .live):=rfl;have⟨p,q,e,k,a4⟩:=ji i;have⟨f,r,l,m,b4⟩:=ji j;have fin:∀(st:PT) (h:H) (b:Bool),st.get 4=.bool b->b=zB x t->R .ret st h:=λst h b n o=>g ⟨.bool b,by simp[ag,cO,f147,n],by rw[o];exact aU rfl rfl⟩
 by_cases a:x.sort=0
 ·simp[go_sem,d,e,a];exact fin _ _ true g_ (by simp[zB,a])
 by_cases c:t.kind=3
 ·simp[go_sem,d,e,f,a,c];exact fin _ _ false g_ (by simp[zB,a,c])
 simp[go_sem,d,e,f,l,a,c];exact fin _ _ (decide (t.sort=x.sort)) g_ (by simp[zB,a,c])
theorem Q0(x t:T) (h:H):aj C h (.func 147 []) (some [enc x,enc t])=some (.bool (zB x t),h):=an (fA _ _) (by simp[bF]) s_ (P2 x t)
def MaQ(s:Lb) (p t:T) (h0:H) (v:AV) (r:AV) (h':H):Prop:=∃(v':AV) (rs:Lb) (b:Bool),r=.tuple [v',.bool b]/\OwnR 152 h' v' ((s++rs).map bT)/\Keep h0 h' (cG v)/\(cG v'=cG v\/cG v=none/\∃j,cG v'=some j/\h0.length<=j)/\rs.length<=p.size/\small rs/\(b=true->cz p=0->cz t=0->PairsOk p t rs)
def MaC(p:T):Prop:=∀(s:Lb) (t:T) (h0:H) (v:AV),p.size<4000000->t.size<4000000->s.length+p.size<4000000->OwnR 152 h0 v (s.map bT)->∃r h',Go.V.Call C 115 [enc p,enc t,v] h0=some (r,h')/\MaQ s p t h0 v r h'
def Xw(s:Lb) (p t:T) (h0:H) (v0:AV) (n:Nat) (st:PT) (h:H):Prop:=∃(k:Nat) (v:AV) (rs:Lb) (b:Bool),n=p.kids.length-k/\k<=p.kids.length/\h[h0.length]?=some (.cells (tc p) .live)/\h[h0.length+1]?=some (.cells (tc t) .live)/\st.get 2=v/\st.get 3=.ptr h0.length 0/\st.get 4=.ptr (h0.length+1) 0/\st.get 8=.bool b/\st.get 9=.int .i64 k /\
 OwnR 152 h v ((s++rs).map bT)/\Keep h0 h (cG v0)/\(cG v=cG v0\/cG v0=none/\∃j,cG v=some j/\h0.length<=j)/\rs.length<=sizes (p.kids.take k)/\small rs/\(b=true->cz p=0->cz t=0->PairsL (p.kids.take k) (t.kids.take k) rs)
theorem Mp{h0:H}{g:H}{h1:H}{x y:Option Nat}(k:Keep (h0++g) h1 x) (hx:x=y\/x=none\/∃j,x=some j/\h0.length<=j):Keep h0 h1 y:=by
 refine⟨by have:=k.1;simp at this;omega,λj a b=>?_⟩;rw[k.2 j (by simp;omega) ?_,aH a];rcases hx with rfl|rfl|⟨i,rfl,c⟩
 ·exact b
 ·exact λe=>by cases e
 exact λe=>by cases e;omega
theorem yY(l:Lq) (k:Nat) (h:k<l.length):sizes (l.take (k+1))=sizes (l.take k)+(l[k]).size:=by rw[<-aW h,jE];simp[sizes]
theorem sw(l:Lq) (k:Nat):sizes (l.take k)<=sizes l:=by
 have:sizes l=sizes (l.take k++l.drop k):=by rw[dx]
 rw[this,jE];omega
theorem AK{t:T}(h:gL t=0) (hk:t.kind=3):t.sort=0:=by
 unfold gL kz at h;split at h
 ·cases h
 rename_i a;simp only[bz,bI,decide_eq_true_eq,not_or,not_and,Decidable.not_not]at a;exact a.1.2 o_
theorem Ma(p:T) (ih:∀k∈p.kids,MaC k):MaC p:=by
 intro s t l v hp ht hl ho;refine kA rfl func115 rfl k_ (by simp[f115]) λR hR=>?_
 have z0:=size_pos p;have z3:=size_kids p;have Z:∀h x,mg C.P h 41 (enc x)=some (.ptr h.length 0,h++[.cells (tc x) .live]):=λh x=>by rw[gx];rfl
 have c:OwnR 152 (l++[.cells (tc p) .live,.cells (tc t) .live,.tok 0 152]) v (s.map bT):=ho.keep (Keep.append _ _ none) s_;have q':Keep l (l++[.cells (tc p) .live,.cells (tc t) .live,.tok 0 152]) none:=Keep.append _ _ _;have w:(l++[VObj.cells (tc p) .live,.cells (tc t) .live,.tok 0 152])[l.length]?=some (.cells (tc p) .live):=s_;have z:(l++[VObj.cells (tc p) .live,.cells (tc t) .live,.tok 0 152])[l.length+1]?=some (.cells (tc t) .live):=s_;have⟨N,a1,a2,o,a4⟩:=ji w;have⟨b0,b1,b2,J,b4⟩:=ji z;have fin:∀(st:PT) (h:H) (m:AV) (q:Lb) (b:Bool),st.get 6=m->st.get 7=.bool b->OwnR 152 h m ((s++q).map bT)->Keep l h (cG v)->(cG m=cG v\/cG v=none/\∃j,cG m=some j/\l.length<=j)->q.length<=p.size->small q->(b=true->cz p=0->cz t=0->PairsOk p t q)->R .ret st h:=λst h m q b h6 h7 A O k3 k4 k5 k6=>hR _ _ _ (.inr rfl) ⟨.tuple [m,.bool b],by simp[ag,gk,cO,f115,h6,h7],m,q,b,rfl,A,O,k3,k4,k5,k6⟩
 have B:Keep l (l++[VObj.cells (tc p) .live,.cells (tc t) .live,.tok 0 152]) (cG v):=Keep.append _ _ _;obtain⟨y,rfl⟩:=ho.isl;by_cases A:p.kind=1
 ·have⟨m,h',ha,hw,K,d⟩:=un (ys:=[(p,t)]) (x:=.full) c (by simp;omega);rw[aM,bM]at ha;have D:=Q0 p t;have Q:=bn c w;have S:=bn c z;have q0:=ji (K.get w Q);have U:=ji (K.get z S);simp[go_sem,Z,N,A];refine eQ 2 _ (by simp[gM]) rfl ?_;simp[go_sem,a4,b4,q0.2.2.2.2,U.2.2.2.2,Dj,mP,nr,dZ,ha,D];refine⟨?_,fin _ _ m [(p,t)] (zB p t) g_ g_ hw (Mp K (.inl rfl)) ?_ (by simp;omega) (λb a=>by rw[aS.1 a];exact⟨hp,ht⟩) λa hn _=>KA A (tL hn p (dD p) A) a⟩
  ·rcases c with e|⟨id,e,hd⟩<;>cases e
   ·simp[go_sem,ff,fL,fP,iC,dy,cF]
   simp only[cG,ne_eq,aA]at Q S;simp[go_sem,ff,fL,fP,iC,dy,cF]
   (try omega)
  rcases d with h|⟨F,G⟩
  ·exact .inl h
  exact .inr ⟨F,_,G,s_⟩
 by_cases O:p.kind=2
 ·have D:=nH p t hp ht;simp[go_sem,Z,N,a4,b4,O,D];refine fin _ _ (.isl (s.map bT) y) [] (decide (p.cmp t=0)) g_ g_ (by simpa using c) B (.inl rfl) s_ (λb a=>by simp at a) λa hn _=>?_
  have e:p=t:=cmp_zero.1 (by simpa using a);rw[<-e];exact Ge A (lH (eF hn) (.inr O))
 have D:=JD p t (by rw[size_kids]at hp;have:=len_sizes p.kids;omega) (by rw[size_kids]at ht;have:=len_sizes t.kids;omega);cases U:fH p t with
 |false=>rw[U]at D;simp[go_sem,Z,N,a4,b4,A,O,D];exact fin _ _ (.isl (s.map bT) y) [] false g_ g_ (by simpa using c) B (.inl rfl) s_ (λb a=>by simp at a) λa=>by cases a
 |true=>
  rw[U]at D;simp[go_sem,Z,N,a4,b4,A,O,D];have q2:=U;simp only[fH,bI,decide_eq_true_eq]at q2;have⟨⟨⟨p3,t3⟩,pn⟩,pl⟩:=q2;have z4:=size_kids t;have z5:=len_sizes p.kids;refine bX (Xw s p t l (.isl (s.map bT) y)) p.kids.length ⟨0,.isl (s.map bT) y,[],true,rfl,aO _,w,z,g_,g_,g_,g_,g_,by simpa using c,B,.inl rfl,s_,(λb a=>by simp at a),λ_ _ _=>by simpa using PairsL.nil⟩ ?_;clear w z N a1 a2 o a4 b0 b1 b2 J b4 D c q' B;rintro n st h ⟨k,v,q,b,rfl,hk,w,z,g2,g3,g4,g8,g9,V,kh,d,q3,L,E⟩;have⟨N,a1,a2,o,a4⟩:=ji w;have⟨b0,b1,b2,J,b4⟩:=ji z;have u:fG C.P 32 (.isl (p.kids.map enc) .unk)=some (.int .i64 p.kids.length):=dX p.kids;have z6:=sw p.kids k;by_cases g:k<p.kids.length
  rotate_left
  ·have:k=p.kids.length:=o_;subst this;rw[ak]at q3 E;rw[pl,ak]at E;simp[go_sem,g2,g3,g8,g9,o,u];refine fin _ _ v q b g_ g_ V kh d o_ L λa F G=>Gf A o_ pn ?_ (E a F G)
   rw[AK (eF F) p3,AK (eF G) t3]
  have I:(k:Int)<p.kids.length:=o_;cases b with
  |false=>simp[go_sem,g2,g3,g8,g9,o,u,I];exact fin _ _ v q false g_ g_ V kh d o_ L λa=>by cases a
  |true=>
   have f:k<t.kids.length:=o_;have q4:aZ C.P 32 (.isl (p.kids.map enc) .unk) (.int .i64 k)=some (.iptr (enc p.kids[k]) 0):=dh p.kids k g;have q5:aZ C.P 32 (.isl (t.kids.map enc) .unk) (.int .i64 k)=some (.iptr (enc t.kids[k]) 0):=dh t.kids k f;have i1:=ee p.kids[k] h;have i2:=ee t.kids[k] h;have w2:=wS k o_;have z1:=yY p.kids k g;have z7:=sw p.kids (k+1);have z2:=yY t.kids k f;have z8:=sw t.kids (k+1);obtain⟨r,h',hc,m,q6,b',rfl,q7,M,X,z9,q8,Y⟩:=ih _ (aG g) (s++q) t.kids[k] h v o_ o_ (by simp;omega) V;have cc:aj C h (.func 115 []) (some [enc p.kids[k],enc t.kids[k],v])=some (.tuple [m,.bool b'],h'):=by rw[eT k_ k_];exact hc
   have q9:=M.get w (bn V w);have z':=M.get z (bn V z);simp[go_sem,g2,g3,g4,g8,g9,o,J,u,I,q4,q5,i1,i2,cc,-Int.natCast_add,w2];refine⟨p.kids.length-(k+1),o_,k+1,m,q++q6,b',rfl,g,q9,z',g_,g_,g_,g_,g_,by rw[<-List.append_assoc];exact q7,kh.trans M ?_,?_,by simp;omega,λb a=>?_,λa F G=>?_⟩
   ·rcases d with h|⟨_,h⟩
    ·exact .inl h
    exact .inr (.inr h)
   ·rcases X with e|⟨e,j,e1,e2⟩
    ·rw[e];exact d
    rcases d with h|⟨_,i,h,_⟩
    ·exact .inr ⟨by rw[<-h];exact e,j,e1,by have:=kh.1;omega⟩
    rw[e]at h;cases h
   ·rcases aK.1 a with a|a
    ·exact L b a
    exact q8 b a
   rw[<-aW g,<-aW f];rw[fi]at F G;exact(E rfl (by rw[fi];exact F) (by rw[fi];exact G)).snoc (Y a (jH (thn_zero.1 F).2 _ (aG g)) (jH (thn_zero.1 G).2 _ (aG f)))
theorem C1:∀p:T,MaC p:=T.ind Ma
def Ay(t u:T):Int:=if bA t=0 then bA u else bA t
theorem N6(t u:T) (ht:t.size<4000000) (hu:u.size<4000000):az C 111 [enc t,enc u]=some (.int .i64 (Ay t u)):=by
 refine bL func111 rfl λR a=>?_
 have b:∀h x,mg C.P h 41 (enc x)=some (.ptr h.length 0,h++[.cells (tc x) .live]):=λh x=>by rw[gx];rfl
 have c:aJ C.P [.cells (tc t) .live,.cells (tc u) .live] 41 (.ptr 0 0)=some (enc t):=(ji rfl).2.2.2.2;have e:aJ C.P [.cells (tc t) .live,.cells (tc u) .live] 41 (.ptr 1 0)=some (enc u):=(ji rfl).2.2.2.2;have d:=oF t ht;have f:=oF u hu;by_cases q:bA t=0
 ·simp[go_sem,b,c,e,d,f,q];exact a ⟨.int .i64 (bA u),by simp[ag,cO,f111,go_sem],by rw[Ay,if_pos q];exact aU rfl rfl⟩
 simp[go_sem,b,c,d,q];exact a ⟨.int .i64 (bA t),by simp[ag,cO,f111,go_sem],by rw[Ay,if_neg q];exact aU rfl rfl⟩
def yS(p t:T) (r:Lb):Prop:=bA p=0/\bA t=0/\∃ps,PairsOk p t ps/\E1 ps/\r=jZ ps (jS p)
theorem uX(ps:Lb) (v:T):∀l:Lq,jZ ps (l++[v])=jZ ps l++jZ ps [v]
 |[]=>by simp[jZ]
 |a::l=>by
  rw[cV,jZ,uX ps v l];conv=>rhs;rw[jZ]
  split
  ·split<;>simp
  rfl
theorem AN(ps:Lb):∀l:Lq,(jZ ps l).length<=l.length
 |[]=>by simp[jZ]
 |a::l=>by
  have:=AN ps l;rw[jZ];split
  ·split<;>simp<;>omega
  simp;omega
def h71(p t:T):H:=[.cells (tc p) .live,.cells (tc t) .live,.tok 0 121]
def I0(rs:Lb) (i j:Nat):Prop:=∀b,b<j->∀x y,rs[i]?=some x->rs[b]?=some y->x.1=y.1->x.2=y.2
def Z9(rs:Lb) (x:Ext) (h0:H) (n:Nat) (st:PT) (h:H):Prop:=∃i:Nat,n=rs.length-i/\i<=rs.length/\h=h0/\st.get 2=.ptr 0 0/\st.get 3=.ptr 1 0/\st.get 7=.isl (rs.map bT) x/\st.get 9=.int .i64 i/\∀a,a<i->I0 rs a a
def Z4(rs:Lb) (x:Ext) (h0:H) (i:Nat) (n:Nat) (st:PT) (h:H):Prop:=∃j:Nat,n=i-j/\j<=i/\h=h0/\st.get 2=.ptr 0 0/\st.get 3=.ptr 1 0/\st.get 7=.isl (rs.map bT) x/\st.get 9=.int .i64 i/\st.get 10=.int .i64 j/\I0 rs i j
def Z0(rs:Lb) (x:Ext) (vs:Lq) (n:Nat) (st:PT) (h:H):Prop:=∃(i:Nat) (v:AV),n=vs.length-i/\i<=vs.length/\st.get 7=.isl (rs.map bT) x/\st.get 11=v/\st.get 12=terms vs/\st.get 13=.int .i64 i/\OwnR 121 h v ((jZ rs (vs.take i)).map bT)
def Zy(rs:Lb) (x:Ext) (vs:Lq) (i:Nat) (y:T) (v:AV) (h0:H) (n:Nat) (st:PT) (h:H):Prop:=∃j:Nat,n=rs.length-j/\j<=rs.length/\h=h0/\st.get 7=.isl (rs.map bT) x/\st.get 11=v/\st.get 12=terms vs/\st.get 13=.int .i64 i/\st.get 14=.int .i64 j/\(rs.drop j).find? (λb=>decide (b.1.cmp y=0))=rs.find? (λb=>decide (b.1.cmp y=0))
theorem Py{rs:Lb}(h:∀a,a<rs.length->I0 rs a a):E1 rs:=λb m c n e=>by
 have⟨i,g⟩:=iB m;have⟨j,d⟩:=iB n;have k:=(aB.1 g).1;have l:=(aB.1 d).1;rcases Nat.lt_trichotomy i j with f|f|f
 ·exact(h j l i f c b d g e.symm).symm
 ·subst f;rw[g]at d;rw[Option.some.inj d]
 exact h i k j f b c g d e
theorem Pb(p t:T) (hp:p.size<1000000) (ht:t.size<1000000):∃v,az C 71 [enc p,enc t]=some v/\∃r e,v=.tuple [binds r,.int .i64 e]/\(e≠0\/e=0/\yS p t r):=by
 refine mC rfl func71 rfl k_ (by simp[f71]) λR hR=>?_
 have bx:∀h x,mg C.P h 41 (enc x)=some (.ptr h.length 0,h++[.cells (tc x) .live]):=λh x=>by rw[gx];rfl
 have fin:∀(st:PT) (h:H) (r:Lb) (x:Ext) (e:Int),st.get 4=.isl (r.map bT) x->st.get 5=.int .i64 e->(e≠0\/e=0/\yS p t r)->R .ret st h:=λst h r x e h2 h3 hq=>hR _ _ _ (.inr rfl) ⟨.tuple [binds r,.int .i64 e],⟨r,e,rfl,hq⟩,.tuple [.isl (r.map bT) x,.int .i64 e],by simp[ag,gk,cO,f71,go_sem,h2,h3],du rfl rfl s_⟩
 clear hR;have m0:(h71 p t)[0]?=some (.cells (tc p) .live):=rfl;have m1:(h71 p t)[1]?=some (.cells (tc t) .live):=rfl;have⟨a0,a1,a2,z8,a4⟩:=ji m0;have⟨b0,b1,b2,z9,b4⟩:=ji m1;have c0:∀h,aj C h (.func 111 []) (some [enc p,enc t])=some (.int .i64 (Ay p t),h):=λh=>an (fA _ _) (by simp[bF]) s_ (N6 p t o_ o_)
 obtain⟨r,D,hc,v',c,b,rfl,A,kh,z2,y',U,z3⟩:=C1 p [] t (h71 p t) (.isl [] .full) o_ o_ (by simp;omega) (.inl rfl);have cc:aj C (h71 p t) (.func 115 []) (some [enc p,enc t,.isl [] .full])=some (.tuple [v',.bool b],D):=by rw[eT k_ k_];exact hc
 unfold h71 at a4 b4 cc;by_cases L:Ay p t=0
 rotate_left
 ·simp[go_sem,bx,a4,b4,c0,L];exact fin _ _ [] (.tok 3) _ g_ g_ (.inl L)
 have V:bA p=0:=by
  unfold Ay at L;split at L
  ·assumption
  exact absurd L ‹_›
 have q5:bA t=0:=by rwa[Ay,if_pos V]at L
 cases b with
 |false=>simp[go_sem,bx,a4,b4,c0,L,cc];exact fin _ _ [] _ 11 (by simp[go_sem];rfl) g_ (.inl d_)
 |true=>
 simp[go_sem,bx,a4,b4,c0,L,cc];rw[cN]at A;obtain⟨x,rfl⟩:=A.isl;have z4:=z3 rfl (bg V).1 (bg q5).1;have X:=kh.get m0 (by simp[cG]);have M:(D++[VObj.tok 0 121])[0]?=some (.cells (tc p) .live):=by rw[aH (aB.1 X).1];exact X
 have q6:=(ji M).2.2.2.2;have q:=G1 c x;refine bX (Z9 c x D) c.length ⟨0,rfl,aO _,rfl,g_,g_,g_,g_,s_⟩ ?_;rintro n st h ⟨i,rfl,hi,rfl,g2,g3,m,E,Y⟩;by_cases F:i<c.length
 ·have q7:(i:Int)<c.length:=o_;have Z:=xy c i F x;have si:=U _ (aG F);have w2:=wS i o_;simp[go_sem,m,E,q,q7];refine bX (Z4 c x h i) i ⟨0,rfl,aO _,rfl,g_,g_,g_,g_,g_,λb hb=>o_⟩ ?_;clear g2 g3 m E;rintro n st h' ⟨j,rfl,hj,rfl,g2,g3,m,E,G,q8⟩;by_cases o:j<i
  ·have d:(j:Int)<i:=o_;have q':j<c.length:=o_;have g:=xy c j q' x;have sj:=U _ (aG q');have i0:=ki c[i] h';have i4:=nC c[i] h';have j0:=ki c[j] h';have j4:=nC c[j] h';have e1:=nH c[i].1 c[j].1 si.1 sj.1;have e2:=nH c[i].2 c[j].2 si.2 sj.2;have w3:=wS j o_;have N:(c[i].1=c[j].1->c[i].2=c[j].2)->I0 c i (j+1):=λhh b hb x y hx hy=>by
    rcases fj b j with D|D
    ·exact q8 b D x y hx hy
    have:b=j:=o_;subst this;rw[aF F]at hx;rw[aF q']at hy;cases hx;cases hy;exact hh
   by_cases B:c[i].1.cmp c[j].1=0
   ·by_cases O:c[i].2.cmp c[j].2=0
    ·simp[go_sem,m,E,G,d,Z,g,pu,rR,i0,i4,j0,j4,e1,e2,B,O,-Int.natCast_add,w3];exact⟨i-(j+1),o_,j+1,rfl,o,rfl,g_,g_,g_,g_,g_,N λ_=>cmp_zero.1 O⟩
    simp[go_sem,m,E,G,d,Z,g,pu,rR,i0,i4,j0,j4,e1,e2,B,O];exact fin _ _ [] _ 11 (by simp[go_sem];rfl) g_ (.inl d_)
   simp[go_sem,m,E,G,d,Z,g,pu,i0,j0,e1,B,-Int.natCast_add,w3];exact⟨i-(j+1),o_,j+1,rfl,o,rfl,g_,g_,g_,g_,g_,N λe=>absurd (cmp_zero.2 e) B⟩
  have:j=i:=o_;subst this;simp[go_sem,E,G,-Int.natCast_add,w2];exact⟨c.length-(j+1),o_,j+1,rfl,F,rfl,g_,g_,g_,g_,λa ha=>by
   rcases fj a j with D|D
   ·exact Y a D
   have:a=j:=o_;subst this;exact q8⟩
 have:i=c.length:=o_;subst this;have q9:=Py Y;have cv:=JN p o_;have q0:=dX (jS p);have z':∀y∈jS p,y.size<4000000:=λy hy=>pF (l:=[p]) (n:=4000000) (λx hx=>by rw[aS.1 hx];omega) y (mem_setS.2 (bR.2 ⟨p,s_,hy⟩))
 have z5:=xR p;have Q:∀(st:PT) (h:H) (z:Ext),st.get 4=.isl ((jZ c (jS p)).map bT) z->st.get 5=.int .i64 0->R .ret st h:=λst h z k1 k2=>fin st h _ z 0 k1 k2 (.inr ⟨rfl,V,q5,c,z4,q9,rfl⟩)
 simp[go_sem,g2,m,E,q,q6,cv];clear Y fin;generalize jS p=vs at q0 z' z5 Q;refine bX (Z0 c x vs) vs.length ⟨0,.isl [] (.tok h.length),rfl,aO _,g_,g_,g_,g_,.inr ⟨h.length,rfl,by simp[jZ]⟩⟩ ?_;clear g2 g3 m E q6 X M kh hc cc z2;rintro n st h ⟨i,v,rfl,hi,m,I,k,f,A⟩;by_cases s:i<vs.length
 rotate_left
 ·have:i=vs.length:=o_;subst this;rw[ak]at A;obtain⟨z,rfl⟩:=A.isl;simp[go_sem,I,k,f,q0];exact Q _ _ z g_ g_
 have z0:(i:Int)<vs.length:=o_;have J:=dh vs i s;have K:=λh=>ee vs[i] h
 have z1:=z' _ (aG s);have w2:=wS i o_;have q4:vs.take (i+1)=vs.take i++[vs[i]]:=by rw[<-aW s]
 simp[go_sem,k,f,q0,z0];refine bX (Zy c x vs i vs[i] v h) c.length ⟨0,rfl,aO _,rfl,g_,g_,g_,g_,g_,s_⟩ ?_;clear m I k f;rintro n st h' ⟨j,rfl,hj,rfl,m,I,k,f,u,S⟩;by_cases o:j<c.length
 ·have d:(j:Int)<c.length:=o_;have g:=xy c j o x;have sj:=U _ (aG o);have j0:=ki c[j] h';have j4:=nC c[j] h';have e1:=nH c[j].1 vs[i] sj.1 z1;have e2:=nH c[j].2 vs[i] sj.2 z1;have w3:=wS j o_;rw[aI o,mI]at S;by_cases B:c[j].1.cmp vs[i]=0
  ·simp only[B,decide_true]at S;by_cases O:c[j].2.cmp vs[i]=0
   ·have w:jZ c (vs.take (i+1))=jZ c (vs.take i):=by rw[q4,uX,jZ,<-S];simp[O,jZ]
    simp[go_sem,m,k,f,u,q,d,g,pu,rR,j0,j4,J,K,e1,e2,B,O,-Int.natCast_add,w2];exact⟨vs.length-(i+1),o_,i+1,v,rfl,s,g_,g_,g_,g_,by rw[w];exact A⟩
   have w:jZ c (vs.take (i+1))=jZ c (vs.take i)++[(vs[i],c[j].2)]:=by rw[q4,uX];congr 1;rw[jZ,<-S];simp[O,jZ]
   have z6:=AN c (vs.take i);rw[bU]at z6;have⟨v2,h2,ha,hw,y0,z7⟩:=jd (ys:=[(vs[i],c[j].2)]) (x:=.full) A (by simp only[eK];omega);rw[<-w]at hw;rw[aM,bM]at ha;generalize jZ c (vs.take i)=mo at A ha;have hb:=tz vs[i] c[j].2;simp[go_sem,m,k,f,u,q,d,g,pu,rR,j0,j4,J,K,e1,e2,B,O];refine eQ 25 _ (by simp[gM]) rfl ?_;have y1:=nC c[j] h2;simp[go_sem,m,I,k,f,u,g,rR,j4,J,K,dZ,nr,hb,fN,ha,-Int.natCast_add,w2];refine⟨?_,vs.length-(i+1),o_,i+1,v2,rfl,s,g_,g_,g_,g_,hw⟩;rcases A with rfl|⟨id,rfl,y2⟩
   ·simp[go_sem,ff,fL,fP,iC,dy,cF]
   simp[go_sem,ff,fL,fP,iC,dy,cF]
  simp only[B,decide_false]at S;simp[go_sem,m,k,f,u,q,d,g,pu,j0,J,K,e1,B,-Int.natCast_add,w3];exact⟨c.length-(j+1),o_,j+1,rfl,o,rfl,g_,g_,g_,g_,g_,S⟩
 have:j=c.length:=o_;subst this;rw[bH,List.find?_nil]at S;have w:jZ c (vs.take (i+1))=jZ c (vs.take i):=by rw[q4,uX,jZ,<-S];simp[jZ]
 simp[go_sem,m,f,u,q,-Int.natCast_add,w2];exact⟨vs.length-(i+1),o_,i+1,v,rfl,s,g_,g_,g_,g_,by rw[w];exact A⟩
theorem QY(p t:T) (hp:p.size<1000000) (ht:t.size<1000000):∃r e,(e≠0\/e=0/\yS p t r)/\∀h,aj C h (.func 71 []) (some [enc p,enc t])=some (.tuple [binds r,.int .i64 e],h):=by obtain⟨v,a,r,e,rfl,b⟩:=Pb p t hp ht;exact⟨r,e,b,λh=>an (fA _ _) (by simp[bF]) s_ a⟩
def Xr(l:List Fa) (n:Nat) (st:PT) (h:H):Prop:=∃(k:Nat) (v:AV),n=l.length-k/\k<=l.length/\st.get 0=bK l/\st.get 3=v/\st.get 4=.int .i64 k/\OwnR 41 h v ((bd (l.take k)).map enc)
theorem UC(l:List Fa) (hl:l.length<4000000) (hne:∀f∈l,f.terms≠[]):az C 19 [bK l]=some (terms (bd l)):=by
 refine bL func19 rfl λR A=>?_
 have d:=iu l;simp[go_sem];refine bX (Xr l) l.length ⟨0,.isl [] (.tok 1),rfl,aO _,g_,g_,g_,.inr ⟨1,rfl,by simp[bd]⟩⟩ ?_;rintro n st h ⟨k,v,rfl,K,m,o,p,g⟩;by_cases b:k<l.length
 ·have c:(k:Int)<l.length:=o_;have i:aZ C.P 29 (bK l) (.int .i64 k)=some (.iptr (aQ l[k]) 0):=kD l k b .unk;have u:=Vg l[k];have w:=Mm l[k];have y:=wS k o_;have j:l.take (k+1)=l.take k++[l[k]]:=by rw[<-aW b]
  by_cases q:l[k].kind=1
  ·cases s:l[k].terms with
   |nil=>exact absurd s (hne _ (aG b))
   |cons a r=>
    have B:aZ C.P 32 (terms (a::r)) (.int .i64 0)=some (.iptr (enc a) 0):=dh (a::r) 0 s_;have D:=λh=>ee a h
    have e:bd (l.take (k+1))=bd (l.take k)++[a]:=by rw[j,jQ];congr 1;simp[bd,q,s]
    have E:(bd (l.take k)).length<=k:=by
     have F:(bd (l.take k)).length<=(l.take k).length:=by unfold bd;rw[ax];exact dS _ _
     rw[bU]at F;omega
    obtain⟨x,rfl⟩:=g.isl;have⟨G,L,t,z,I,J⟩:=jN (ys:=[a]) (x:=.full) g (by simp only[eK];omega);rw[<-e]at z;rw[aM,bM]at t;rw[s]at w;generalize bd (l.take k)=al at g o t;simp[go_sem,m,o,p,d,c,i,Ip,sL,u,w,q,B,D,fO,dZ,t,-Int.natCast_add,y];exact⟨l.length-(k+1),o_,k+1,G,rfl,b,g_,g_,g_,z⟩
  have e:bd (l.take (k+1))=bd (l.take k):=by rw[j,jQ];simp[bd,q]
  simp[go_sem,m,p,d,c,i,Ip,u,q,-Int.natCast_add,y];exact⟨l.length-(k+1),o_,k+1,v,rfl,b,g_,g_,g_,by rw[e];exact g⟩
 have:k=l.length:=o_;subst this;rw[ak]at g;obtain⟨x,rfl⟩:=g.isl;simp[go_sem,m,o,p,d];exact A ⟨.isl ((bd l).map enc) x,by simp[ag,cO,f19,go_sem],aU rfl rfl⟩
theorem Hg(l:List Fa) (x:Ext) (hl:l.length<4000000) (hne:∀f∈l,f.terms≠[]) (h:H):aj C h (.func 19 []) (some [.isl (l.map aQ) x])=some (terms (bd l),h):=an (args':=[bK l]) rfl (by simp[short]) s_ (UC l hl hne)
def CW(f:Fa):Bool:=f.terms.all λt=>decide (t.size<=7)
def Xl(f:Fa) (n:Nat) (st:PT) (h:H):Prop:=∃k:Nat,n=f.terms.length-k/\k<=f.terms.length/\h[0]?=some (.cells (faC f) .live)/\st.get 1=.ptr 0 0/\st.get 3=.int .i64 k/\CW ⟨f.kind,f.goal,f.terms.drop k⟩=CW f
theorem O4(f:Fa) (hf:smallT f.terms):az C 39 [aQ f]=some (.bool (CW f)):=by
 refine bL func39 rfl λR s=>?_
 have fin:∀(st:PT) (h:H) (b:Bool),st.get 2=.bool b->b=CW f->R .ret st h:=λst h b t u=>s ⟨.bool b,by simp[ag,cO,f39,t],by rw[u];exact aU rfl rfl⟩
 have d:=dX f.terms;simp[go_sem,nI];refine bX (Xl f) f.terms.length ⟨0,rfl,aO _,rfl,g_,g_,rfl⟩ ?_;rintro n st h ⟨k,rfl,x,o,i,j,e⟩;have l:aJ C.P h 32 (.ptr 0 2)=some (terms f.terms):=by simp[aJ,o,aY,a23,s23,faC,terms]
 have v:=hf.1;by_cases a:k<f.terms.length
 ·have c:(k:Int)<f.terms.length:=o_;have g:=dh f.terms k a;have p:=λh=>ee f.terms[k] h
  have r:=Dg f.terms[k] (hf.2 _ (aG a));have w:=wS k o_;rw[aI a,CW,mF]at e;by_cases q:7<f.terms[k].size
  ·have m:(7:Int)<f.terms[k].size:=o_;rw[show decide (f.terms[k].size<=7)=false by simp;omega,jf]at e;simp[go_sem,i,j,l,d,c,g,p,r,m];exact fin _ _ false g_ e
  have m:¬(7:Int)<f.terms[k].size:=o_;rw[show decide (f.terms[k].size<=7)=true by simp;omega,kL]at e;simp[go_sem,i,j,l,d,c,g,p,r,m,-Int.natCast_add,w];exact⟨f.terms.length-(k+1),o_,k+1,rfl,a,o,g_,g_,e⟩
 have:k=f.terms.length:=o_;subst this;rw[bH]at e;simp[go_sem,i,j,l,d];exact fin _ _ true g_ (by rw[<-e];simp[CW])
theorem Qb(f:Fa) (hf:smallT f.terms) (h:H):aj C h (.func 39 []) (some [aQ f])=some (.bool (CW f),h):=an (args':=[aQ f]) rfl (by simp;rfl) s_ (O4 f hf)
theorem u79:C.P.underlying 79=some (.slice 81):=underlying79
theorem s81:cw C.P 81=some 1:=k_
theorem b81:jy C.P 81=some 24:=k_
theorem z81:ip C.P 81=true:=k_
@[go_sem] theorem aAX:ja C.P 79=some 81:=k_
attribute [go_sem] u79 s81
def IC(L:List (Lb)):AV:=.isl (L.map binds) .unk
theorem zg(L:List (Lb)):iN 1 (L.map binds)=true:=by cases L<;>simp[iN,binds,AV.cells]
theorem Fj{h:H}{v:AV}{xs ys:List (Lb)}{x:Ext}(o:OwnR 81 h v (xs.map binds)) (hl:xs.length+ys.length<=100000000000) :
  ∃v' h',bi C.P false h 79 v (.isl (ys.map binds) x)=some (v',h')/\OwnR 81 h' v' ((xs++ys).map binds)/\Keep h h' (cG v)/\(cG v'=cG v\/cG v=none/\cG v'=some h.length):=by
 have:=mQ (x:=x) u79 s81 b81 z81 rfl o (zg xs) (zg ys) (by simp only[ax];omega);rwa[<-List.map_append]at this
theorem CH(h:H) (l:Lb) (x:Ext):cQ C.P h 79 1 [(0,.isl (l.map bT) x)]=some (.isl [binds l] .full,h):=cY u79 s81 z81 rfl o_ rfl rfl rfl s_ rfl
theorem Rk(L:List (Lb)) (x:Ext):fG C.P 79 (.isl (L.map binds) x)=some (.int .i64 L.length):=by simp[fG,u79]
theorem Rs(L:List (Lb)) (k:Nat) (hk:k<L.length) (x:Ext):aZ C.P 79 (.isl (L.map binds) x) (.int .i64 k)=some (.iptr (binds L[k]) 0):=by simp[aZ,u79,s81,binds,AV.cells,hk]
theorem Rm(l:Lb) (h:H):aJ C.P h 81 (.iptr (binds l) 0)=some (binds l):=by have a:gW C.P 81=some false:=k_;simp[aJ,aY,a,s81,binds,AV.cells]
def asgB(n:Nat) (l:Lb):Prop:=l.length<=n/\∀b∈l,b.1.size<=400/\b.2.size<=400
theorem asgB.small{n:Nat}{l:Lb}(h:asgB n l):small l:=λb a=>by have:=h.2 b a;omega
theorem zL{ps:Lb}:∀ {l:Lq}{b:T × T},b∈jZ ps l->b.1.cmp b.2≠0
 |[],b,h=>by simp[jZ]at h
 |v::l,b,h=>by
  rw[jZ]at h;split at h
  ·split at h
   ·exact zL h
   rename_i hc;rcases aV.1 h with rfl|h
   ·intro e;exact hc (cmp_zero.2 (cmp_zero.1 e).symm)
   exact zL h
  exact zL h
theorem QD{s:Lb}{p t:T}{ts:Lq}{r:Lb}(ht:t∈ts) (h:yS (cy s p) t r):LL s p ts (r.foldl lR s):=by obtain⟨_,_,a,c,d,rfl⟩:=h;refine⟨t,ht,a,c,d,?_⟩;have:=pt (jZ a (jS (cy s p))) s;rwa[pE.2 λb e=>by simpa using zL e]at this
theorem MZ{p t:T}{r:Lb}(h:yS p t r):asgB 400 r:=by obtain⟨c,d,g,e,_,rfl⟩:=h;refine⟨cJ (AN _ _) (cJ (xR p) (bg c).2.1),λb f=>?_⟩;have a:=e.vars b (oZ f).1;exact⟨(bg (rU p b.1 c a.2.1)).2.1,(bg (rU t b.2 d a.2.2.1)).2.1⟩
theorem E5{n m:Nat}:∀ {r s:Lb},asgB n r->asgB m s->asgB (n+m) (r.foldl lR s):=by
 intro r s c d;have e:=pt r s;refine⟨?_,λb a=>?_⟩
 ·rw[e.length_eq,List.length_append];have:=dS (λb:T × T=>decide (b.1.cmp b.2≠0)) r;have:=c.1;have:=d.1;omega
 rcases aK.1 (e.mem_iff.1 a)with a|a
 ·exact d.2 b a
 exact c.2 b (cE.1 a).1
def Xm(s:Lb) (p:T) (ts:Lq) (m:Nat) (n:Nat) (st:PT) (h:H):Prop:=∃(i:Nat) (L:List (Lb)) (v:AV),n=ts.length-i/\i<=ts.length/\L.length<=i/\(∀s'∈L,LL s p ts s'/\asgB (400+m) s')/\h[0]?=some (.cells (tc p) .live)/\st.get 0=binds s/\st.get 2=terms ts/\st.get 4=.ptr 0 0/\st.get 7=v/\st.get 8=.int .i64 i/\OwnR 81 h v (L.map binds)
def Xc(s:Lb) (p:T) (ts:Lq) (r:Lb) (i:Nat) (v:AV) (L:List (Lb)) (n:Nat) (st:PT) (h:H):Prop:=∃(k:Nat) (x:Ext),n=r.length-k/\k<=r.length/\h[0]?=some (.cells (tc p) .live)/\st.get 0=binds s/\st.get 2=terms ts/\st.get 4=.ptr 0 0/\st.get 7=v/\st.get 8=.int .i64 i/\st.get 9=binds r/\st.get 11=.isl (((r.take k).foldl lR s).map bT) x/\st.get 12=.int .i64 k/\OwnR 81 h v (L.map binds)
theorem ND(s:Lb) (p:T) (ts:Lq) (m:Nat) (hm:m<=100000) (hs:asgB m s) (hp:p.size<=400) (hl:ts.length<=100000) (ht:∀t∈ts,t.size<=400):∃v,az C 37 [binds s,enc p,terms ts]=some v/\∃L,v=IC L/\L.length<=ts.length/\∀s'∈L,LL s p ts s'/\asgB (400+m) s':=by
 refine mC rfl func37 rfl k_ (by simp[f37]) λR hR=>?_
 have bx:∀h x,mg C.P h 41 (enc x)=some (.ptr h.length 0,h++[.cells (tc x) .live]):=λh x=>by rw[gx];rfl
 have u:=dX ts;have q4:=hs.1;simp[go_sem,bx];refine bX (Xm s p ts m) ts.length ⟨0,[],.isl [] (.tok 2),rfl,aO _,aO _,s_,rfl,g_,g_,g_,g_,g_,.inr ⟨2,rfl,s_⟩⟩ ?_;rintro n st h ⟨i,L,v,rfl,hi,X,Y,l,S,D,U,V,A,f⟩;have Z:=(ji l).2.2.2.2;by_cases d:i<ts.length
 rotate_left
 ·have:i=ts.length:=o_;subst this;obtain⟨x,rfl⟩:=f.isl;simp[go_sem,D,V,A,u];exact hR _ _ _ (.inr rfl) ⟨IC L,⟨L,rfl,X,Y⟩,.isl (L.map binds) x,by simp[ag,cO,f37,go_sem],aU rfl rfl⟩
 have o:(i:Int)<ts.length:=o_;have E:=dh ts i d;have li:=λh=>ee ts[i] h
 have q5:=ht _ (aG d);have w2:=wS i o_;have q6:(cy s p).size<=160000:=by have:=uS s (λb B=>(hs.2 b B).2) p;omega
 have c1:=Nv s p hs.small o_ o_;have⟨r,e,hq,c2⟩:=QY (cy s p) ts[i] o_ o_;by_cases q1:e=0
 rotate_left
 ·simp[go_sem,S,D,U,A,u,o,Z,E,li,c1,c2,q1,-Int.natCast_add,w2];exact⟨ts.length-(i+1),o_,i+1,L,v,rfl,d,o_,Y,l,g_,g_,g_,g_,g_,f⟩
 subst q1;have F:yS (cy s p) ts[i] r:=by
  rcases hq with h|⟨_,h⟩
  ·exact absurd rfl h
  exact h
 have g:=MZ F;have q7:=g.1;have hx:=QD (aG d) F;have G:=E5 g hs;have b0:∀h,cQ C.P h 81 0 []=some (.isl [] .full,h):=CI;have⟨v1,h1,a1,w,z,I⟩:=jd (h:=h) (xs:=[]) (ys:=s) (x:=.unk) (.inl rfl) (by simp;omega);change bi C.P false h 81 (.isl [] .full) (binds s)=_ at a1;rw[cN]at w;obtain⟨x1,rfl⟩:=w.isl;have J:=sF r;have q:OwnR 81 h1 v (L.map binds):=f.keep z (by simp[cG]);have K:=z.get l (by simp[cG]);simp[go_sem,S,D,U,A,u,o,Z,E,li,c1,c2,b0,a1];refine bX (Xc s p ts r i v L) r.length ⟨0,x1,rfl,aO _,K,g_,g_,g_,g_,g_,g_,g_,g_,q⟩ ?_;clear S D U V A f q a1 w l K z Z I;rintro n st h2 ⟨k,y,rfl,hk,l,S,D,U,V,A,g9,c,M,f⟩;have a:=E5 (n:=400) (m:=m) (r:=r.take k) (s:=s) ⟨by rw[bU];omega,λb B=>g.2 b (dF B)⟩ hs;by_cases j:k<r.length
 ·have N:(k:Int)<r.length:=o_;have q':aZ C.P 81 (binds r) (.int .i64 k)=some (.iptr (bT r[k]) 0):=yk r k j .unk;have l0:=ki r[k] h2;have l4:=nC r[k] h2;have q8:=g.2 _ (aG j);have w3:=wS k o_;have O:(r.take (k+1)).foldl lR s=lR ((r.take k).foldl lR s) r[k]:=by rw[<-aW j,List.foldl_append];rfl
  generalize q9:(r.take k).foldl lR s=cu at a O c;have c3:=FX r[k] cu y o_ o_ a.small (by have:=a.1;omega);simp[go_sem,g9,c,M,J,N,q',l0,l4,c3,-Int.natCast_add,w3];exact⟨r.length-(k+1),o_,k+1,.unk,rfl,j,l,g_,g_,g_,g_,g_,g_,by rw[O];simp[go_sem,binds],g_,f⟩
 have:k=r.length:=o_;subst this;rw[ak]at c a;obtain⟨x,rfl⟩:=f.isl;have⟨v',h',ha,hw,q0,z'⟩:=Fj (ys:=[r.foldl lR s]) (x:=.full) f (by simp only[eK];omega);have q2:=q0.get l (bn f l);generalize r.foldl lR s=cu at c G hx ha hw a;rw[aM,bM]at ha;have B:=λh=>CH h cu y
 have Q:au (AV.isl (cu.map bT) y)=true:=rfl;generalize cu.map bT=ce at c B Q;simp[go_sem,V,A,g9,c,M,J,B,Q,ha,-Int.natCast_add,-List.map_append,w2];exact⟨ts.length-(i+1),o_,i+1,L++[cu],v',rfl,d,by simp;omega,λs' q3=>by
  rcases aK.1 q3 with h|h
  ·exact Y s' h
  rw[aS.1 h];exact⟨hx,G⟩,q2,g_,g_,g_,g_,g_,hw⟩
theorem Qc(s:Lb) (p:T) (ts:Lq) (m:Nat) (hm:m<=100000) (hs:asgB m s) (hp:p.size<=400) (hl:ts.length<=100000) (ht:∀t∈ts,t.size<=400):∃L:List (Lb),(L.length<=ts.length/\∀s'∈L,LL s p ts s'/\asgB (400+m) s')/\∀h,aj C h (.func 37 []) (some [binds s,enc p,terms ts])=some (IC L,h):=by obtain⟨v,a,L,rfl,b,c⟩:=ND s p ts m hm hs hp hl ht;exact⟨L,⟨b,c⟩,λh=>an (args':=[binds s,enc p,terms ts]) (by rw[bV p];rfl) (by simp[el,bF];rfl) s_ a⟩
theorem WB(c:Cl):sK C.P 39 (ai c) 1=some (aQ c.head):=by
 have e:∀(b:AV) (k g:Int) (l:LA),sK C.P 39 (.agg [b,.int .i64 k,.int .i64 g,.isl l .unk]) 1=some (.agg [.int .i64 k,.int .i64 g,.isl l .unk]):=λb k g l=>k_
 exact e _ _ _ _
def F0(c:Cl) (ts:Lq) (f:Fa):Prop:=∃s,Chain ts (bd c.body) s/\(bS (bd c.body)).length=(bS (bN c)).length/\f=cD s c.head/\CW f=true
def Xq(fs:List Fa) (c:Cl) (ts:Lq) (n:Nat) (st:PT) (h:H):Prop:=∃(i:Nat) (L:List (Lb)) (x:Ext),n=(bd c.body).length-i/\i<=(bd c.body).length/\L.length<=60 ^ i/\(∀s∈L,Chain ts ((bd c.body).take i) s/\asgB (400*i) s)/\(∀t,x=.tok t->t<h.length)/\h[0]?=some (.cells (clC c) .live)/\st.get 0=bK fs/\st.get 2=terms ts/\st.get 4=.ptr 0 0/\st.get 7=terms (bd c.body)/\st.get 10=.isl (L.map binds) x/\st.get 11=.int .i64 i
def Xh(fs:List Fa) (c:Cl) (ts:Lq) (i:Nat) (L:List (Lb)) (x:Ext) (n:Nat) (st:PT) (h:H):Prop:=∃(j:Nat) (M:List (Lb)) (v:AV),n=L.length-j/\j<=L.length/\M.length<=60*j/\(∀s∈M,Chain ts ((bd c.body).take (i+1)) s/\asgB (400*(i+1)) s)/\h[0]?=some (.cells (clC c) .live)/\st.get 0=bK fs/\st.get 2=terms ts/\st.get 4=.ptr 0 0/\st.get 7=terms (bd c.body)/\st.get 10=.isl (L.map binds) x/\st.get 11=.int .i64 i/\st.get 12=v/\st.get 13=.int .i64 j/\OwnR 81 h v (M.map binds)
def Xa(fs:List Fa) (c:Cl) (ts:Lq) (L:List (Lb)) (x:Ext) (n:Nat) (st:PT) (h:H):Prop:=∃(k:Nat) (cur:List Fa) (y:Ext),n=L.length-k/\k<=L.length/\cur.length<=fs.length+k/\(∀f∈cur,smallT f.terms/\(f∈fs\/F0 c ts f))/\(∀t,x=.tok t->t<h.length)/\h[0]?=some (.cells (clC c) .live)/\st.get 0=.isl (cur.map aQ) y/\st.get 4=.ptr 0 0/\st.get 10=.isl (L.map binds) x/\st.get 14=.int .i64 k
theorem ph{n:Nat}:∀ {l:List Fa},(∀f∈l,sizes f.terms<=n)->sizes (cC l)<=n*l.length
 |[],_=>by simp[cC,sizes]
 |a::l,h=>by
  have h1:=h a s_;have c:=ph (l:=l) λf b=>h f (by simp[b])
  have e:cC (a::l)=a.terms++cC l:=rfl;rw[e,jE,aL,qd];omega
theorem TA(fs:List Fa) (c:Cl) (ts:Lq) (hc:bY c=0) (h2:(bd c.body).length<=2) (hfl:fs.length<=1000000) (hf:∀f∈fs,smallT f.terms) (hl:ts.length<=60) (ht:∀t∈ts,t.size<=400):∃v,az C 20 [bK fs,ai c,terms ts]=some v/\∃out,v=bK out/\out.length<=fs.length+3600/\∀f∈out,smallT f.terms/\(f∈fs\/F0 c ts f):=by
 refine mC rfl func20 rfl k_ (by simp[f20]) λR hR=>?_
 have fin:∀(st:PT) (h:H) (out:List Fa) (x:Ext),st.get 6=.isl (out.map aQ) x->out.length<=fs.length+3600->(∀f∈out,smallT f.terms/\(f∈fs\/F0 c ts f))->R .ret st h:=λst h out x h2 h3 h4=>hR _ _ _ (.inr rfl) ⟨bK out,⟨out,rfl,h3,h4⟩,.isl (out.map aQ) x,by simp[ag,cO,f20,go_sem,h2],aU rfl rfl⟩
 clear hR;have⟨x2,q3⟩:=gY hc;have z5:=gR hc;obtain⟨x3,x4⟩:∃g:H,g=[.cells (clC c) .live]:=⟨_,rfl⟩
 have lb:∀(y:VObj),aJ C.P [.cells (clC c) .live,y] 29 (.ptr 0 0)=some (bK c.body):=λy=>jn rfl
 have lc:∀(y:VObj),aJ C.P [.cells (clC c) .live,y] 39 (.ptr 0 0)=some (ai c):=λy=>jJ rfl
 have q4:∀f∈c.body,f.terms≠[]:=λf hf=>fa hc f (aa _ hf)
 have c1:∀h,aj C h (.func 19 []) (some [bK c.body])=some (terms (bd c.body),h):=Hg c.body .unk o_ q4;have q5:∀t∈bd c.body,t∈bN c:=λt ht=>by have⟨f,hf,U⟩:=qD q4 ht;exact kl (aa _ hf) U
 have m:∀t∈bN c,bA t=0:=λt ht=>by have⟨f,hf,U⟩:=bR.1 ((gb c t).2 ht);exact(eS ((dH hc).2 f hf)).2.2 t U
 have q6:∀t∈bd c.body,t.size<=400:=λt ht=>(bg (m t (q5 t ht))).2.1
 have z6:sizes (bN c)<4000000:=by
  have h1:=ph (n:=3200) (l:=c.body) λf hf=>(q3 f (aa _ hf)).2.1
  have h2:=(q3 c.head (by simp[aN])).2.1;have e:bN c=c.head.terms++cC c.body:=rfl;rw[e,jE];omega
 have z7:sizes (bd c.body)<4000000:=by
  have:=sx λt ht=>m t (q5 t ht)
  omega
 have O:=len_sizes (bN c);have c2:∀h,aj C h (.func 35 []) (some [terms (bd c.body)])=some (terms (bS (bd c.body)),h):=He (bd c.body) .unk (λt ht=>by have:=q6 t ht;omega) z7;have c3:=To c o_ o_;have c4:∀h,aj C h (.func 35 []) (some [terms (bN c)])=some (terms (bS (bN c)),h):=He (bN c) .unk (λt ht=>by have:=(bg (m t ht)).2.1;omega) z6;have n1:=dX (bS (bd c.body));have n2:=dX (bS (bN c));by_cases q1:(bS (bd c.body)).length=(bS (bN c)).length
 rotate_left
 ·have V:¬((bS (bd c.body)).length:Int)=(bS (bN c)).length:=o_;simp[go_sem,fk,lb,lc,c1,c2,c3,c4,n1,n2,V];exact fin _ _ fs .unk (by simp[go_sem,bK]) o_ λf B=>⟨hf f B,.inl B⟩
 have V:((bS (bd c.body)).length:Int)=(bS (bN c)).length:=o_;have q7:∀h,cQ C.P h 79 1 [(0,.isl [] .full)]=some (.isl [.isl [] .unk] .full,h):=λh=>CH h [] .full
 simp[go_sem,fk,lb,lc,c1,c2,c3,c4,n1,n2,V,q7,show au (AV.isl [] .full)=true from rfl];have q8:=dX (bd c.body);refine bX (Xq fs c ts) (bd c.body).length ⟨0,[[]],.full,rfl,aO _,s_,?_,s_,rfl,g_,g_,g_,g_,by simp[go_sem,binds],g_⟩ ?_
 ·intro s hs;rw[aS.1 hs];exact⟨by simpa using Chain.nil,⟨s_,λb hb=>by simp at hb⟩⟩
 clear c1 c2 c3 c4 lb lc n1 n2;rintro n st h ⟨i,L,x,rfl,hi,X,hL,hx,A,Q,g2,g4,g7,a,d⟩;by_cases I:i<(bd c.body).length
 ·have O:(i:Int)<(bd c.body).length:=o_;have z8:=dh (bd c.body) i I;have li:=λh=>ee (bd c.body)[i] h
  have w2:=wS i o_;have z9:(bd c.body).take (i+1)=(bd c.body).take i++[(bd c.body)[i]]:=by rw[<-aW I]
  have y':=q6 _ (aG I);have D:=Rk L x;have y0:L.length<=3600:=by
   rcases(show i=0\/i=1 by omega)with rfl|rfl
   ·simpa using cJ X d_
   simpa using cJ X d_
  simp[go_sem,g7,d,q8,O];refine bX (Xh fs c ts i L x) L.length ⟨0,[],.isl [] (.tok h.length),rfl,aO _,s_,s_,?_,g_,g_,g_,g_,g_,g_,g_,g_,.inr ⟨h.length,rfl,s_⟩⟩ ?_
  ·rw[aH (aB.1 A).1];exact A
  clear Q g2 g4 g7 a d A;rintro n st h ⟨j,M,v,rfl,hj,x5,hM,A,Q,g2,g4,g7,a,d,q9,Y,go⟩;by_cases Z:j<L.length
  ·have z':(j:Int)<L.length:=o_;have y1:=Rs L j Z x;have lj:=λh=>Rm L[j] h
   have⟨q',E⟩:=hL _ (aG Z);have⟨N,⟨x6,hN⟩,ce⟩:=Qc L[j] (bd c.body)[i] ts (400*i) o_ E y' o_ ht;have w3:=wS j o_;have⟨v',h',ha,hw,y2,x7⟩:=Fj (ys:=N) (x:=.unk) go o_;change bi C.P false h 79 v (IC N)=_ at ha;have J:=y2.get A (bn go A);simp[go_sem,a,Y,D,z'];refine eQ 14 _ (by simp[gM]) rfl ?_;simp[go_sem,g2,g7,a,d,q9,Y,y1,lj,z8,li,ce,ha,-Int.natCast_add,w3];refine⟨?_,L.length-(j+1),o_,j+1,M++N,v',rfl,Z,by simp;omega,λs' y3=>?_,J,g_,g_,g_,g_,g_,g_,g_,g_,hw⟩
   ·rcases go with rfl|⟨id,rfl,x8⟩
    ·simp[go_sem,ff,fL,fP,iC,dy,cF]
    simp[go_sem,ff,fL,fP,iC,dy,cF]
   rcases aK.1 y3 with h|h
   ·exact hM s' h
   have⟨h1,h2⟩:=hN s' h;exact⟨by rw[z9];exact .snoc q' h1,by rw[show 400*(i+1)=400+400*i by omega];exact h2⟩
  have:j=L.length:=o_;subst this;obtain⟨y,rfl⟩:=go.isl;simp[go_sem,a,d,q9,Y,D,-Int.natCast_add,w2];exact⟨(bd c.body).length-(i+1),o_,i+1,M,y,rfl,I,by rw[Nat.pow_succ];omega,hM,λt ht=>go.lt (by rw[ht];rfl),A,g_,g_,g_,g_,g_,g_⟩
 have:i=(bd c.body).length:=o_;subst this;rw[ak]at hL;have y0:L.length<=3600:=cJ X (by
  rcases(show(bd c.body).length=0\/(bd c.body).length=1\/(bd c.body).length=2 by omega)with e|e|e<;>rw[e]<;>decide)
 have D:=Rk L x;simp[go_sem,g7,d,q8];refine bX (Xa fs c ts L x) L.length ⟨0,fs,.unk,rfl,aO _,o_,λf B=>⟨hf f B,.inl B⟩,hx,A,by simp[go_sem,Q,bK],g_,g_,g_⟩ ?_;clear Q g2 g4 g7 a d A hx;rintro n st h ⟨k,p,y,rfl,hk,x9,o,hx,A,Q,g4,a,r⟩;by_cases K:k<L.length
 ·have z0:(k:Int)<L.length:=o_;have y4:=Rs L k K x;have lk:=λh=>Rm L[k] h
  have⟨q',E⟩:=hL _ (aG K);have x0:=E.1;have w3:=wS k o_;have S:smallT c.head.terms:=z5.2 c.head (by simp[aN]);have y5:∀h,aj C h (.func 38 []) (some [binds L[k],.agg (.isl [] .full::faC c.head)])=some (ai (fK L[k] ⟨[],c.head⟩),h):=λh=>an (args':=[binds L[k],ai ⟨[],c.head⟩]) rfl (by simp[el];simp[short,faC]) s_ (Dl L[k] ⟨[],c.head⟩ E.small o_ (λf hf=>by
   rcases aK.1 hf with hf|hf
   ·simp at hf
   rw[aS.1 hf];exact S) s_)
  have y6:∀h,cP h cM [binds L[k],.agg (.isl [] .full::faC c.head)]=[]:=λh=>(dM (h:=h) (l:=[binds L[k],.agg (.isl [] .full::faC c.head)]) (l':=[binds L[k],ai ⟨[],c.head⟩]) rfl (by simp[el];simp[short,faC]) cM (by simp[cM])).2
  obtain⟨f,q0⟩:∃f,f=cD L[k] c.head:=⟨_,rfl⟩
  have F:smallT f.terms:=by rw[q0];refine⟨by have:=S.1;simpa[cD]using this,λt ht=>?_⟩;obtain⟨u,hu,rfl⟩:=ae.1 ht;have h1:=uS L[k] (λb hb=>(E.2 b hb).2) u;have h2:=(bg (m u (kl (f:=c.head) (by simp[aN]) hu))).2.1;omega
  have y7:sK C.P 39 (ai (fK L[k] ⟨[],c.head⟩)) 1=some (aQ f):=by rw[WB,q0];rfl
  simp[go_sem,a,r,D,z0];refine ic 19 _ (λw h'=>∃q,w.get 0=.isl (p.map aQ) y/\w.get 4=.ptr 0 0/\w.get 10=.isl (L.map binds) x/\w.get 14=.int .i64 k/\w.get 15=.ptr q 0/\h'[q]?=some (.cells (faC f) .live)/\h.length<=h'.length/\h'[0]?=some (.cells (clC c) .live)) (by rw[gM];decide) k_ ?_ ?_
  ·generalize z1:h++List.replicate _ VObj.void=H0;have z:Pl h H0 11:=z1▸Pl.mk' h 11;have z2:=z.len;clear z1;have x1:=(aB.1 A).1;have p0:H0[0]?=some (.cells (clC c) .live):=z.get A;have y8:=lQ p0;refine bE (.isl (L.map binds) x) rfl rfl (z.isV (i:=0) d_) (by simp[opN,go_sem,a]) ?_ ?_
   ·exact tR λt ht=>by have:=hx t ht;omega
   refine bE (.int .i64 k) rfl rfl (z.isV (i:=1) d_) (by simp[opN,go_sem,r]) rfl ?_;refine bE (.iptr (binds L[k]) 0) rfl rfl (z.isV (i:=2) d_) (by simp[opN,go_sem,y4]) rfl ?_;refine cR (.iptr (binds L[k]) 0) (binds L[k]) g_ (lk H0) (by simp[it]) (z.isV (i:=3) d_) rfl ?_;refine bE (.ptr 0 1) rfl rfl (z.isV (i:=4) d_) (by simp[opN,go_sem,g4]) (oM o_) ?_;refine cR (.ptr 0 1) (aQ c.head) g_ y8 (dW o_) (z.isV (i:=5) d_) rfl ?_;refine bE (.agg (.isl [] .full::faC c.head)) rfl rfl (z.isV (i:=6) d_) (by simp[opN,fT,go_sem,CN,show au (aQ c.head)=true from rfl]) rfl ?_;refine qc [binds L[k],.agg (.isl [] .full::faC c.head)] (ai (fK L[k] ⟨[],c.head⟩)) k_ rfl g_ (y6 H0) (y5 H0) (z.isV (i:=7) d_) rfl ?_;refine bE (aQ f) rfl rfl (z.isV (i:=8) d_) (by simp[opN,go_sem,y7]) rfl ?_;refine je _ qv (z.isV (i:=9) d_) ?_;obtain⟨H1,G⟩:∃g,g=H0.set (h.length+9) (.cells qI .live):=⟨_,rfl⟩
   have w':H1.length=h.length+11:=by rw[G];simp[z2]
   have n9:H1[h.length+9]?=some (.cells qI .live):=by rw[G,aD o_]
   have n0:H1[0]?=some (.cells (clC c) .live):=by rw[G,aC o_];exact p0
   change MX C 20 _ _ _ _ _ _ (H0.set (h.length+9) (.cells qI .live)) _;rw[<-G];have z3:dE H1[h.length+10]?=true:=by rw[G];exact dg (z.isV d_) o_
   have y9:ah C.P H1 34 (.ptr (h.length+9) 0) (aQ f)=some (H1.set (h.length+9) (.cells (faC f) .live)):=by simp[ah,n9,s35,qI,aQ,faC]
   refine iA (h.length+9) 0 (aQ f) _ g_ g_ y9 o_ z3 ?_;refine⟨?_,h.length+9,g_,g_,g_,g_,g_,?_,by simp;omega,?_⟩
   ·unfold sq;generalize hb:Region.before _=bb;have x':(bb.getD 10 0).testBit 9=true:=by rw[<-hb];kernel_rfl
    clear hb;simp[it,qm,List.range,List.range.loop];simpa[ar]using x'
   ·rw[aD o_];rfl
   rw[aC o_];exact n0
  rintro w h' ⟨q,Q,g4,a,r,z4,mq,w0,J⟩;have lq:=IZ mq;have c5:=Qb f F;cases q2:CW f with
  |false=>rw[q2]at c5;simp[go_sem,r,z4,lq,c5,-Int.natCast_add,w3];exact⟨L.length-(k+1),o_,k+1,p,y,rfl,K,o_,o,λt ht=>by have:=hx t ht;omega,J,g_,g_,g_,g_⟩
  |true=>
   rw[q2]at c5;have c6:=Tr p f y o_ (λf hf=>(o f hf).1) F;simp[go_sem,Q,r,z4,lq,c5,c6,-Int.natCast_add,w3];exact⟨L.length-(k+1),o_,k+1,nT kV f p,.unk,rfl,K,by have:=wk (cmp:=kV) (c:=f) (l:=p);omega,λg hg=>by
    rcases rN hg with rfl|hg
    ·exact⟨F,.inr ⟨L[k],q',q1,q0,q2⟩⟩
    exact o g hg,λt ht=>by have:=hx t ht;omega,J,by simp[go_sem,bK],g_,g_,g_⟩
 have:k=L.length:=o_;subst this;simp[go_sem,Q,a,r,D];exact fin _ _ p y g_ o_ o
def BC(l:List Cl) (f:Fa):Prop:=f.terms≠[]/\smallT f.terms/\(f.kind=1->BD l (dQ f))
theorem Fg{fs:List Fa}{t:T}(h:t∈bd fs):∃f∈fs,f.kind=1/\t=dQ f:=by obtain⟨f,a,rfl⟩:=ae.1 h;have⟨b,c⟩:=cE.1 a;exact⟨f,b,by simpa using c,rfl⟩
theorem Ac{s:Lb}{f:Fa}(h:f.terms≠[]):dQ (cD s f)=cy s (dQ f):=by
 unfold dQ cD;cases b:f.terms with
 |nil=>exact absurd b h
 |cons a r=>simp
theorem G8{l:List Cl}{c:Cl}(hc:c∈l) (hv:bY c=0){ts:Lq}(hts:∀t∈ts,BD l t){f:Fa}(hs:smallT f.terms) (h:F0 c ts f):BC l f:=by
 obtain⟨s,g,j,rfl,i⟩:=h;have d:c.head.terms≠[]:=fa hv c.head (by simp[aN]);have b:(cD s c.head).terms≠[]:=by intro e;exact d (List.map_eq_nil_iff.1 e)
 refine⟨b,hs,λk=>?_⟩;rw[Ac d];refine Pt hc hv k hts g j ?_;rw[<-Ac d];have:dQ (cD s c.head)∈(cD s c.head).terms:=by
  unfold dQ;cases m:(cD s c.head).terms with
  |nil=>exact absurd m b
  |cons a r=>simp
 simpa using(av.1 i) _ this
def Z8(l:List Cl) (n:Nat) (st:PT) (_h:H):Prop:=∃(i:Nat) (fs:List Fa) (x:Ext),n=2-i/\i<=2/\fs.length<=60/\(∀f∈fs,BC l f)/\st.get 0=dV l/\st.get 1=.int .i64 2/\st.get 7=.isl (fs.map aQ) x/\st.get 8=.int .i64 i
def Z3(l:List Cl) (fs:List Fa) (i:Nat) (n:Nat) (st:PT) (_h:H):Prop:=∃(k:Nat) (cur:List Fa) (x:Ext),n=l.length-k/\k<=l.length/\cur.length<=60+3600*k/\(∀f∈cur,BC l f)/\st.get 0=dV l/\st.get 1=.int .i64 2/\st.get 8=.int .i64 i/\st.get 9=.isl (cur.map aQ) x/\st.get 10=terms (bd fs)/\st.get 11=.int .i64 k
theorem Qs(fs:List Fa) (c:Cl) (ts:Lq) (x:Ext) (hc:bY c=0) (h2:(bd c.body).length<=2) (hfl:fs.length<=1000000) (hf:∀f∈fs,smallT f.terms) (hl:ts.length<=60) (ht:∀t∈ts,t.size<=400):∃out,(out.length<=fs.length+3600/\∀f∈out,smallT f.terms/\(f∈fs\/F0 c ts f))/\∀h,aj C h (.func 20 []) (some [.isl (fs.map aQ) x,ai c,terms ts])=some (bK out,h):=by obtain⟨v,a,out,rfl,b⟩:=TA fs c ts hc h2 hfl hf hl ht;exact⟨out,b,λh=>an (args':=[bK fs,ai c,terms ts]) rfl (by simp[short,ai,clC,faC];rfl) s_ a⟩
theorem DF(e:AV):bp C.P 39 (.iptr e 0) 0=some (.iptr e 0):=k_
theorem Vj(c:Cl) (h:H):aJ C.P h 29 (.iptr (ai c) 0)=some (bK c.body):=by simp[aJ,aY,a33,s33,ai,clC,am,bK]
theorem V6(l:List Cl) (hl:l.length<=100) (hv:∀c∈l,bY c=0) (h2:∀c∈l,(bd c.body).length<=2):∃v,az C 7 [dV l,.int .i64 2]=some v/\∃o e,v=.tuple [bK o,.int .i64 e]/\(e≠0\/e=0/\o.length<=60/\∀f∈o,BC l f):=by
 refine mC rfl func7 rfl k_ (by simp[f7]) λR hR=>?_
 have fin:∀(st:PT) (h:H) (o:List Fa) (x:Ext) (e:Int),st.get 4=.isl (o.map aQ) x->st.get 5=.int .i64 e->(e≠0\/e=0/\o.length<=60/\∀f∈o,BC l f)->R .ret st h:=λst h o x e h2 N hq=>hR _ _ _ (.inr rfl) ⟨.tuple [bK o,.int .i64 e],⟨o,e,rfl,hq⟩,.tuple [.isl (o.map aQ) x,.int .i64 e],by simp[ag,gk,cO,f7,go_sem,h2,N],du rfl rfl s_⟩
 clear hR;have g:=sG l;have O:=JI l .unk o_ λc hc=>gR (hv c hc)
 by_cases Q:tX l=0
 rotate_left
 ·simp[go_sem,O,dV,Q];exact fin _ _ [] (.tok 1) _ g_ g_ (.inl Q)
 simp[go_sem,O,dV,Q];refine bX (Z8 l) 2 ⟨0,[],.tok 1,rfl,o_,s_,s_,by simp[go_sem,dV],g_,g_,g_⟩ ?_;clear O;rintro n st h ⟨i,j,x,rfl,hi,S,r,z,L,U,s⟩;by_cases q7:i<2
 rotate_left
 ·have m:¬(i:Int)<2:=o_;simp[go_sem,L,U,s,m];exact fin _ _ j x 0 g_ g_ (.inr ⟨rfl,S,r⟩)
 have m:(i:Int)<2:=o_;have w2:=wS i o_;have c2:=Hg j x o_ λf u=>(r f u).1
 obtain⟨v1,h1,V,A,-,-⟩:=nL (h:=h) (xs:=[]) (ys:=j) (x:=x) (.inl rfl) (by simp;omega);change bi C.P false h 29 (.isl [] .full) (.isl (j.map aQ) x)=_ at V;rw[cN]at A;obtain⟨x1,rfl⟩:=A.isl;simp[go_sem,L,U,s,m,oG,V,c2];refine bX (Z3 l j i) l.length ⟨0,j,x1,rfl,aO _,o_,r,g_,g_,g_,g_,g_,g_⟩ ?_;clear z L U s c2 V A;rintro n st h ⟨k,a,y,rfl,hk,q8,d,z,L,s,M,F,p⟩;by_cases b:k<l.length
 ·have q:(k:Int)<l.length:=o_;have B:aZ C.P 24 (dV l) (.int .i64 k)=some (.iptr (ai l[k]) 0):=vG l k b;have li:=sh l[k];have X:=Vj l[k];have w:=hv _ (aG b);have Y:=wS k o_;have q9:=(gY w).1;have c3:∀h,aj C h (.func 19 []) (some [bK l[k].body])=some (terms (bd l[k].body),h):=Hg l[k].body .unk o_ λf u=>fa w f (aa _ u)
  have D:=dX (bd l[k].body);have G:∀t∈bd j,BD l t:=λt Z=>by obtain⟨f,u,q',rfl⟩:=Fg Z;exact(r f u).2.2 q'
  have q0:(bd j).length<=60:=by
   have:(bd j).length<=j.length:=by unfold bd;rw[ax];exact dS _ _
   omega
  have⟨out,⟨z',I⟩,c4⟩:=Qs a l[k] (bd j) y w (h2 _ (aG b)) o_ (λf u=>(d f u).2.1) q0 (λt Z=>by have:=(G t Z).2.1;omega);have J:∀f∈out,BC l f:=λf u=>by
   obtain⟨N,h4|h4⟩:=I f u
   ·exact d f h4
   exact G8 (aG b) w G N h4
  by_cases q2:0<(bd l[k].body).length
  ·have q5:(0:Int)<(bd l[k].body).length:=o_;simp[go_sem,z,s,M,F,p,g,q,B,DF,li,X,c3,D,q2,c4,-Int.natCast_add,Y];exact⟨l.length-(k+1),o_,k+1,out,.unk,rfl,b,o_,J,g_,g_,g_,by simp[go_sem,bK],g_,g_⟩
  have q5:¬(0:Int)<(bd l[k].body).length:=o_;by_cases q3:i=0
  ·have q6:(i:Int)=0:=o_;simp[go_sem,z,s,M,F,p,g,q,B,DF,li,X,c3,D,q2,q3,c4,-Int.natCast_add,Y];exact⟨l.length-(k+1),o_,k+1,out,.unk,rfl,b,o_,J,g_,g_,by simp[go_sem,s,q3],by simp[go_sem,bK],g_,g_⟩
  have q6:¬(i:Int)=0:=o_;simp[go_sem,z,s,p,g,q,B,DF,X,c3,D,q2,q3,-Int.natCast_add,Y];exact⟨l.length-(k+1),o_,k+1,a,y,rfl,b,o_,d,g_,g_,g_,g_,g_,g_⟩
 have:k=l.length:=o_;subst this;have K:fG C.P 29 (.isl (a.map aQ) y)=some (.int .i64 a.length):=by rw[Eo];simp
 by_cases q4:60<a.length
 ·have E:(60:Int)<a.length:=o_;simp[go_sem,z,M,p,g,K,E];exact fin _ _ [] _ 3 (by simp[go_sem];rfl) g_ (.inl d_)
 have E:¬(60:Int)<a.length:=o_;simp[go_sem,z,s,M,p,g,K,E,-Int.natCast_add,w2];exact⟨2-(i+1),o_,i+1,a,y,rfl,o_,o_,d,g_,g_,g_,g_⟩
theorem I6(h:H):aj C h (.func 4 []) (some [])=some (.bool true,h):=by
 have a:C.prim 4 [] []=some (.bool true,[]):=k_;have b:Go.V.Call C 4 [] []=some (.bool true,[]):=kK (C:=C) (fn:=f4) func4 a;have e:az C 4 []=some (.bool true):=by unfold az;rw[b];rfl
 exact an (args':=[]) rfl rfl s_ e
theorem Yx{g:FuncId}(hb:dl C.P g=true) (hm:C.mode g=.strip) (l:List Cl) (hl:l.length<=10000){a v:AV}(hd:iT [a]=some [a]) (hsh:short a=true) (hc:az C g [dV l,a]=some v) (hs:Cc v=true) (h0:H) :
  ∃(u:AV) (h1:H),aj C h0 (.func 9 []) (some [dV l])=some (u,h1)/\(∀(j:Nat) (o:VObj),h0[j]?=some o->h1[j]?=some o)/\aj C h1 (.func g []) (some [u,a])=some (v,h1):=by
 cases l with
 |nil=>exact⟨_,_,JL h0,λ_ _ h=>h,mf hb hm (args':=[dV [],a]) (jo (a:=[.isl [] .full]) rfl hd) (by rw[mF,mF,hsh];rfl) s_ hc⟩
 |cons c l=>refine⟨_,_,JM c l h0 hl,λj o h=>?_,K4 hb hm s_ hl hd hsh hc hs⟩;rw[aH (aB.1 h).1];exact h
def Rt(c:Cl):Bool:=decide (bY c=0)&&decide ((bd c.body).length<=2)&&c.body.all (λf=>decide (f.terms.length<=1))&&decide (c.head.terms.length<=2)&&decide (nv c<=2)
theorem La:((List.range 16).all λk=>Rt (qh k))=true:=k_
theorem Oy{k:Nat}(hk:k<16):bY (qh k)=0/\(bd (qh k).body).length<=2/\qT (qh k)/\nv (qh k)<=2:=by have:=av.1 La k (dR.2 hk);simp only[Rt,bI,decide_eq_true_eq]at this;have⟨⟨⟨⟨a,b⟩,c⟩,d⟩,e⟩:=this;exact⟨a,b,⟨λf g=>by simpa using av.1 c f g,d⟩,e⟩
theorem FO{l:List Nat}{c:Cl}(h:c∈mA l):bY c=0/\(bd c.body).length<=2/\qT c/\nv c<=2:=by obtain⟨n,_,rfl⟩:=ae.1 h;exact Oy (iH _ o_)
theorem B6:∀ {l:List Cl},(∀c∈l,bY c=0)->iG l=0
 |[],_=>rfl
 |c::l,h=>by rw[iG,if_pos (h c s_)];exact B6 λd hd=>h d (by simp[hd])
theorem BF{t:T}(h:oC t):bS [t]=[]:=by
 cases c:bS [t]with
 |nil=>rfl
 |cons v l=>
  have a:v∈bS [t]:=by rw[c];simp
  have⟨u,d,b⟩:=oN a;rw[aS.1 d]at b;exact absurd (mW a) (h v b)
theorem MK{c:Cl}(hc:bY c=0) (hf:qT c):okC c:=by
 have⟨g,h⟩:=gY hc;have d:∀f∈aN c,∀t∈f.terms,t.size<=400:=λf hf t b=>(bg ((eS ((dH hc).2 f hf)).2.2 t b)).2.1
 have e:bN c=c.head.terms++cC c.body:=rfl;have i:=ph (n:=400) (l:=c.body) λf a=>by
  have:=mn (n:=400) (l:=f.terms) λt b=>d f (aa _ a) t b
  have:=hf.1 f a;have:400*f.terms.length<=400*1:=jX _ this;omega
 have j:=mn (n:=400) (l:=c.head.terms) λt b=>d c.head (by simp[aN]) t b
 have:=hf.2;refine⟨g,by rw[e,jE];omega,λf a=>⟨fa hc f a,(h f a).1,d f a⟩⟩
theorem Jr{l S:List Cl}(h:OL (InvS l) S){t:T}(ht:BD l t):(∀c∈S,okC c/\(bS (bN c)).length+(bS [t]).length<=300)/\sizes [t]<=60/\(GI jl S (mh t)).2=0:=by
 have i:=Ls h;have⟨E,p,o,g,_,_⟩:=h;have⟨j,K,v,n,k⟩:=ht;have w:bA t=0:=Dw v o_;have A:∀c∈S,okC c/\(bS (bN c)).length+(bS [t]).length<=300:=λc b=>by refine⟨MK (g.2.1 c b) (g.2.2.1 c b),?_⟩;have:=g.nvs c b;rw[BF j];show nv c+0<=300;omega
 have m:sizes [t]<=60:=by simp only[sizes];omega
 refine⟨A,m,?_⟩;have x:eZ (mh t)=0:=by unfold eZ mh;simp only;rw[if_neg s_,if_neg s_,if_neg s_,if_neg s_];exact vP λu F=>by rw[aS.1 F];exact w
 have q:nl S (mh t)=0:=by
  rw[nl,if_neg o_,vI,B6 g.2.1,if_pos rfl];have:bY ⟨[],mh t⟩=0:=yJ s_ λf r=>by
   rcases aK.1 r with r|r
   ·simp at r
   rw[aS.1 r];exact x
  rw[iG,if_pos this];rfl
 have⟨c,b,G,B,_,θ,d,I⟩:=D4 g.2.2.2.2 i k;have y:Pr c (mh t):=Ri (f:=mh t) A q m c b;have z:=g.2.1 c b;have a:=(dH z).2 c.head (by simp[aN]);have s:c.head.goal=0/\c.head.terms.length=1:=by
  unfold eZ at a;split at a
  ·cases a
  rename_i D;simp only[not_or,not_and,Decidable.not_not]at D;have:=D.2 B;exact⟨this.2,this.1⟩
 have e:jl (mh t) c=true:=by
  refine PU y ?_ ?_ rfl rfl j o_ d I
  ·rw[nu];exact rT _
  simp[oB,G,B,s.1,s.2,mh]
 have J:0<=ixF (jl (mh t)) S 0:=by
  rcases wj (jl (mh t)) S 0 with⟨_,h⟩|⟨h,_⟩
  ·have:S.any (jl (mh t))=true:=dT.2 ⟨c,b,e⟩;rw[this]at h;cases h
  exact h
 rw[GI,uy,if_pos q,if_neg o_]
def aAD(S:List Cl) (o:List Fa) (n:Nat) (st:PT) (_h:H):Prop:=∃k:Nat,n=o.length-k/\k<=o.length/\st.get 4=dV S/\st.get 38=bK o/\st.get 39=.int .i64 o.length/\st.get 40=.int .i64 k
theorem Ys(l:List Nat) (hb:∀n∈l,n<256):az C 3 [lU l]=some (.bool true):=by
 refine oV rfl func3 rfl k_ (by simp[f3]) λR hR=>?_
 have fin:∀(st:PT) (h:H),st.get 2=.bool true->R .ret st h:=λst h h6=>hR _ _ _ (.inr rfl) ⟨.bool true,by simp[ag,cO,f3,h6],aU rfl rfl⟩
 clear hR;have i:fG C.P 22 (lU l)=some (.int .i64 l.length):=by simp[fG,Ot,lU]
 by_cases q1:6<l.length
 ·have e:(6:Int)<l.length:=o_;simp[go_sem,I6,i,e];exact fin _ _ g_
 have e:¬(6:Int)<l.length:=o_;have D:=WN l o_ hb;have F:(mA l).length<=6:=by unfold mA;simp;omega
 have m:∀c∈mA l,bY c=0/\(bd c.body).length<=2/\qT c/\nv c<=2:=λc b=>FO b
 generalize mA l=L at D F m;obtain⟨v6,G,S,e6,rfl,hS⟩:=Yh (S4 L) L o_ (λc b=>(m c b).1) (λc b=>by have:=(m c b).2.2.2;omega) (λt ht=>G6 (λc b=>(m c b).1) (λc b=>(m c b).2.2.1) (λc b=>(m c b).2.2.2) ht);obtain⟨v7,I,o,e7,rfl,hO⟩:=V6 L o_ (λc b=>(m c b).1) (λc b=>(m c b).2.1);have J:∀h,aj C h (.func 6 []) (some [dV L,.int .i64 10])=some (.tuple [dV S,.int .i64 e6],h):=λh=>an (args':=[dV L,.int .i64 10]) rfl (by simp[short,dV]) s_ G
 have K:∀h,aj C h (.func 7 []) (some [dV L,.int .i64 2])=some (.tuple [bK o,.int .i64 e7],h):=λh=>an (args':=[dV L,.int .i64 2]) rfl (by simp[short,dV]) s_ I
 by_cases M:e6=0
 rotate_left
 ·simp[go_sem,I6,i,e,D,J,K,M];exact fin _ _ g_
 by_cases q7:e7=0
 rotate_left
 ·simp[go_sem,I6,i,e,D,J,K,M,q7];exact fin _ _ g_
 subst M;subst q7;have p:OL (InvS L) S:=by
  rcases hS with h|⟨_,h⟩
  ·exact absurd rfl h
  exact h
 have q:o.length<=60/\∀f∈o,BC L f:=by
  rcases hO with h|⟨_,h⟩
  ·exact absurd rfl h
  exact h
 have q0:=p.1;have⟨q2,q⟩:=q;have N:=iu o;simp[go_sem,I6,i,e,D,J,K,N];refine bX (aAD S o) o.length ⟨0,rfl,aO _,g_,g_,g_,g_⟩ ?_;rintro n st h ⟨k,rfl,hk,g4,y,s,v⟩;by_cases j:k<o.length
 rotate_left
 ·have d:¬(k:Int)<o.length:=o_;simp[go_sem,s,v,d];exact fin _ _ g_
 have d:(k:Int)<o.length:=o_;have w:aZ C.P 29 (bK o) (.int .i64 k)=some (.iptr (aQ o[k]) 0):=kD o k j .unk;have O:=ll o[k];have hf:=q _ (aG j);have w2:=wS k o_;generalize o[k]=f at w O hf;have Q:=yW f h;obtain⟨U,z⟩:∃g,g=h++[.cells (faC f) .live]:=⟨_,rfl⟩
 have m1:U[h.length]?=some (.cells (faC f) .live):=by rw[z];simp
 have l0:aJ C.P U 3 (.ptr h.length 0)=some (.int .i64 f.kind):=by simp[aJ,m1,aY,a3,s3,faC]
 rw[<-z]at Q;by_cases V:f.kind=1
 rotate_left
 ·simp[go_sem,y,s,v,d,w,O,qv,am,Q,l0,V,-Int.natCast_add,w2];exact⟨o.length-(k+1),o_,k+1,rfl,j,g_,g_,g_,g_⟩
 have⟨X,q3,E⟩:=hf;have E:=E V;obtain⟨t,r,A⟩:∃t r,f.terms=t::r:=by
  cases hh:f.terms with
  |nil=>exact absurd hh X
  |cons a r=>exact⟨a,r,rfl⟩
 have Y:dQ f=t:=by unfold dQ;rw[A];rfl
 rw[Y]at E;have⟨s1,s2,Z⟩:=Jr p E;have B:=Lp S t o_ s1 s2;rw[Z]at B;have⟨u,h2,c9,x,c8⟩:=Yx (g:=8) k_ rfl S o_ (a:=enc t) (fv t) (bF t) B rfl U;have m2:=x _ _ m1;have lt:aJ C.P h2 32 (.ptr h.length 2)=some (terms f.terms):=by simp[aJ,m2,aY,a23,s23,faC,terms]
 rw[A]at lt;have ix:aZ C.P 32 (terms (t::r)) (.int .i64 0)=some (.iptr (enc t) 0):=dh (t::r) 0 s_;have q':=ee t h2;generalize (GI jl S (mh t)).1=a at c8;simp[go_sem,g4,y,s,v,d,w,O,qv,am,Q,l0,V,c9,lt,ix,q',c8,-Int.natCast_add,w2];exact⟨o.length-(k+1),o_,k+1,rfl,j,g_,g_,g_,g_⟩
end Go.VZ
