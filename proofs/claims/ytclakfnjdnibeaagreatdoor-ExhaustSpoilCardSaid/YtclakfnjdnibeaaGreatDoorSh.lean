/- A part of the proof. -/
import Derived.Test.YtclakfnjdnibeaaGreatDoorSg
set_option maxHeartbeats 8000000
set_option maxRecDepth 16000
namespace Go.VZ
open Go Go.V Go.Proofs Tryz TL
theorem K4{t:T}(h:mJ t=true) (hn:t.name=pG):t.kids.length=2:=by have e:sP pG=some ⟨pG,2,2,1⟩:=k_;unfold mJ at h;rw[hn,e]at h;simp only[am,decide_eq_true_eq]at h;omega
theorem uR{id n k:Nat}{cap:Option Nat}(hk:k<n):bH C.P 115 (.msl id 0 1 n cap) (.int .i64 k)=some (.ptr id k):=by simp[bH,Jn,s4,hk]
theorem CE{kn:List Bool}{k:Nat}(hk:k<kn.length):ldM C.P 4 k (some (.cells (dP kn) .live))=some (.bool kn[k]):=by simp[ldM,aZ,a4,s4,dP,hk]
theorem Em{u:Lq}{kn:List Bool}(hl:kn.length=u.length){t:T}(ht:t∈u):kn[ixU u t]'(by have:=tQ ht;omega)=knT u kn t:=by have:=DF hl ht;rw[aC (by have:=tQ ht;omega)]at this;exact Option.some.inj this
theorem Ia(l:List Int) (hl:1<=l.length):∃x,fP C.P 53 (.isl (bP l) .unk) none (some (.int .i64 1)) none=some (.isl (bP (l.take 1)) x):=by
 have b:(1:Int)<=l.length:=o_;have a:gn 1 (bP l)=true:=nE l;simp only[fP,u53,s3,mb,qy];have e:(bP l).length=l.length:=by simp[bP]
 rw[if_pos ⟨o_,by rw[e];omega⟩];dsimp only;rw[a];simp only[du,aw,if_false];split
 ·rename_i q;have:l.length=1:=by rw[e]at q;have:=q.2;omega
  exact⟨.unk,by rw[cq o_]⟩
 exact⟨_,by simp[bP];rfl⟩
theorem EV{h0:H}{kid:Nat}{cap:Option Nat}(u:Lq) (ho:KS u) (kn:List Bool) (t:T) (ht:t∈u) (hid:h0[kid]?=some (.cells (dP kn) .live)) (hl:kn.length=u.length) :
  ∃x g,ak C h0 (.func 174 []) (some [enc t,kD u t,.msl kid 0 1 u.length cap])=some (.isl (bP (eD u (jD u kn t))) x,h0++g):=by
 suffices hh:∃r v,Go.V.Call C 174 [enc t,kD u t,.msl kid 0 1 u.length cap] h0=some (r,v)/\∃x,r=.isl (bP (eD u (jD u kn t))) x/\Pre h0 v by
  obtain⟨r,v,a,x,rfl,g,rfl⟩:=hh;exact⟨x,g,by rw[gQ k_ rfl];exact a⟩
 refine lC rfl func174 rfl k_ (by simp[f174]) λR F=>?_
 have fin:∀(e:Ex) (w:PT) (h:H) (l:Lq) (x:Ext),e=.normal\/e=.ret->w.get 6=.isl (bP (eD u l)) x->jD u kn t=l->Pre h0 h->R e w h:=λe w h l x I J hl K=>F _ _ _ I ⟨.isl (bP (eD u l)) x,by simp[aY,cC,f174,J],x,by rw[hl],K⟩
 have⟨L,M,D,y⟩:=id ho;have i:=PD u t;have o:=xo t;have E:=(je (y t ht)).2;by_cases j:iu t qo=true
 ·have b:iu t ⟨#[112,97,105,114]⟩=true:=j;simp[go_sem,i,o,b];exact fin _ _ _ t.kids .unk (.inr rfl) g_ (by rw[jD,if_pos j]) ((Pre.refl h0).app _)
 have b:iu t ⟨#[112,97,105,114]⟩=false:=iz.2 j;by_cases n:iu t pG=true
 ·have c:iu t ⟨#[115,105,103,110]⟩=true:=n;have⟨N,z⟩:=ea n;have O:=K4 (kU E N).1 z;have⟨x,A⟩:=Ia (eD u t.kids) (by simp[eD,O]);simp[go_sem,i,o,b,c,A];exact fin _ _ _ (t.kids.take 1) x (.inr rfl) (by simp[go_sem,eD]) (by rw[jD,if_neg j,if_pos (.inl n)]) ((Pre.refl h0).app _)
 have c:iu t ⟨#[115,105,103,110]⟩=false:=iz.2 n;cases m:rf t with
 |none=>
  have e:tP u t = -1:=by rw[tP,m]
  rw[e]at i;simp +contextual [go_sem,i,o,b,c];exact fin _ _ _ [] _ (.inr rfl) (by simp[go_sem,eD,bP];rfl) (by rw[jD,if_neg j,if_neg (by simp[n,m])]) ((Pre.refl h0).app _)
 |some k=>
  have e:tP u t=ixU u k:=by rw[tP,m]
  have p:=Ni ho ht m;have B:=tQ p;have q:=uR (id:=kid) (cap:=cap) B;have s:(0:Int)<=ixU u k:=o_;rw[e]at i;have d:=CE (kn:=kn) (k:=ixU u k) o_;rw[Em hl p]at d;cases f:knT u kn k with
  |true=>rw[f]at d;simp +contextual [go_sem,i,o,b,c,s,q,G (ga hid),d];have⟨x,A⟩:=Ia (eD u t.kids) (by have:=qu m;have:=AZ (kU E this.1).1 this.2;simp[eD,this]);simp[go_sem,A];exact fin _ _ _ (t.kids.take 1) x (.inr rfl) (by simp[go_sem,eD]) (by rw[jD,if_neg j,if_pos (.inr (by rw[m];simpa using f))]) ((Pre.refl h0).app _)
  |false=>rw[f]at d;simp +contextual [go_sem,i,o,b,c,s,q,G (ga hid),d];exact fin _ _ _ [] _ (.inr rfl) (by simp[go_sem,eD,bP];rfl) (by rw[jD,if_neg j,if_neg (by simp[n,m,f])]) ((Pre.refl h0).app _)
theorem TA(wr:Bool) (h:H) (n:Nat) (h0:0<n) (hn:n<=1000000):gN C.P wr h 115 (.int .i64 n) (.int .i64 n)=some (.msl h.length 0 1 n (some n),h++[.cells (dP (List.replicate n false)) .live]):=by
 have a:(n:Int)<=1073741824:=o_;have b:¬n=0:=o_;have e:(List.replicate n [AV.bool false]).flatten=dP (List.replicate n false):=by
  clear h0 hn a b;induction n with
  |zero=>rfl
  |succ n c=>rw[jO,List.flatten_cons,c,jO];rfl
 have d:(AV.bool false).cells=[.bool false]:=rfl;have f:iH C.P 4=some (.bool false):=k_;have g:gH C.P 4=true:=k_;simp[gN,Jn,s4,b4,f,g,a,b,d,e]
theorem IY{kn:List Bool}{k:Nat}(b:Bool) (h:H) (i:Nat) (hk:k<kn.length):stM C.P 4 (.bool b) k h i (some (.cells (dP kn) .live))=some (pt h i (.cells (dP (kn.set k b)) .live)):=by rw[sr s4 h i k _ _ rfl (by simpa[dP]using hk)];simp[dP,List.map_set]
theorem W0(u l:Lq) (k:Nat) (hk:k<l.length):bH C.P 185 (.isl (l.map (kD u)) .unk) (.int .i64 k)=some (.iptr (kD u l[k]) 0):=by simp[bH,To,Gi,hk,yU]
@[go_sem] theorem aAx (u:Lq) (t:T) (h:H):aW C.P h 189 (.iptr (kD u t) 0)=some (kD u t):=by simp[aW,aZ,Yi,Gi,kD,aV]
structure MkH (u s:Lq) (kid:Nat) (kn:List Bool) (st:PT) (h:H):Prop where
 map:h[1]?=some (.map (oZ (ixM u u.length)))
 row:h[kid]?=some (.cells (dP kn) .live)
 marks:Marks u s kn
 t0:st.get 0=aM s
 t1:st.get 1=aM u
 t5:st.get 5=.mp 1
 t7:st.get 7=KG u
 t8:st.get 8=.msl kid 0 1 u.length (some u.length)
theorem M6{e:TypeId}{h:H}{v:AV}{xs:LA}(o:OwnR e h v xs){i:Nat}{es:List (AV × AV)}(hi:h[i]?=some (.map es)):bv v≠some i:=by
 intro b;rcases o with rfl|⟨a,rfl,c⟩
 ·cases b
 simp only[bv,aA]at b;subst b;rw[c]at hi;cases hi
theorem By(u:Lq) (kn:List Bool) (t:T):(jD u kn t).length<=t.kids.length:=by
 unfold jD;split
 ·exact aR _
 split
 ·rw[ag];omega
 simp
def Y9(s u:Lq) (m:Nat) (st:PT) (h:H):Prop:=∃k:Nat,m=u.length-k/\k<=u.length/\h=[.tok 0 39,.map (oZ (ixM u k))]/\st.get 0=aM s/\st.get 1=aM u/\st.get 5=.mp 1/\st.get 6=.int .i64 k
def V4(s u:Lq) (kid m:Nat) (st:PT) (h:H):Prop:=∃(k:Nat) (kn:List Bool),m=s.length-k/\k<=s.length/\MkH u s kid kn st h/\st.get 9=.int .i64 k/\∀t∈s.take k,knT u kn t=true
def V2(s u:Lq) (kid m:Nat) (st:PT) (h:H):Prop:=∃(c:Bool) (kn:List Bool),m=2*mq kn+(if c=true then 1 else 0)/\MkH u s kid kn st h/\st.get 10=.bool c/\(∀t∈s,knT u kn t=true)/\(c=false->∀t∈u,xT u kn t)
def V6(s u:Lq) (kid:Nat) (kn0:List Bool) (m:Nat) (st:PT) (h:H):Prop:=∃(k:Nat) (c:Bool) (kn:List Bool),m=u.length-k/\k<=u.length/\MkH u s kid kn st h/\st.get 10=.bool c/\st.get 11=.int .i64 k/\(∀t∈s,knT u kn t=true)/\(c=false->kn=kn0/\∀t∈u.take k,xT u kn t)/\(c=true->mq kn<mq kn0)
def IK(s u:Lq) (kid k:Nat) (kn0 kn1:List Bool) (c1:Bool) (ps:Lq) (m:Nat) (st:PT) (h:H):Prop:=∃(j:Nat) (c:Bool) (kn:List Bool) (x:Ext),m=ps.length-j/\j<=ps.length/\MkH u s kid kn st h/\st.get 10=.bool c/\st.get 11=.int .i64 k/\st.get 12=.isl (bP (eD u ps)) x/\st.get 13=.int .i64 j/\(∀t∈s,knT u kn t=true)/\(c=false->c1=false/\kn=kn1/\∀t∈ps.take j,knT u kn t=true)/\(c=true->mq kn<mq kn0)
def Y7(s u:Lq) (kid:Nat) (kn:List Bool) (m:Nat) (st:PT) (h:H):Prop:=∃k:Nat,m=u.length-k/\k<=u.length/\MkH u s kid kn st h/\st.get 15=.int .i64 k/\OwnR 39 h (st.get 14) (((u.take k).filter (knT u kn)).map enc)
theorem Marks.start(u s:Lq):Marks u s (List.replicate u.length false):=⟨s_,λt a h=>by have:=tQ a;unfold knT at h;rw[bK,List.getElem?_replicate,if_pos this]at h;simp at h⟩
theorem RG(s u:Lq) (ho:KS u) (hu0:0<u.length) (hu:u.length<=100000) (hs:∀t∈s,t∈u) (hsl:s.length<4000000):az C 112 [aM s,aM u]=some (aM (u.filter λt=>@decide (DrS s t) (Classical.propDecidable _))):=by
 refine hJ rfl func112 rfl k_ (by simp[f112]) λR hR=>?_
 have⟨hou,hul,hkid,hv9⟩:=id ho;have ixk:∀(k:Nat) (hk:k<u.length),ixU u u[k]=k:=λk hk=>Nj hou.1 (aC hk)
 simp[go_sem];refine bL (Y9 s u) u.length ⟨0,rfl,aN _,rfl,g_,g_,g_,g_⟩ ?_;rintro m st h ⟨k,rfl,hk,rfl,g0,g1,g5,g6⟩;by_cases hlt:k<u.length
 ·have hlt':(k:Int)<u.length:=o_;have hix:=kX u k hlt;have hmem:=aF hlt;have w2:=wS k o_;have cp:=uZ u[k] (hou.2 _ hmem).2 (hou.2 _ hmem).1;have up:=upI (h:=[.tok 0 39,.map (oZ (ixM u k))]) (q:=1) hou hlt rfl;simp[go_sem,g1,g5,g6,hlt',hix,cp,up,-Int.natCast_add,w2];exact⟨u.length-(k+1),o_,k+1,rfl,hlt,s_,g_,g_,g_,g_⟩
 have:k=u.length:=o_;subst this;have⟨g,hpl⟩:=KH u ho [.tok 0 39,.map (oZ (ixM u u.length))] 1 rfl;have mk:=TA false ([.tok 0 39,.map (oZ (ixM u u.length))]++g) u.length hu0 o_;have mk':=mk;simp only[cP,bk]at mk';simp[go_sem,g1,g5,g6,hpl,mk'];obtain⟨kid,ekid⟩:∃n,n=g.length+2:=⟨_,rfl⟩
 have row0:([.tok 0 39,.map (oZ (ixM u u.length))]++g++[.cells (dP (List.replicate u.length false)) .live]:H)[kid]?=some (.cells (dP (List.replicate u.length false)) .live):=by rw[ekid,show g.length+2=([.tok 0 39,.map (oZ (ixM u u.length))]++g:H).length by simp,aj (aR _)];simp
 refine bL (V4 s u kid) s.length ⟨0,_,rfl,aN _,⟨rfl,row0,.start u s,g_,g_,g_,g_,by simp[go_sem,ekid]⟩,g_,s_⟩ ?_;clear mk mk' row0 hpl g0 g1 g5 g6 hlt hk;rintro m st h ⟨k,kn,rfl,hk,mh,g9,hks⟩;have hkn1:∀ {h:H},h[1]?=some (.map (oZ (ixM u u.length)))->∀ {cs st},h[kid]?=some (.cells cs st)->1≠kid:=λe1 _ _ e2 e=>by subst e;rw[e1]at e2;cases e2
 by_cases hlt:k<s.length
 ·have hlt':(k:Int)<s.length:=o_;have hix:=kX s k hlt;have hmem:=hs _ (aF hlt);have w2:=wS k o_;have cp:=uZ s[k] (hou.2 _ hmem).2 (hou.2 _ hmem).1;have lk:=lkI hou mh.map hmem;have hil:=tQ hmem;have hx:=uR (id:=kid) (cap:=some u.length) hil;have hsb:=IY (kn:=kn) (k:=ixU u s[k]) true h kid (by rw[mh.marks.len];exact hil);simp[go_sem,mh.t0,mh.t5,mh.t8,g9,hlt',hix,cp,lk,hx,G mh.row,hsb,-Int.natCast_add,w2];refine⟨s.length-(k+1),o_,k+1,kn.set (ixU u s[k]) true,rfl,hlt,⟨?_,?_,mh.marks.set hmem (.ax (aF hlt)),by simp[go_sem,mh.t0],by simp[go_sem,mh.t1],by simp[go_sem,mh.t5],by simp[go_sem,mh.t7],by simp[go_sem,mh.t8]⟩,g_,λt ht=>?_⟩
  ·rw[pt,aE (hkn1 mh.map mh.row).symm];exact mh.map
  ·rw[pt];exact aH (aB.1 mh.row).1
  have htu:t∈u:=hs t (bW ht);rw[wN mh.marks.len hmem htu];rw[aJ hlt,ac,bJ]at ht;rcases ht with ht|rfl
  ·rw[hks t ht];simp
  simp
 have:k=s.length:=o_;subst this;rw[ah]at hks;simp[go_sem,mh.t0,g9];refine bL (V2 s u kid) (2*mq kn+1) ⟨true,kn,rfl,⟨mh.map,mh.row,mh.marks,by simp[go_sem,mh.t0],by simp[go_sem,mh.t1],by simp[go_sem,mh.t5],by simp[go_sem,mh.t7],by simp[go_sem,mh.t8]⟩,g_,hks,s_⟩ ?_;clear hks mh g9 hlt hk;rintro m st h ⟨c,kn0,rfl,mh,g10,hks,hcl⟩;cases c with
 |false=>
  have hcl:=hcl rfl;simp[go_sem,g10];refine bL (Y7 s u kid kn0) u.length ⟨0,rfl,aN _,⟨ga mh.map,ga mh.row,mh.marks,by simp[go_sem,mh.t0],by simp[go_sem,mh.t1],by simp[go_sem,mh.t5],by simp[go_sem,mh.t7],by simp[go_sem,mh.t8]⟩,g_,.inr ⟨h.length,g_,s_⟩⟩ ?_;have hend:=λt ht=>Ke mh.marks hou.1 hkid (λt ht=>⟨hs t ht,hks t ht⟩) hcl (t:=t) ht
  clear hks mh g10 hcl;rintro m2 st2 h2 ⟨k,rfl,hk,mh,g15,go⟩;obtain⟨v14,e14⟩:∃v,v=st2.get 14:=⟨_,rfl⟩
  rw[<-e14]at go;by_cases hlt:k<u.length
  ·have hlt':(k:Int)<u.length:=o_;have hix:=kX u k hlt;have hmem:=aF hlt;have w2:=wS k o_;have hx:=uR (id:=kid) (cap:=some u.length) hlt;have hlb:=CE (kn:=kn0) (k:=k) (by rw[mh.marks.len];exact hlt);have hkk:kn0[k]'(by rw[mh.marks.len];exact hlt)=knT u kn0 u[k]:=by rw[<-Em mh.marks.len hmem];congr 1;exact(ixk k hlt).symm
   rw[hkk]at hlb;have hft:(u.take (k+1)).filter (knT u kn0)=(u.take k).filter (knT u kn0)++if knT u kn0 u[k]=true then [u[k]]else []:=by rw[aJ hlt,iP];simp only[jb,List.filter_nil]
   have hfl:=dA (knT u kn0) (u.take k);rw[ag]at hfl;cases hq:knT u kn0 u[k]with
   |true=>rw[hq]at hlb hft;have⟨v',h',ha,hov,hkp,_⟩:=eW (ys:=[u[k]]) (x:=.full) go (by simp;omega);rw[if_pos rfl]at hft;rw[<-hft]at hov;simp only[aS,bD]at ha;simp[go_sem,mh.t1,mh.t8,g15,hlt',hx,G mh.row,hlb,<-e14,hix,dp,ha,-Int.natCast_add,w2];exact⟨u.length-(k+1),o_,k+1,rfl,hlt,⟨hkp.get mh.map (M6 go mh.map),hkp.get mh.row (cM go mh.row),mh.marks,by simp[go_sem,mh.t0],by simp[go_sem,mh.t1],by simp[go_sem,mh.t5],by simp[go_sem,mh.t7],by simp[go_sem,mh.t8]⟩,g_,by simpa[go_sem]using hov⟩
   |false=>rw[hq]at hlb hft;rw[if_neg s_,bm]at hft;simp[go_sem,mh.t1,mh.t8,g15,hlt',hx,G mh.row,hlb,-Int.natCast_add,w2];exact⟨u.length-(k+1),o_,k+1,rfl,hlt,⟨mh.map,mh.row,mh.marks,by simp[go_sem,mh.t0],by simp[go_sem,mh.t1],by simp[go_sem,mh.t5],by simp[go_sem,mh.t7],by simp[go_sem,mh.t8]⟩,g_,by rw[hft];simpa[go_sem,<-e14]using go⟩
  have:k=u.length:=o_;subst this;rw[ah]at go;have⟨x,hx⟩:=go.isl;simp[go_sem,mh.t1,g15,<-e14,hx];have hfe:(u.filter λt=>@decide (DrS s t) (Classical.propDecidable _))=u.filter (knT u kn0):=by
   refine List.filter_congr λt ht=>?_
   rw[fO];simp only[decide_eq_true_eq];exact(hend t ht).symm
  rw[hfe]at hR;exact hR _ _ _ (.inr rfl) ⟨.isl ((u.filter (knT u kn0)).map enc) x,by simp[aY,cC,f112,go_sem],aK rfl rfl⟩
 |true=>
  simp[go_sem,g10];refine bL (V6 s u kid kn0) u.length ⟨0,false,kn0,rfl,aN _,⟨mh.map,mh.row,mh.marks,by simp[go_sem,mh.t0],by simp[go_sem,mh.t1],by simp[go_sem,mh.t5],by simp[go_sem,mh.t7],by simp[go_sem,mh.t8]⟩,g_,g_,hks,s_,s_⟩ ?_;clear hks mh g10 hcl;rintro m2 st2 h2 ⟨k,c,kn,rfl,hk,mh,g10,g11,hks,hcF,hcT⟩;by_cases hlt:k<u.length
  ·have hlt':(k:Int)<u.length:=o_;have hix:=kX u k hlt;have hmem:=aF hlt;have w2:=wS k o_;have hx:=uR (id:=kid) (cap:=some u.length) hlt;have hlb:=CE (kn:=kn) (k:=k) (by rw[mh.marks.len];exact hlt);have hkk:kn[k]'(by rw[mh.marks.len];exact hlt)=knT u kn u[k]:=by rw[<-Em mh.marks.len hmem];congr 1;exact(ixk k hlt).symm
   rw[hkk]at hlb;have cpub:=Ry u[k] (Gx (gF (hou.2 _ hmem).1));have cbu:=Lm (cap:=some u.length) u kn u[k] mh.row mh.marks.len o_ (hkid _ hmem) (hou.2 _ hmem).2;have hxp:=W0 u u k hlt;have hkl:k<kn.length:=by rw[mh.marks.len];exact hlt
   have hsb:=IY (kn:=kn) (k:=k) true h2 kid hkl;have hkidl:=(aB.1 mh.row).1;have hle:mq kn<=mq kn0:=by
    cases c with
    |false=>rw[(hcF rfl).1];exact aR _
    |true=>exact jw (hcT rfl)
   simp +contextual [go_sem,mh.t1,mh.t7,mh.t8,g11,hlt',hx,G mh.row,hlb,hix,cpub,KG,hxp,cbu];refine Ife_iff.2 ⟨λhc=>?A,λhc=>?B⟩
   case' A=>
    obtain⟨kn1,ek⟩:∃q,q=kn.set k true:=⟨_,rfl⟩
    obtain⟨c1,ec⟩:∃q,q=true:=⟨_,rfl⟩
    obtain⟨ps,ep⟩:∃q,q=jD u kn1 u[k]:=⟨_,rfl⟩
    have hpl:ps.length<4000000:=by rw[ep];have:=By u kn1 u[k];have:=size_kids u[k];have:=len_sizes u[k].kids;have:=(hou.2 _ hmem).2;omega
    have hd:DrS s u[k]:=by
     rcases hc.2 with h|h
     ·exact .pub h
     exact O9 mh.marks h
    have mk1:Marks u s kn1:=by have:=mh.marks.set hmem hd;rw[ixk k hlt]at this;rw[ek];exact this
    have hkt:knT u kn1 u[k]=true:=by have:=wN mh.marks.len hmem hmem;rw[ixk k hlt]at this;rw[ek,this];simp
    have hks1:∀t∈s,knT u kn1 t=true:=λt ht=>by have:=wN mh.marks.len hmem (hs t ht);rw[ixk k hlt]at this;rw[ek,this,hks t ht];simp
    have hT:c1=true->mq kn1<mq kn0:=λ_=>by
     have:kn[k]?=some false:=by rw[aC hkl,hkk,hc.1]
     have:=Ak this;rw[ek];omega
    have hle1:mq kn1<=mq kn0:=by exact jw (hT ec)
    have hfin:c1=false->(∀v∈ps,knT u kn1 v=true)->kn1=kn0/\∀t∈u.take (k+1),xT u kn1 t:=λh=>by rw[ec]at h;cases h
    rw[<-ek]at hsb;have row1:(pt h2 kid (.cells (dP kn1) .live))[kid]?=some (.cells (dP kn1) .live):=by rw[pt];exact aH hkidl
    have map1:(pt h2 kid (.cells (dP kn1) .live))[1]?=some (.map (oZ (ixM u u.length))):=by rw[pt,aE (hkn1 mh.map mh.row).symm];exact mh.map
    have hps:∀v∈ps,v∈u/\DrS s v:=λv hv=>by rw[ep]at hv;exact⟨hkid _ hmem v (Bx hv),Bz mk1 hmem hkt hv⟩
    have hlb1:=CE (kn:=kn1) (k:=k) (by rw[mk1.len];exact hlt);have hkk1:kn1[k]'(by rw[mk1.len];exact hlt)=true:=by rw[<-hkt,<-Em mk1.len hmem];congr 1;exact(ixk k hlt).symm
    rw[hkk1]at hlb1;generalize eh3:pt h2 kid (.cells (dP kn1) .live)=h3 at *;have⟨x,g,cop⟩:=EV (cap:=some u.length) (h0:=h3++[.tok 0 3]) u ho kn1 u[k] hmem (ga row1) mk1.len;rw[<-ep]at cop;have map2:=ga (g:=g) (ga (g:=[.tok 0 3]) map1);have row2:=ga (g:=g) (ga (g:=[.tok 0 3]) row1);have h10:(AV.bool true)=.bool c1:=by rw[ec]
    simp +contextual [go_sem,mh.t1,mh.t7,mh.t8,g11,hx,G mh.row,hsb,G (ga row1),hlb1,hix,hxp,KG,cop];have hp0:True:=trivial;refine bL (IK s u kid k kn0 kn1 c1 ps) ps.length ⟨0,c1,kn1,x,rfl,aN _,⟨by simpa using map2,by simpa using row2,mk1,by simp[go_sem,mh.t0],by simp[go_sem,mh.t1],by simp[go_sem,mh.t5],by simp[go_sem,mh.t7],by simp[go_sem,mh.t8]⟩,by simp[go_sem,ec],g_,by simp[go_sem],g_,hks1,λh=>⟨h,rfl,s_⟩,hT⟩ ?_
   case' B=>by_cases hkc:knT u kn u[k]=true
   case' pos=>
    obtain⟨kn1,ek⟩:∃q,q=kn:=⟨_,rfl⟩
    obtain⟨c1,ec⟩:∃q,q=c:=⟨_,rfl⟩
    obtain⟨ps,ep⟩:∃q,q=jD u kn1 u[k]:=⟨_,rfl⟩
    have hpl:ps.length<4000000:=by rw[ep];have:=By u kn1 u[k];have:=size_kids u[k];have:=len_sizes u[k].kids;have:=(hou.2 _ hmem).2;omega
    have mk1:Marks u s kn1:=by rw[ek];exact mh.marks
    have hks1:∀t∈s,knT u kn1 t=true:=by rw[ek];exact hks
    have hT:c1=true->mq kn1<mq kn0:=by rw[ec,ek];exact hcT
    have hle1:mq kn1<=mq kn0:=by rw[ek];exact hle
    have hfin:c1=false->(∀v∈ps,knT u kn1 v=true)->kn1=kn0/\∀t∈u.take (k+1),xT u kn1 t:=λh hv=>by
     rw[ec]at h;have⟨e1,e2⟩:=hcF h;refine⟨by rw[ek,e1],λt ht=>?_⟩;rw[aJ hlt,ac,bJ]at ht;rcases ht with ht|rfl
     ·rw[ek];exact e2 t ht
     refine⟨λq=>?_,λ_ v hm=>hv v (by rw[ep];exact hm)⟩;rw[ek,hkc]at q;cases q
    have hps:∀v∈ps,v∈u/\DrS s v:=λv hv=>by rw[ep]at hv;exact⟨hkid _ hmem v (Bx hv),Bz mk1 hmem (by rw[ek];exact hkc) hv⟩
    rw[hkc]at hlb
    obtain⟨x,g,cop⟩:=EV (cap:=some u.length) (h0:=h2++[.tok 0 3]) u ho kn1 u[k] hmem (by rw[ek];exact ga mh.row) mk1.len
    rw[<-ep]at cop
    have map2:=ga (g:=g) (ga (g:=[.tok 0 3]) mh.map)
    have row2:=ga (g:=g) (ga (g:=[.tok 0 3]) mh.row)
    rw[<-ek]at row2
    simp +contextual [go_sem,mh.t1,mh.t7,mh.t8,g11,hx,G (ga mh.row),hlb,hix,hxp,KG,cop]
    have hp0:True:=trivial
    refine bL (IK s u kid k kn0 kn1 c1 ps) ps.length ⟨0,c1,kn1,x,rfl,aN _,⟨by simpa using map2,by simpa using row2,mk1,by simp[go_sem,mh.t0],by simp[go_sem,mh.t1],by simp[go_sem,mh.t5],by simp[go_sem,mh.t7],by simp[go_sem,mh.t8]⟩,by simp[go_sem,g10,ec],by simp[go_sem,g11],by simp[go_sem],by simp[go_sem],hks1,λh=>⟨h,rfl,by simp⟩,hT⟩ ?_
   case' neg=>
    obtain⟨kn1,ek⟩:∃q,q=kn:=⟨_,rfl⟩
    obtain⟨c1,ec⟩:∃q,q=c:=⟨_,rfl⟩
    obtain⟨ps,ep⟩:∃q:Lq,q=[]:=⟨_,rfl⟩
    have hpl:ps.length<4000000:=by rw[ep];simp
    obtain⟨x,ex⟩:∃q,q=Ext.tok h2.length:=⟨_,rfl⟩
    have hkc:knT u kn u[k]=false:=by simpa using hkc
    have mk1:Marks u s kn1:=by rw[ek];exact mh.marks
    have hks1:∀t∈s,knT u kn1 t=true:=by rw[ek];exact hks
    have hT:c1=true->mq kn1<mq kn0:=by rw[ec,ek];exact hcT
    have hle1:mq kn1<=mq kn0:=by rw[ek];exact hle
    have hfin:c1=false->(∀v∈ps,knT u kn1 v=true)->kn1=kn0/\∀t∈u.take (k+1),xT u kn1 t:=λh hv=>by
     rw[ec]at h;have⟨e1,e2⟩:=hcF h;refine⟨by rw[ek,e1],λt ht=>?_⟩;rw[aJ hlt,ac,bJ]at ht;rcases ht with ht|rfl
     ·rw[ek];exact e2 t ht
     rw[ek];simp only[hkc,true_and,not_or,Bool.not_eq_true]at hc;refine⟨λ_=>hc,λq=>?_⟩;rw[hkc]at q;cases q
    have hps:∀v∈ps,v∈u/\DrS s v:=λv hv=>by rw[ep]at hv;simp at hv
    rw[hkc]at hlb;have map2:=ga (g:=[.tok 0 3]) mh.map;have row2:=ga (g:=[.tok 0 3]) mh.row;rw[<-ek]at row2;simp +contextual [go_sem,mh.t8,g11,hx,G (ga mh.row),hlb];have hp0:AV.isl [] (Ext.tok h2.length)=.isl (bP (eD u ps)) x:=by rw[ep,ex];rfl
    refine bL (IK s u kid k kn0 kn1 c1 ps) ps.length ⟨0,c1,kn1,x,rfl,aN _,⟨by simpa using map2,by simpa using row2,mk1,by simp[go_sem,mh.t0],by simp[go_sem,mh.t1],by simp[go_sem,mh.t5],by simp[go_sem,mh.t7],by simp[go_sem,mh.t8]⟩,by simp[go_sem,g10,ec],g_,by simp[go_sem,hp0],g_,hks1,λh=>⟨h,rfl,s_⟩,hT⟩ ?_
   all_goals
    clear hp0;rintro m3 st3 h4 ⟨j,c2,kn2,x2,rfl,hj,mh2,r10,r11,r12,r13,hks2,hF2,hT2⟩;have hli:=Ek (eD u ps) x2;have hll:(eD u ps).length=ps.length:=by simp[eD]
    rw[hll]at hli;by_cases hj1:j<ps.length
    ·have hj1':(j:Int)<ps.length:=o_;have hixp:=Ey (eD u ps) x2 j o_;have hki:(eD u ps)[j]' o_=(ixU u ps[j]:Int):=by simp[eD]
     rw[hki]at hixp;have⟨hvu,hvd⟩:=hps _ (aF hj1);have hil:=tQ hvu;have hx2:=uR (id:=kid) (cap:=some u.length) hil;have hlb2:=CE (kn:=kn2) (k:=ixU u ps[j]) (by rw[mh2.marks.len];exact hil);rw[Em mh2.marks.len hvu]at hlb2;have w3:=wS j o_;cases hq:knT u kn2 ps[j]with
     |true=>
      rw[hq]at hlb2;simp[go_sem,mh2.t8,r12,r13,hli,hj1',hixp,hx2,G mh2.row,hlb2,-Int.natCast_add,w3];exact⟨ps.length-(j+1),o_,j+1,c2,kn2,x2,rfl,hj1,⟨mh2.map,mh2.row,mh2.marks,by simp[go_sem,mh2.t0],by simp[go_sem,mh2.t1],by simp[go_sem,mh2.t5],by simp[go_sem,mh2.t7],by simp[go_sem,mh2.t8]⟩,by simp[go_sem,r10],by simp[go_sem,r11],by simp[go_sem,r12],g_,hks2,λh=>by
       have⟨q1,q2,q3⟩:=hF2 h;refine⟨q1,q2,λt ht=>?_⟩;rw[aJ hj1,ac,bJ]at ht;rcases ht with ht|rfl
       ·exact q3 t ht
       exact hq,hT2⟩
     |false=>
      rw[hq]at hlb2;have hsb2:=IY (kn:=kn2) (k:=ixU u ps[j]) true h4 kid (by rw[mh2.marks.len];exact hil);have hle2:mq kn2<=mq kn0:=by
       cases e:c2 with
       |false=>
        have⟨q1,q2,_⟩:=hF2 e;rw[q2];cases e1:c1 with
        |true=>rw[q1]at e1;cases e1
        |false=>exact hle1
       |true=>exact jw (hT2 e)
      simp[go_sem,mh2.t8,r12,r13,hli,hj1',hixp,hx2,G mh2.row,hlb2,hsb2,-Int.natCast_add,w3];refine⟨ps.length-(j+1),o_,j+1,true,kn2.set (ixU u ps[j]) true,x2,rfl,hj1,⟨?_,?_,mh2.marks.set hvu hvd,by simp[go_sem,mh2.t0],by simp[go_sem,mh2.t1],by simp[go_sem,mh2.t5],by simp[go_sem,mh2.t7],by simp[go_sem,mh2.t8]⟩,g_,by simp[go_sem,r11],by simp[go_sem,r12],g_,λt ht=>?_,λh=>(by cases h),λ_=>?_⟩
      ·rw[pt,aE (hkn1 mh2.map mh2.row).symm];exact mh2.map
      ·rw[pt];exact aH (aB.1 mh2.row).1
      ·rw[wN mh2.marks.len hvu (hs t ht),hks2 t ht];simp
      have:=Ak (kn:=kn2) (i:=ixU u ps[j]) (by rw[DF mh2.marks.len hvu,hq]);omega
    have:j=ps.length:=o_;subst this;simp[go_sem,r11,r12,r13,hli,-Int.natCast_add,w2];refine⟨u.length-(k+1),o_,k+1,c2,kn2,rfl,hlt,⟨mh2.map,mh2.row,mh2.marks,by simp[go_sem,mh2.t0],by simp[go_sem,mh2.t1],by simp[go_sem,mh2.t5],by simp[go_sem,mh2.t7],by simp[go_sem,mh2.t8]⟩,by simp[go_sem,r10],g_,hks2,λh=>?_,hT2⟩;have⟨q1,q2,q3⟩:=hF2 h;rw[ah]at q3;rw[q2]at q3 ⊢;exact hfin q1 q3
  have:k=u.length:=o_;subst this;simp[go_sem,mh.t1,g11];rw[ah]at hcF;have mh':MkH u s kid kn ((((st2.set 52 (.int .i64 u.length)).set 53 (aM u)).set 54 (.int .i64 u.length)).set 55 (.bool false)) h2:=⟨mh.map,mh.row,mh.marks,by simp[go_sem,mh.t0],by simp[go_sem,mh.t1],by simp[go_sem,mh.t5],by simp[go_sem,mh.t7],by simp[go_sem,mh.t8]⟩
  cases c with
  |false=>obtain⟨rfl,hlk⟩:=hcF rfl;exact⟨2*mq kn,o_,false,kn,rfl,mh',g_,hks,λ_=>hlk⟩
  |true=>have:=hcT rfl;exact⟨2*mq kn+1,o_,true,kn,rfl,mh',g_,hks,s_⟩
def ZB(s u:Lq) (m:Nat) (st:PT) (_h:H):Prop:=∃k:Nat,m=u.length-k/\k<=u.length/\st.get 0=aM s/\st.get 1=aM u/\st.get 5=.bool true/\st.get 6=.int .i64 k
noncomputable def drB(s:Lq) (t:T):Bool:=@decide (DrS s t) (Classical.propDecidable _)
theorem LR(s u:Lq) (ho:KS u) (hu0:0<u.length) (hu:u.length<=100000) (hs:∀t∈s,t∈u) (hsl:s.length<4000000) (hn:∀t∈u,nf gZ t):az C 74 [aM s,aM u]=some (aM (u.filter (drB s))):=by
 refine ay func74 rfl λR i=>?_
 simp[go_sem];refine bL (ZB s u) u.length ⟨0,rfl,aN _,g_,g_,g_,g_⟩ ?_;rintro m o h ⟨k,rfl,p,d,e,f,g⟩;by_cases a:k<u.length
 ·have b:(k:Int)<u.length:=o_;have c:=kX u k a;have j:=wS k o_;have l:=BS u[k] (hn _ (aF a));simp +contextual [go_sem,e,f,g,b,c,l,-Int.natCast_add,j];exact⟨u.length-(k+1),o_,k+1,rfl,a,g_,g_,g_,g_⟩
 have:k=u.length:=o_;subst this;have n:∀h,ak C h (.func 112 []) (some [aM s,aM u])=some (aM (u.filter (drB s)),h):=λh=>aX rfl rfl s_ (RG s u ho hu0 hu hs hsl)
 simp[go_sem,d,e,f,g,n];exact i ⟨aM (u.filter (drB s)),by simp[aY,cC,f74,go_sem],aK rfl rfl⟩
theorem Gv{y:T}:∀t:T,bh t=0->gK t=0->y∈cZ bY t->gK y=0:=by
 refine T.ind λt e c h b=>?_
 rcases mem_walk.1 b with rfl|⟨k,a,b⟩
 ·exact h
 by_cases f:t.kind=3
 ·exact e k a (uA c a) (tD (kU h f).2.2 k a) b
 exfalso;have d:=gF (cz c).1;have:=(ql d).1;rw[qm d o_]at a;simp at a
theorem GK{t y:T}(h:dy t=0) (hy:y∈cZ bY t):dy y=0:=by have⟨a,b⟩:=je h;exact thn_zero.2 ⟨Bb t a hy,Gv t a b hy⟩
theorem KP{a:Lq}(hr:fh a=0) (hl:(gX a).length<=200):KS (gX a):=by
 have f:∀y∈gX a,dy y=0:=λy b=>by have⟨x,c,b⟩:=mem_subsT.1 b;exact GK (uo hr x c).1 b
 refine⟨⟨?_,λt d=>?_⟩,o_,λt d k g=>?_,f⟩
 ·have:=yD (a.flatMap (cZ bY));refine this.imp λh e=>?_
  rw[e]at h;unfold TL.lt at h;rw[cmp_refl]at h;omega
 ·have:=(je (f t d)).1;exact⟨(cz this).1,by have:=(cz this).2.1;omega⟩
 have⟨x,c,b⟩:=mem_subsT.1 d;exact mem_subsT.2 ⟨x,c,GJ x (vo g) b⟩
theorem Rm{k:Lq}{t:T}:DrS (mo k) t↔DrS k t:=
 ⟨λh=>vY (λ_x a=>.ax (mem_setS.1 a)) h,λh=>vY (λ_x a=>.ax (mem_setS.2 a)) h⟩
theorem FB(k:Lq) (t:T) (hs:sizes (k++[t])<4000000) (hn:∀x∈k++[t],nf gZ x):az C 37 [aM k,enc t]=some (.tuple [.bool (yx k t).1,.int .i64 (yx k t).2]):=by
 refine ay func37 rfl λR j=>?_
 have c:∀h,ak C h (.func 72 []) (some [aM k,enc t])=_:=Df k .unk t hs hn;by_cases q:yw k t=0
 ·have d:k.length<=60/\za (k++[t])=0:=by
   rw[JC]at q;split at q
   ·cases q
   exact⟨o_,q⟩
  have l:fh (k++[t])=0/\(gX (k++[t])).length<=200:=by
   have h:=d.2;unfold za at h;split at h
   ·rename_i e;exact absurd h e
   rename_i e;split at h
   ·cases h
   exact⟨by simpa using e,o_⟩
  have m:=KP l.1 l.2;have f:t∈gX (k++[t]):=mem_subsT.2 ⟨t,s_,fT t⟩;have b:∀y∈k++[t],y.size<4000000:=λy a=>by have:=mG a;omega
  have n:=zR k .unk (λy a=>b y (by simp[a])) o_;have o:=nq k;have c3:∀h,ak C h (.func 74 []) (some [aM (mo k),aM (gX (k++[t]))])=some (aM ((gX (k++[t])).filter (drB (mo k))),h):=λh=>aX rfl rfl s_ (LR (mo k) _ m (List.length_pos_of_mem f) o_ (λy a=>mem_subsT.2 ⟨y,by simp[mem_setS.1 a],fT y⟩) o_ (λy a=>by have⟨x,p,a⟩:=mem_subsT.1 a;exact Gw x (hn x p) a))
  have r:=dA (drB (mo k)) (gX (k++[t]));have i:=Lg ((gX (k++[t])).filter (drB (mo k))) .unk t (λy a=>(m.1.2 y (cO.1 a).1).2) o_ (b t s_);have g:kr ((gX (k++[t])).filter (drB (mo k))) t=drB k t:=by rw[fO,memE_iff,cO];simp only[drB,decide_eq_true_eq,f,true_and];exact Rm
  rw[g]at i;have e:yx k t=(drB k t,0):=by unfold yx;rw[if_neg (by simp[q])];rfl
  rw[if_pos q,q]at c;simp only[aM]at c n c3 i;generalize gX (k++[t])=u at *;simp[go_sem,aM,c,n,c3,i];refine j ⟨.tuple [.bool (drB k t),.int .i64 0],by simp[aY,dx,cC,f37,go_sem],?_⟩;rw[e];exact dF rfl rfl s_
 rw[if_neg q]at c;have e:yx k t=(false,yw k t):=by unfold yx;rw[if_pos q]
 simp only[aM]at c;simp[go_sem,aM,c,q];refine j ⟨.tuple [.bool false,.int .i64 (yw k t)],by simp[aY,dx,cC,f37,go_sem],?_⟩;rw[e];exact dF rfl rfl s_
theorem R2(k:Lq) (x:Ext) (t:T) (hs:sizes (k++[t])<4000000) (hn:∀x∈k++[t],nf gZ x) (h:H):ak C h (.func 37 []) (some [.isl (k.map enc) x,enc t])=some (.tuple [.bool (yx k t).1,.int .i64 (yx k t).2],h):=
 aX (args':=[aM k,enc t]) (by rw[bE];rfl) (by rw[bE];rfl) s_ (FB k t hs hn)
end Go.VZ
namespace Go.V
open Go
theorem vi{P:Program}{t e:TypeId}{sz by_:Nat}(hu:P.underlying t=some (.slice e)) (hs:cr P e=some sz) (hb:hG P e=some by_) (hz:gH P e=true) (h0:(sz==0)=false)
  {h:H}{id:Nat}{xs ys:LA}{x:Ext}(hid:h[id]?=some (.tok xs.length e)) (hx:gn sz xs=true) (hy:gn sz ys=true) (hl:(xs.length+ys.length)*(by_+1)<=35184372088832) :
  bu P false h t (.isl xs (.tok id)) (.isl ys x)=some (.isl (xs++ys) (.tok id),h.set id (.tok (xs.length+ys.length) e)):=by
 have b:(!gH P e||sz==0 || !gn sz ys)=false:=by simp[hz,h0,hy]
 have a:(!decide ((xs.length+ys.length)*(by_+1)<=35184372088832))=false:=by simp[hl]
 have e:bu P false h t (.isl xs (.tok id)) (.isl ys x)=eV P h t (.isl xs (.tok id)) (.isl ys x):=iE _ _ _ _ _;rw[e];simp only[eV,hu,hs,hb,lp,b,hx,a,du,aw,if_false,hid,and_self,if_true]
end Go.V
namespace Go.VZ
open Go Go.V Go.Proofs Tryz TL
theorem pI{es:LA}{t n k:Nat}(h:t<n):(AV.isl es (.tok t)).mv n k=.isl es (.tok t):=by simp only[AV.mv];rw[if_neg o_]
theorem PM{h:H}{id:Nat}{xs ys:Lq}{x:Ext}(hid:h[id]?=some (.tok xs.length 39)) (hl:xs.length+ys.length<=100000000000) :
  bu C.P false h 37 (.isl (xs.map enc) (.tok id)) (.isl (ys.map enc) x)=some (.isl ((xs++ys).map enc) (.tok id),h.set id (.tok (xs++ys).length 39)):=by
 have:=vi (x:=x) (xs:=xs.map enc) (ys:=ys.map enc) u23 s25 b25 z25 rfl (by simpa using hid) (sh xs) (sh ys) (by simp only[aU];omega);rw[this,br];simp
def S2(l:List Dm) (m:Nat) (st:PT) (h:H):Prop:=∃(k id:Nat),m=l.length-k/\k<=l.length/\st.get 0=bB l/\st.get 4=.int .i64 k/\st.get 3=.isl ((bp (l.take k)).map enc) (.tok id)/\h[id]?=some (.tok (bp (l.take k)).length 39)
theorem ED{l:List Dm}{k:Nat}(hk:k<l.length):bp (l.take (k+1))=(bp (l.take k)++l[k].knows)++[l[k].term]:=by rw[aJ hk,bp,eP];simp[bp]
theorem GQ(l:List Dm):(bp l).length<=(l.map λd=>d.knows.length+1).sum:=by
 induction l with
 |nil=>simp[bp]
 |cons d l a=>simp only[bp,cF,aL,aS,iF,aG,aQ]at a ⊢;omega
theorem Kj{l:List Dm}(hs:∀d∈l,d.knows.length<=1000):(l.map λd=>d.knows.length+1).sum<=1001*l.length:=by
 induction l with
 |nil=>simp
 |cons d l a=>
  have c:=hs d s_;have e:=a λx b=>hs x (by simp[b])
  simp only[aS,iF,aG];omega
theorem P9(l:List Dm) (hs:∀d∈l,d.knows.length<=1000) (hl:l.length<=10000):az C 16 [bB l]=some (aM (bp l)):=by
 refine ay func16 rfl λR K=>?_
 have p:=pJ l;simp[go_sem];refine bL (S2 l) l.length ⟨0,1,rfl,aN _,g_,g_,by simp[go_sem,bp],by simp[bp]⟩ ?_;rintro m F h ⟨k,id,rfl,hk,v,q,o,r⟩;by_cases f:k<l.length
 ·have s:(k:Int)<l.length:=o_;have t:=qS l k f;have L:=wS k o_;have y:=ED f;have M:=GQ (l.take k);have z:=Kj (l:=l.take k) λd N=>hs d (bW N)
  have O:=hs _ (aF f);rw[ag]at z;have G:=(aB.1 r).1;simp[go_sem,v,q,p,s];refine ue 5 _ (by rw[gM];decide) k_ ?_;show MX C 16 _ h.length _ 0 _ _ _ _;generalize u:h++List.replicate _ VObj.void=H0;have e:Pl h H0 15:=u▸Pl.mk' _ 15;have I:=e.len;clear u;have Q:=e.get r;refine bc (F.get 3) rfl rfl (e.isV (i:=0) d_) (by simp[opN,go_sem]) (by rw[o];exact pI o_) ?_;refine bc (bB l) rfl rfl (e.isV (i:=1) d_) (by simp[opN,go_sem,v]) rfl ?_;refine bc (.int .i64 k) rfl rfl (e.isV (i:=2) d_) (by simp[opN,go_sem,q]) rfl ?_;refine bc (.iptr (dG l[k]) 0) rfl rfl (e.isV (i:=3) d_) (by simp[opN,go_sem,t]) rfl ?_;refine bc (.iptr (dG l[k]) 0) rfl rfl (e.isV (i:=4) d_) (by simp[opN,go_sem]) rfl ?_;refine eF (.iptr (dG l[k]) 0) (aM l[k].knows) g_ (qr _ _) rfl (e.isV (i:=5) d_) rfl ?_;have S:=PM (ys:=l[k].knows) (x:=.unk) Q o_;obtain⟨j,a⟩:∃g,g=H0.set id (VObj.mv H0.length (h.length+6) (.tok (bp (l.take k)++l[k].knows).length 39)):=⟨_,rfl⟩
  refine nS (F.get 3) (aM l[k].knows) _ _ j g_ g_ (by rw[o];exact S) s_ (by rw[o];simp[ce,iV,aM];omega) (e.isV (i:=6) d_) (by rw[a,o];exact uV o_) ?_;rw[pI o_];have U:j[id]?=some (.tok (bp (l.take k)++l[k].knows).length 39):=by rw[a];exact aH o_
  have n:∀i,i<15->dZ j[h.length+i]?=true:=λi B=>by rw[a,aE o_];exact e.isV B
  have V:j.length=H0.length:=by rw[a];simp
  clear a;refine bc (bB l) rfl rfl (n 7 d_) (by simp[opN,go_sem,v]) rfl ?_;refine bc (.int .i64 k) rfl rfl (n 8 d_) (by simp[opN,go_sem,q]) rfl ?_;refine bc (.iptr (dG l[k]) 0) rfl rfl (n 9 d_) (by simp[opN,go_sem,t]) rfl ?_;refine bc (.iptr (dG l[k]) 1) rfl rfl (n 10 d_) (by simp[opN,go_sem]) rfl ?_;refine eF (.iptr (dG l[k]) 1) (enc l[k].term) g_ (yN _ _) rfl (n 11 d_) (fR _ _ _) ?_;refine pV (parts:=[(0,.tmp 22)]) [(0,enc l[k].term)] (.isl [enc l[k].term] .full) (xL g_ (fi _)) (by rw[bE];rfl) (dp _ _) (n 12 d_) ?_;have D:=PM (ys:=[l[k].term]) (x:=.full) U (by simp only[aL,aG,aQ];omega);rw[<-y]at D;simp only[aS,bD]at D;generalize eA:(bp (l.take k)++l[k].knows)=A at *;rw[show(AV.isl [enc l[k].term] .full).mv j.length (h.length+12)=.isl [enc l[k].term] .full from rfl];obtain⟨w,c⟩:∃g,g=j.set id (VObj.mv j.length (h.length+13) (.tok (bp (l.take (k+1))).length 39)):=⟨_,rfl⟩
  refine nS (.isl (A.map enc) (.tok id)) (.isl [enc l[k].term] .full) _ _ w g_ g_ D s_ (by simp[ce,iV];omega) (n 13 d_) (by rw[c];exact uV o_) ?_;rw[pI o_];have X:w[id]?=some (.tok (bp (l.take (k+1))).length 39):=by rw[c];exact aH o_
  have Y:∀i,i<15->dZ w[h.length+i]?=true:=λi B=>by rw[c,aE o_];exact n i B
  have Z:w.length=j.length:=by rw[c];simp
  clear c;refine bc (.isl ((bp (l.take (k+1))).map enc) (.tok id)) rfl rfl (Y 14 d_) (by simp[opN,go_sem]) (pI o_) ?_;refine⟨?_,?_⟩
  ·unfold ri;generalize J:Region.before _=b;have E:(b.getD 13 0).testBit 6=true:=by rw[<-J];kernel_rfl
   clear J;rw[o];simp[nH,rW,ce,iV,aM,List.range,List.range.loop];refine⟨?_,?_⟩
   ·exact .inl ⟨o_,o_⟩
   exact⟨by simpa[bA]using E,.inl ⟨o_,o_⟩⟩
  simp[go_sem,q,-Int.natCast_add,L];exact⟨l.length-(k+1),o_,k+1,id,rfl,f,g_,g_,g_,X⟩
 have:k=l.length:=o_;subst this;rw[ah]at o;simp[go_sem,v,o,q,p];exact K ⟨.isl ((bp l).map enc) (.tok id),by simp[aY,cC,f16,go_sem],aK rfl rfl⟩
theorem xl(l:List Dm) (x:Ext) (hs:∀d∈l,d.knows.length<=1000) (hl:l.length<=10000) (h:H):ak C h (.func 16 []) (some [.isl (l.map dG) x])=some (aM (bp l),h):=aX (args':=[bB l]) rfl rfl s_ (P9 l hs hl)
def BP(n:Nat):ByteArray:=bs (pO n)
theorem FD:∀(n:Nat),(pO n).length<=n+1:=by
 intro n;induction n using Nat.strongRecOn with
 |ind n a=>
  rw[oa];split
  ·simp
  have:=a (n/10) o_;simp;omega
theorem XI(n:Nat) (hn:n<100000000) (y z:Operand):iN C.P .quo 3 y z (.int .i64 n) (.int .i64 10)=some (.int .i64 (n/10:Nat)):=by have e:iN C.P .quo 3 y z (.int .i64 (n:Int)) (.int .i64 10)=some (.int .i64 (IntKind.i64.wrap ((n:Int).tdiv 10))):=k_;rw[e,av (by rw[Int.tdiv_eq_ediv_of_nonneg o_];omega)];congr 2
theorem XH(n:Nat) (_hn:n<100000000) (y z:Operand):iN C.P .rem 3 y z (.int .i64 n) (.int .i64 10)=some (.int .i64 (n%10:Nat)):=by have e:iN C.P .rem 3 y z (.int .i64 (n:Int)) (.int .i64 10)=some (.int .i64 ((n:Int).tmod 10)):=k_;rw[e];congr 2
theorem LD:∀(n:Nat),n<100000000->az C 38 [.int .i64 n]=some (.str (BP n)):=by
 intro n;induction n using Nat.strongRecOn with
 |ind n m=>
  intro g;refine ay func38 rfl λR j=>?_
  by_cases b:n<10
  ·have a:(n:Int)<10:=o_;have d:IntKind.i64.wrap (48+(n:Int))=((48+n:Nat):Int):=by rw[av o_];omega
   have e:=cvb (48+n) o_;have f:=OV (48+n);simp[go_sem,a,-Int.natCast_add,d,e,CW,f];refine j ⟨.str (BP n),?_,aK rfl rfl⟩;rw[BP,oa,if_pos b];simp[aY,cC,f38,go_sem]
  have a:¬(n:Int)<10:=o_;have o:∀h,ak C h (.func 38 []) (some [.int .i64 ((n/10:Nat):Int)])=some (.str (BP (n/10)),h):=λh=>aX rfl rfl s_ (m (n/10) o_ o_)
  have d:IntKind.i64.wrap (48+((n%10:Nat):Int))=((48+n%10:Nat):Int):=by rw[av o_];omega
  have e:=cvb (48+n%10) o_;have f:=OV (48+n%10);have s:=FD (n/10);have l:=λx y=>A9 x y (pO (n/10)) [UInt8.ofNat (48+n%10)] (by simp only[aG,aQ];omega)
  have p:pO n=pO (n/10)++[UInt8.ofNat (48+n%10)]:=by rw[oa,if_neg b]
  rw[<-p]at l;generalize t:[UInt8.ofNat (48+n%10)]=B at *;simp[go_sem,a];refine ue 3 _ (by rw[gM];decide) k_ ?_;show MX C 38 _ 0 _ 0 _ _ _ _;generalize c:([]++List.replicate _ VObj.void:H)=H0;have q:Pl [] H0 11:=c▸Pl.mk' _ 11;clear c;have v:∀i,i<11->dZ H0[0+i]?=true:=λi r=>q.isV r
  have u:∀(k:Int) i,(AV.int .i64 k).mv H0.length (0+i)=.int .i64 k:=λ_ _=>rfl
  refine bc (.int .i64 n) rfl rfl (v 0 d_) (by simp[opN,go_sem]) rfl ?_;refine bc (.int .i64 (n/10:Nat)) rfl rfl (v 1 d_) (by simp only[opN];simp[go_sem];exact XI n g _ _) rfl ?_;refine GF (args:=[.tmp 11]) [.int .i64 (n/10:Nat)] (.str (BP (n/10))) k_ (.inl rfl) g_ rfl (o _) (v 2 d_) ?_;refine bc (.int .i64 n) rfl rfl (v 3 d_) (by simp[opN,go_sem]) rfl ?_;refine bc (.int .i64 (n%10:Nat)) rfl rfl (v 4 d_) (by simp only[opN];simp[go_sem];exact XH n g _ _) rfl ?_;refine bc (.int .i64 (48+n%10:Nat)) rfl rfl (v 5 d_) (by simp only[opN];simp[go_sem,-Int.natCast_add,-Int.natCast_emod];exact d) rfl ?_;refine bc (.int .u8 (48+n%10:Nat)) rfl rfl (v 6 d_) (by simp only[opN];simp[go_sem,-Int.natCast_add,-Int.natCast_emod];exact e) rfl ?_;refine pV (parts:=[(0,.tmp 16)]) [(0,.int .u8 (48+n%10:Nat))] (.isl [.int .u8 (48+n%10:Nat)] .full) (xL g_ rfl) rfl (CW _ _) (v 7 d_) ?_;refine bc (.str (bs B)) rfl rfl (v 8 d_) (by simp only[opN];simp[go_sem,AV.mv,-Int.natCast_add,-Int.natCast_emod];exact f) rfl ?_;refine bc (.str (BP n)) rfl rfl (v 9 d_) (by simp only[opN];simp[go_sem,AV.mv];exact l _ _) rfl ?_;refine bc (.str (BP n)) rfl rfl (v 10 d_) (by simp[opN,go_sem]) rfl ?_;refine⟨k_,?_⟩;simp[go_sem];exact j ⟨.str (BP n),by simp[aY,cC,f38,go_sem],aK rfl rfl⟩
theorem H7(n:Nat) (hn:n<100000000) (h:H):ak C h (.func 38 []) (some [.int .i64 n])=some (.str (BP n),h):=aX rfl rfl s_ (LD n hn)
end Go.VZ
namespace Go.VZ
open Go Go.V Go.Proofs Tryz TL
attribute [go_sem] pE
theorem SY(n:ByteArray) (s:Int):fK C.P 39 [(0,.int .i64 2),(1,.str n),(2,.int .i64 s)]=some (.agg [.int .i64 2,.str n,.int .i64 s,.isl [] .full]):=k_
theorem Vl(n:ByteArray) (s:Int):az C 25 [.str n,.int .i64 s]=some (enc (.mk 2 n s [])):=by
 refine ay func25 rfl λR a=>?_
 simp[go_sem,lE,aV,SY];exact a ⟨.agg [.int .i64 2,.str n,.int .i64 s,.isl [] .full],by simp[aY,cC,f25,go_sem],uD _ 2 s n [] .full⟩
theorem O3(n:ByteArray) (s:Int) (h:H):ak C h (.func 25 []) (some [.str n,.int .i64 s])=some (enc (.mk 2 n s []),h):=aX rfl rfl s_ (Vl n s)
theorem PJ(t:T) (hs:t.size<4000000):az C 243 [enc t]=some (aM (gR t)):=by
 refine ay func243 rfl λR a=>?_
 have b:=JM t 2 hs;simp[go_sem,aM,b];exact a ⟨aM (gR t),by simp[aY,cC,f243,go_sem,gR,aM],aK rfl rfl⟩
theorem Fo(t:T) (hs:t.size<4000000) (h:H):ak C h (.func 243 []) (some [enc t])=some (aM (gR t),h):=aX (cg _) (by simp[aq]) s_ (PJ t hs)
theorem P4:C.P.underlying 197=some (.slice 9):=underlying197
theorem Xp:ii C.P 197=some 9:=k_
theorem b9:hG C.P 9=some 16:=k_
theorem z9:gH C.P 9=true:=k_
attribute [go_sem] Xp
def gD(l:List ByteArray):LA:=l.map AV.str
theorem Bg(l:List ByteArray):gn 1 (gD l)=true:=by cases l<;>rfl
theorem Cb{h:H}{v:AV}{xs ys:List ByteArray}{x:Ext}(o:OwnR 9 h v (gD xs)) (hl:xs.length+ys.length<=100000000000) :
  ∃v' h',bu C.P false h 197 v (.isl (gD ys) x)=some (v',h')/\OwnR 9 h' v' (gD (xs++ys))/\Keep h h' (bv v)/\(bv v'=bv v\/bv v=none/\bv v'=some h.length):=by
 have:=jG (x:=x) P4 s9 b9 z9 rfl o (Bg xs) (Bg ys) (by simp only[gD,aU];omega);rwa[show gD xs++gD ys=gD (xs++ys) by simp[gD]]at this
theorem Av(h:H) (n:ByteArray):cI C.P h 197 1 [(0,.str n)]=some (.isl [.str n] .full,h):=cG P4 s9 z9 rfl o_ rfl rfl rfl s_ rfl
theorem NX(l:List ByteArray) (x:Ext):fB C.P 197 (.isl (gD l) x)=some (.int .i64 l.length):=by simp[fB,P4,gD]
theorem Nt(l:List ByteArray) (x:Ext) (k:Nat) (hk:k<l.length):bH C.P 197 (.isl (gD l) x) (.int .i64 k)=some (.iptr (.str l[k]) 0):=by have:(AV.str l[k]).cells.length=1:=rfl;simp[bH,P4,s9,gD,hk,this]
@[go_sem] theorem aCO (n:ByteArray) (h:H):aW C.P h 9 (.iptr (.str n) 0)=some (.str n):=by have:(AV.str n).cells=[.str n]:=rfl;simp[aW,aZ,a9,s9,this]
theorem aBE(s:ByteArray):decide (s.extract 0 3=⟨#[118,35,35]⟩)=decide (s.data.toList.take 3=[118,35,35]):=by
 have:s.extract 0 3=⟨(s.data.toList.take 3).toArray⟩:=by apply ByteArray.ext;simp only[mg];apply Array.toList_inj.1;simp
 rw[this,fO];simp
def vp(t:T) (j:Nat):List ByteArray:=(((gR t).take j).filter λa=>yp a.name).map T.name
theorem GL{ts:Lq}{k:Nat}(hk:k<ts.length):kK (ts.take (k+1))=kK (ts.take k)++vp ts[k] (gR ts[k]).length:=by rw[aJ hk,kK,kK,eP];simp[vp]
theorem GM{t:T}{j:Nat}(hj:j<(gR t).length):vp t (j+1)=vp t j++if yp (gR t)[j].name=true then [(gR t)[j].name]else []:=by
 unfold vp;rw[aJ hj,iP,br];by_cases h:yp (gR t)[j].name=true
 ·simp[h]
 simp[h]
theorem Jj(t:T) (j:Nat):(vp t j).length<=j:=by unfold vp;rw[aU];have:=dA (λa:T=>yp a.name) ((gR t).take j);rw[ag]at this;omega
theorem Ca(t:T):(gR t).length<=t.size:=by have a:=nq ((cZ bY t).filter (isK 2));have b:=dA (isK 2) (cZ bY t);have c:=kE bY jj t;unfold gR;omega
theorem wx:∀ts:Lq,(kK ts).length<=sizes ts
 |[]=>by simp[kK]
 |t::ts=>by have h1:=wx ts;have b:=dA (λa:T=>yp a.name) (gR t);have c:=Ca t;rw[kK,cF,aL,aU,sizes];unfold kK at h1;omega
def Y1(ts:Lq) (c:Int) (m:Nat) (st:PT) (h:H):Prop:=∃k:Nat,m=ts.length-k/\k<=ts.length/\st.get 0=aM ts/\st.get 1=.int .i64 c/\st.get 6=.int .i64 k/\OwnR 9 h (st.get 5) (gD (kK (ts.take k)))
def ZR(ts:Lq) (c:Int) (k:Nat) (t:T) (m:Nat) (st:PT) (h:H):Prop:=∃j:Nat,m=(gR t).length-j/\j<=(gR t).length/\st.get 0=aM ts/\st.get 1=.int .i64 c/\st.get 6=.int .i64 k/\st.get 7=aM (gR t)/\st.get 8=.int .i64 j/\OwnR 9 h (st.get 5) (gD (kK (ts.take k)++vp t j))
def Yz(used:List ByteArray) (x5:Ext) (c F:Nat) (all:List Nat) (m:Nat) (st:PT) (h:H):Prop:=∃(n:Nat) (ns:List Nat),n+m=F/\all=ns++gL used m n (c-ns.length)/\ns.length<=c/\st.get 1=.int .i64 c/\st.get 5=.isl (gD used) x5/\st.get 10=.int .i64 n/\OwnR 9 h (st.get 9) (gD (ns.map λn=>(iU n).name))
def Yy(used:List ByteArray) (x5:Ext) (c n:Nat) (v9:AV) (nm:ByteArray) (h0:H) (m:Nat) (st:PT) (h:H):Prop:=∃j:Nat,m=used.length-j/\j<=used.length/\h=h0/\st.get 1=.int .i64 c/\st.get 5=.isl (gD used) x5/\st.get 9=v9/\st.get 10=.int .i64 n/\st.get 11=.str nm/\st.get 13=.int .i64 j/\st.get 12=.bool (!inN nm (used.take j))
theorem Nq{l:List ByteArray}{j:Nat}(hj:j<l.length) (nm:ByteArray):inN nm (l.take (j+1))=(inN nm (l.take j)||decide (l[j]=nm)):=by rw[aJ hj,inN,List.any_append];simp[inN]
theorem Jk(ts:Lq) (c:Nat) (hs:sizes ts<4000000) (hc:c<4000000):az C 186 [aM ts,.int .i64 c]=some (.isl (gD ((mP ts c).map λn=>(iU n).name)) .unk):=by
 refine hJ rfl func186 rfl k_ (by simp[f186]) λR hR=>?_
 have q8:=len_sizes ts;simp[go_sem];refine bL (Y1 ts c) ts.length ⟨0,rfl,aN _,g_,g_,g_,.inr ⟨1,by simp[go_sem,kK,gD],by simp[kK,gD]⟩⟩ ?_;rintro m st h ⟨k,rfl,hk,g0,Y,g6,i⟩;by_cases r:k<ts.length
 ·have e:(k:Int)<ts.length:=o_;have q':=kX ts k r;have I:=aF r;have q0:ts[k].size<4000000:=by have:=mG I;omega
  have Z:=wS k o_;have ca:=Fo ts[k] q0;have b:=Ca ts[k];have q1:=wx (ts.take k);have q9:=take_sizes_le ts k;simp[go_sem,g0,g6,e,q',ca];refine bL (ZR ts c k ts[k]) (gR ts[k]).length ⟨0,rfl,aN _,g_,g_,g_,g_,g_,by simpa[go_sem,vp]using i⟩ ?_;rintro m2 J h2 ⟨j,rfl,hj,r0,w,r6,z,r8,i⟩;obtain⟨v5,K⟩:∃v,v=J.get 5:=⟨_,rfl⟩
  rw[<-K]at i;by_cases d:j<(gR ts[k]).length
  ·have f:(j:Int)<(gR ts[k]).length:=o_;have g:=kX (gR ts[k]) j d;have L:=wS j o_;have o:=GM d;have z':=Jj ts[k] j;generalize z0:(gR ts[k])[j]=a at *;have A:=nu a.name;by_cases q3:3<a.name.size
   ·have u:(3:Int)<a.name.size:=o_;have M:fP C.P 9 (.str a.name) none (some (.int .i64 3)) none=some (.str (a.name.extract 0 3)):=by have:(3:Int)<=a.name.size:=o_;simp[fP,show C.P.underlying 9=some .string from underlying9,mb,qy,this]
    have hx:=aBE a.name;have p:yp a.name=decide (a.name.extract 0 3=⟨#[118,35,35]⟩):=by rw[hx,yp,decide_eq_true q3];simp
    cases hb:decide (a.name.extract 0 3=⟨#[118,35,35]⟩)with
    |true=>rw[hb]at p;rw[if_pos p]at o;have⟨v',h',N,s,q2,_⟩:=Cb (ys:=[a.name]) (x:=.full) i (by simp only[aL,aG,aQ];omega);rw[List.append_assoc,<-o]at s;simp only[gD,aS,bD]at N;simp[go_sem,z,r8,f,g,A,u,M,eM,hb,<-K,Av,N,-Int.natCast_add,L];exact⟨(gR ts[k]).length-(j+1),o_,j+1,rfl,d,by simp[go_sem,r0],by simp[go_sem,w],by simp[go_sem,r6],by simp[go_sem,z],g_,by simpa[go_sem]using s⟩
    |false=>rw[hb]at p;rw[if_neg (by rw[p];simp),bm]at o;simp[go_sem,z,r8,f,g,A,u,M,eM,hb,-Int.natCast_add,L];exact⟨(gR ts[k]).length-(j+1),o_,j+1,rfl,d,by simp[go_sem,r0],by simp[go_sem,w],by simp[go_sem,r6],by simp[go_sem,z],g_,by rw[o];simpa[go_sem,<-K]using i⟩
   have u:¬(3:Int)<a.name.size:=o_;have p:yp a.name=false:=by rw[yp,decide_eq_false q3];rfl
   rw[if_neg (by rw[p];simp),bm]at o;simp[go_sem,z,r8,f,g,A,u,-Int.natCast_add,L];exact⟨(gR ts[k]).length-(j+1),o_,j+1,rfl,d,by simp[go_sem,r0],by simp[go_sem,w],by simp[go_sem,r6],by simp[go_sem,z],g_,by rw[o];simpa[go_sem,<-K]using i⟩
  have:j=(gR ts[k]).length:=o_;subst this;rw[<-GL r]at i;simp[go_sem,r6,z,r8,-Int.natCast_add,Z];exact⟨ts.length-(k+1),o_,k+1,rfl,r,by simp[go_sem,r0],by simp[go_sem,w],g_,by simpa[go_sem,<-K]using i⟩
 have:k=ts.length:=o_;subst this;rw[ah]at i;have⟨x5,O⟩:=i.isl;have q1:=wx ts;have Q:=pg (c+(kK ts).length+1) (kK ts) 0 c o_;have t:mP ts c=gL (kK ts) (c+(kK ts).length+1) 0 c:=rfl;rw[<-t]at Q;simp[go_sem,g0,g6];refine bL (Yz (kK ts) x5 c (c+(kK ts).length+1) (mP ts c)) (c+(kK ts).length+1) ⟨0,[],o_,by simp[t],s_,g_,by simp[go_sem,O],g_,.inr ⟨h.length,by simp[go_sem,gD],by simp[gD]⟩⟩ ?_;clear O i g0 Y g6 t;generalize mP ts c=all at *;generalize kK ts=used at *;rintro m st h ⟨n,l,z1,b,q4,Y,g5,q5,i⟩;obtain⟨v9,e9⟩:∃v,v=st.get 9:=⟨_,rfl⟩
 rw[<-e9]at i;have⟨x9,S⟩:=i.isl;have A:=NX (l.map λn=>(iU n).name) x9;rw[aU]at A;have B:=congrArg List.length b;rw[aL]at B;by_cases r:l.length<c
 ·have e:(l.length:Int)<c:=o_;obtain⟨c',U⟩:∃c',c-l.length=c'+1:=⟨c-l.length-1,o_⟩
  rw[U]at b B;cases m with
  |zero=>simp[gL]at B;omega
  |succ m=>
   have cd:=H7 n o_;have a1:=λx y=>A9 x y [118,35,35] (pO n) (by have:=FD n;simp only[aG,aQ];omega)
   have e3:(⟨#[118,35,35]⟩:ByteArray)=bs [118,35,35]:=rfl;have q6:bs ([118,35,35]++pO n)=(iU n).name:=rfl;rw[q6]at a1;simp only[BP]at cd;have Z:=wS n o_;simp[go_sem,Y,q5,<-e9,S,A,e,cd,e3,a1];refine bL (Yy used x5 c n v9 (iU n).name h) used.length ⟨0,rfl,aN _,rfl,g_,g_,by simp[go_sem,<-e9],g_,g_,g_,by simp[go_sem,inN]⟩ ?_;generalize V:(iU n).name=nm at *;rintro m2 J h2 ⟨j,rfl,hj,rfl,w,G,r9,D,E,F,q⟩;have lu:=NX used x5;by_cases d:j<used.length
   ·have f:(j:Int)<used.length:=o_;have g:=Nt used x5 j d;have L:=wS j o_;have q7:=Nq d nm;simp +contextual [go_sem,G,E,q,F,lu,f,g,C6,-Int.natCast_add,L];exact⟨used.length-(j+1),o_,j+1,rfl,d,rfl,by simp[go_sem,w],by simp[go_sem,G],by simp[go_sem,r9],by simp[go_sem,D],by simp[go_sem,E],g_,by rw[q7];simp[go_sem]⟩
   have:j=used.length:=o_;subst this;rw[ah]at q;rw[gL,V]at b;cases hq:inN nm used with
   |true=>rw[hq]at q b;rw[if_pos rfl]at b;simp[go_sem,G,D,q,F,lu,-Int.natCast_add,Z];exact⟨m,o_,n+1,l,o_,by rw[U];exact b,q4,by simp[go_sem,w],by simp[go_sem,G],g_,by simpa[go_sem,r9]using i⟩
   |false=>rw[hq]at q b;rw[if_neg s_]at b;have⟨v',h',N,s,q2,_⟩:=Cb (ys:=[nm]) (x:=.full) i (by simp only[aU,aG,aQ];omega);rw[show(l.map λn=>(iU n).name)++[nm]=(l++[n]).map λn=>(iU n).name by simp[V]]at s;simp only[gD,aS,bD]at N;simp[go_sem,G,r9,D,E,q,F,lu,Av,N,-Int.natCast_add,Z];exact⟨m,o_,n+1,l++[n],o_,by rw[aL];simp only[aG,aQ];rw[show c-(l.length+(0+1))=c' by omega,b];simp,by rw[aL];simp;omega,by simp[go_sem,w],by simp[go_sem,G],g_,by simpa[go_sem]using s⟩
 have e:¬(l.length:Int)<c:=o_;have hz:c-l.length=0:=o_;have X:all=l:=by
  rw[hz]at b;cases m with
  |zero=>simpa[gL]using b
  |succ m=>simpa[gL]using b
 simp[go_sem,Y,<-e9,S,A,e];rw[X]at hR;exact hR _ _ _ (.inr rfl) ⟨.isl (gD (l.map λn=>(iU n).name)) x9,by simp[aY,cC,f186,go_sem],aK rfl rfl⟩
def tU(ns:List Nat):List ByteArray:=ns.map λn=>(iU n).name
theorem E1{vars:Lq}{ns:List Nat}(h:ns.length=vars.length):(jT vars ns).length=vars.length:=by rw[jT,List.length_zip,aU];omega
theorem N2{vars:Lq}{ns:List Nat}(h:ns.length=vars.length){k:Nat}(hk:k<vars.length):(jT vars ns)[k]'(by rw[E1 h];exact hk)=(vars[k],iU ns[k]):=by simp[jT]
def Y0(vars:Lq) (ns:List Nat) (t:T) (m:Nat) (st:PT) (h:H):Prop:=∃k:Nat,m=vars.length-k/\k<=vars.length/\st.get 1=aM vars/\st.get 2=.isl (gD (tU ns)) .unk/\st.get 3=.ptr 0 0/\st.get 6=.ptr 1 0/\st.get 7=.int .i64 k/\h=[.cells (enc t).cells .live,.cells zc .live]/\fk ((jT vars ns).drop k) t=fk (jT vars ns) t/\(t.kind=1\/0<=k)
def Y2(vars:Lq) (ns:List Nat) (t:T) (m:Nat) (st:PT) (h:H):Prop:=∃(k:Nat) (v:AV),m=t.kids.length-k/\k<=t.kids.length/\st.get 1=aM vars/\st.get 2=.isl (gD (tU ns)) .unk/\st.get 3=.ptr 0 0/\st.get 6=.ptr 1 0/\st.get 8=.ptr 2 0/\st.get 9=.int .i64 k /\
 h[0]?=some (.cells (enc t).cells .live)/\h[1]?=some (.cells zc .live)/\h[2]?=some (.cells [.int .i64 t.kind,.str t.name,.int .i64 t.sort,v] .live)/\OwnR 39 h v (((t.kids.take k).map (dK (jT vars ns))).map enc)
theorem Tv(t:T) (h:H) (i:Nat) (l:LA) (x:Ext):stM C.P 37 (.isl l x) 3 h i (some (.cells (enc t).cells .live))=some (pt h i (.cells [.int .i64 t.kind,.str t.name,.int .i64 t.sort,.isl l x] .live)):=by rw[au];exact sr s23 h i 3 _ _ rfl s_
attribute [go_sem] Tv
theorem Kz(vars:Lq) (ns:List Nat) (t:T) (hv:sizes vars<4000000) (hk1:∀v∈vars,v.kind=1) (hl:ns.length=vars.length) (hs:t.size<4000000) (hlf:pw t)
  (hc:∀k∈t.kids,az C 187 [enc k,aM vars,.isl (gD (tU ns)) .unk]=some (enc (dK (jT vars ns) k))):az C 187 [enc t,aM vars,.isl (gD (tU ns)) .unk]=some (enc (dK (jT vars ns) t)):=by
 refine ay func187 rfl λR hR=>?_
 have w:=E1 hl;have q2:=len_sizes vars;have q3:∀b∈jT vars ns,b.1.kind=1:=λb hb=>hk1 _ (eK hb).1
 simp[go_sem,lE];refine bL (Y0 vars ns t) vars.length ⟨0,rfl,aN _,g_,g_,g_,g_,g_,by simp[au,aV],rfl,.inr o_⟩ ?_;rintro m st h ⟨k,rfl,hk,y,J,l,s,z,rfl,c,-⟩;by_cases a:k<vars.length
 ·have d:(k:Int)<vars.length:=o_;have n:=kX vars k a;have A:vars[k].size<4000000:=by have:=mG (aF a);omega
  have L:=wS k o_;have c1:=lr t vars[k] hs A;have B:k<ns.length:=o_;have g:=Nt (tU ns) .unk k (by simpa[tU]using B);rw[show(tU ns)[k]'(by simpa[tU]using B)=(iU ns[k]).name by simp[tU]]at g;have c2:=O3 (iU ns[k]).name 0;rw[show T.mk 2 (iU ns[k]).name 0 []=iU ns[k]from rfl]at c2;rw[aI (by rw[w];exact a),N2 hl a,fk]at c;simp[go_sem,y,l,z,d,n,c1];refine Ife_iff.2 ⟨λj=>?_,λj=>?_⟩
  ·rw[cmp_zero]at j;have M:t.kind=1:=by rw[j];exact hk1 _ (aF a)
   rw[if_pos (cmp_zero.2 j.symm)]at c;have e:dK (jT vars ns) t=iU ns[k]:=by rw[jM,if_pos M,<-c]
   simp[go_sem,J,s,z,g,c2];exact hR ⟨enc (iU ns[k]),by simp[aY,cC,f187,go_sem,s],by rw[e];exact aK (qx _) (aq _)⟩
  rw[if_neg λq=>j (cmp_zero.2 (cmp_zero.1 q).symm)]at c;simp[go_sem,z,-Int.natCast_add,L];exact⟨vars.length-(k+1),o_,k+1,rfl,a,g_,g_,g_,g_,g_,rfl,c,.inr o_⟩
 have:k=vars.length:=o_;subst this;rw[<-w,ae,fk]at c;have N:dK (jT vars ns) t=.mk t.kind t.name t.sort (t.kids.map (dK (jT vars ns))):=by
  rw[jM];by_cases q:t.kind=1
  ·rw[if_pos q,<-c];have:=qQ t;rw[hlf t (fT t) q]at this ⊢;exact this.symm
  rw[if_neg q]
 have A:=size_kids t;have q1:=len_sizes t.kids;simp[go_sem,y,l,z,lE,aV];refine bL (Y2 vars ns t) t.kids.length ⟨0,.isl [] .full,rfl,aN _,g_,g_,g_,g_,g_,g_,rfl,rfl,by simp[au],.inl rfl⟩ ?_;clear y J l s z;rintro m st h ⟨k,v,rfl,hk,y,J,l,s,g8,O,D,K,E,u⟩;by_cases a:k<t.kids.length
 ·have d:(k:Int)<t.kids.length:=o_;have n:=eJ t.kids k a;have L:=wS k o_;have ck:∀h,ak C h (.func 187 []) (some [enc t.kids[k],aM vars,.isl (gD (tU ns)) .unk])=some (enc (dK (jT vars ns) t.kids[k]),h):=λh=>aX (args':=[enc t.kids[k],aM vars,.isl (gD (tU ns)) .unk]) (by rw[bE];rfl) (by rw[bE];rfl) s_ (hc _ (aF a))
  have⟨F,Q,ha,S,o,U⟩:=eW (ys:=[dK (jT vars ns) t.kids[k]]) (x:=.full) u (by simp only[aU,ag,aG,aQ];omega);have V:(t.kids.take k).map (dK (jT vars ns))++[dK (jT vars ns) t.kids[k]]=(t.kids.take (k+1)).map (dK (jT vars ns)):=by rw[<-dL a,br];rfl
  rw[V]at S;simp only[aS,bD]at ha;have f:∀i,bv v=some i->i≠0/\i≠1/\i≠2:=λi p=>by
   rcases u with rfl|⟨id,rfl,c⟩
   ·cases p
   simp only[bv,aA]at p;subst p;exact⟨λe=>by(rw[e,D]at c;cases c),λe=>by(rw[e,K]at c;cases c),λe=>by(rw[e,E]at c;cases c)⟩
  have X:=o.get D (λe=>(f _ e).1 rfl);have Y:=o.get K (λe=>(f _ e).2.1 rfl);have I:=o.get E (λe=>(f _ e).2.2 rfl);have r:=(aB.1 I).1;have Z:cL C.P Q 37 (.ptr 2 3) F=some (Q.set 2 (.cells [.int .i64 t.kind,.str t.name,.int .i64 t.sort,F] .live)):=by obtain⟨x,rfl⟩:=S.isl;simp[cL,I,s23]
  have q':OwnR 39 (Q.set 2 (.cells [.int .i64 t.kind,.str t.name,.int .i64 t.sort,F] .live)) F (((t.kids.take (k+1)).map (dK (jT vars ns))).map enc):=S.keep (Keep.set _ _ _) (λi p e=>by
   rcases U with j|⟨j,h2⟩
   ·exact(f i (j▸p)).2.2 (by simpa using e.symm)
   have:=(aB.1 E).1;rw[h2]at p;simp only[aA]at p e;omega)
  have l2:aW C.P h 37 (.ptr 2 3)=some v:=by obtain⟨x,rfl⟩:=u.isl;simp[aW,E,aZ,a23,s23]
  simp[go_sem,l,O,G D,d,-Int.natCast_add];refine gS 11 _ (by simp[gM]) rfl ?_;simp[go_sem,y,J,l,g8,O,G D,l2,n,ck,dp,ha,Z,-Int.natCast_add,L];refine⟨?_,t.kids.length-(k+1),o_,k+1,F,rfl,a,g_,g_,g_,g_,g_,g_,?_,?_,?_,q'⟩
  ·rcases u with rfl|⟨id,rfl,c⟩
   ·simp[go_sem,ij,iK,iO,kW,fL,ce]
   have:=f id rfl;simp[go_sem,ij,iK,iO,kW,fL,ce]
   (try omega)
  ·rw[aE o_];exact X
  ·rw[aE o_];exact Y
  rw[aH r]
 have:k=t.kids.length:=o_;subst this;rw[ah]at u;obtain⟨x,rfl⟩:=u.isl;simp[go_sem,l,s,g8,O,G D,G K,G E];refine hR ⟨.agg [.int .i64 t.kind,.str t.name,.int .i64 t.sort,.isl ((t.kids.map (dK (jT vars ns))).map enc) x],?_,?_⟩
 ·have q0:=(aB.1 K).1;simp[aY,cC,f187,go_sem,s,q0]
 rw[N];exact uD _ _ _ _ _ _
theorem Ky(vars:Lq) (ns:List Nat) (hv:sizes vars<4000000) (hk1:∀v∈vars,v.kind=1) (hl:ns.length=vars.length):∀t:T,t.size<4000000->pw t->az C 187 [enc t,aM vars,.isl (gD (tU ns)) .unk]=some (enc (dK (jT vars ns) t)):=by refine T.ind λt c d a=>Kz vars ns t hv hk1 hl d a λk b=>c k b (by have:=kid_size b;omega) (CB a b)
theorem H6(vars:Lq) (ns:List Nat) (hv:sizes vars<4000000) (hk1:∀v∈vars,v.kind=1) (hl:ns.length=vars.length) (t:T) (hs:t.size<4000000) (hlf:pw t) (h:H):ak C h (.func 187 []) (some [enc t,aM vars,.isl (gD (tU ns)) .unk])=some (enc (dK (jT vars ns) t),h):=
 aX (args':=[enc t,aM vars,.isl (gD (tU ns)) .unk]) (by rw[bE];rfl) (by rw[bE];rfl) s_ (Ky vars ns hv hk1 hl t hs hlf)
theorem ss{n:Nat}:∀ {l:Lq},(∀t∈l,t.size<=n)->sizes l<=n*l.length
 |[],_=>by simp[sizes]
 |a::l,h=>by
  have h1:=h a s_;have c:=ss (l:=l) λt b=>h t (by simp[b])
  rw[sizes,aG,qH];omega
theorem Jg{l:Lq}{v:T}(h:v∈dv l):v.kind=1:=by have⟨t,_,a⟩:=bR.1 (mem_setS.1 h);have:=(cO.1 (mem_setS.1 a)).2;simpa[isK]using this
theorem MI(l:Lq):(dv l).length<=sizes l:=cW (nq _) (mN l)
theorem Jf{l:Lq}{n:Nat}(h:∀x∈l,x.size<n):∀y∈dv l,y.size<n:=λy b=>by have⟨a,c,d⟩:=bR.1 (mem_setS.1 b);exact mB (h a c) y d
theorem yM{t:T}(h:bh t=0):pw t:=λy a k=>qm (gF (kq t (cz h).1 y a)) (.inl k)
structure Bnd (l:List Dm):Prop where
 len:l.length<=40
 dem:∀d∈l,gy d/\d.knows.length<=40
 size:∀t∈bp l,t.size<=60
 ok:∀t∈bp l,okT t
 tlen:(bp l).length<=1640
 vlen:(dv (bp l)).length<=98400
 vsz:sizes (dv (bp l))<4000000
theorem tq{l:List Dm}(hv:cD l=0):Bnd l:=by
 have c:=λd c=>pD (se hv (d:=d) c)
 have g:=qI hv;have b:∀t∈bp l,t.size<=60:=λt f=>(iI (g t f)).2.2.2
 have o:=(mO hv).1;have i:(bp l).length<=1640:=by
  have e:∀(m:List Dm),(∀d∈m,d.knows.length<=40)->(bp m).length<=41*m.length:=by
   intro m;induction m with
   |nil=>simp[bp]
   |cons a m p=>
    intro h;have o:=h a s_;have i:=p λd c=>h d (by simp[c])
    simp only[bp,cF,aL,aG,aQ]at i ⊢;omega
  have:=e l λd j=>(c d j).1
  omega
 have A:=ss b;have B:=MI (bp l);have D:=ss (n:=61) (l:=dv (bp l)) λy k=>by have:=Jf (n:=61) (λx q=>by have:=b x q;omega) y k;omega
 refine⟨o,λd j=>?_,b,λt f=>uF (g t f),i,o_,?_⟩
 ·have⟨r,s,u⟩:=c d j;refine⟨⟨λt f=>?_,?_,o_⟩,r⟩
  ·have:=(iI (s t f)).2.2.2;omega
  have:=(iI u).2.2.2;omega
 have:61*(dv (bp l)).length<=61*(60*1640):=lG _ o_;have:(dv (bp l)).length<=60*1640:=o_;have:∀y∈dv (bp l),y.size<=1:=λy k=>by have⟨a,v,hv⟩:=bR.1 (mem_setS.1 k);have⟨w,z⟩:=cO.1 (mem_setS.1 hv);have:=yM (uF (g a v)).1 y w (by simpa[isK]using z);rw[size_kids,this];simp[sizes]
 have:=ss this;omega
theorem qt{l:List Dm}{d:Dm}(hd:d∈l):∀t∈d.knows,t∈bp l:=λ_t a=>bR.2 ⟨d,hd,dN _ a⟩
theorem nl{l:List Dm}{d:Dm}(hd:d∈l):d.term∈bp l:=bR.2 ⟨d,hd,s_⟩
theorem Hs(ts:Lq) (x:Ext) (c:Nat) (hs:sizes ts<4000000) (hc:c<4000000) (h:H):ak C h (.func 186 []) (some [.isl (ts.map enc) x,.int .i64 c])=some (.isl (gD (tU (mP ts c))) .unk,h):=aX (args':=[aM ts,.int .i64 c]) rfl rfl s_ (Jk ts c hs hc)
def ug(l:List Dm) (i:Nat):Lq:=((l.take i).filter λe=>decide (e.term.kind=1)).map Dm.term
theorem Ji{l:List Dm}{j:Nat}(hj:j<l.length):ug l (j+1)=ug l j++if l[j].term.kind=1 then [l[j].term]else []:=by unfold ug;rw[aJ hj,iP,br];by_cases h:l[j].term.kind=1<;>simp[h]
theorem D8(l:List Dm) (j:Nat):(ug l j).length<=j:=by unfold ug;rw[aU];have:=dA (λe:Dm=>decide (e.term.kind=1)) (l.take j);rw[ag]at this;omega
theorem D7{l:List Dm}{i:Nat}{t:T}(h:t∈ug l i):t∈bp l:=by obtain⟨d,a,rfl⟩:=bV.1 h;exact nl (bW (cO.1 a).1)
theorem MP(l:List Dm) (i:Nat) (d:Dm):MQ l i d=(d.knows++ug l i).map (dK (ph l)):=by rw[MQ,ug,br,jx];rfl
theorem X4(e:AV):bF C.P 39 (.iptr e 1) 0=some (.iptr e 1):=k_
attribute [go_sem] X4
def aBZ(l:List Dm) (i:Nat) (d:Dm) (vars:Lq) (ns:List Nat) (m:Nat) (st:PT) (h:H):Prop:=∃k:Nat,m=d.knows.length-k/\k<=d.knows.length/\st.get 0=bB l/\st.get 1=.int .i64 i/\st.get 7=aM vars/\st.get 8=.isl (gD (tU ns)) .unk/\st.get 10=.int .i64 k/\OwnR 39 h (st.get 9) (((d.knows.take k).map (dK (jT vars ns))).map enc)
def aBV(l:List Dm) (i:Nat) (d:Dm) (vars:Lq) (ns:List Nat) (m:Nat) (st:PT) (h:H):Prop:=∃k:Nat,m=i-k/\k<=i/\st.get 0=bB l/\st.get 1=.int .i64 i/\st.get 7=aM vars/\st.get 8=.isl (gD (tU ns)) .unk/\st.get 11=.int .i64 k/\OwnR 39 h (st.get 9) (((d.knows++ug l k).map (dK (jT vars ns))).map enc)
theorem GP(l:List Dm) (i:Nat) (hv:cD l=0) (hi:i<l.length):az C 132 [bB l,.int .i64 i]=some (.tuple [.bool (qe l i l[i]).1,.int .i64 (qe l i l[i]).2]):=by
 refine ay func132 rfl λR hR=>?_
 have⟨b1,Z,b3,b4,b5,b6,b7⟩:=tq hv;have F:=aF hi;have q1:(i:Int)<l.length:=o_;have q':¬(l.length:Int)<=i:=o_;have q0:¬(i:Int)<0:=o_;have c1:=sK l .unk (λd F=>(Z d F).1) o_;have c2:=xl l .unk (λd F=>by have:=(Z d F).2;omega) o_;have c3:=O6 (bp l) .unk (λt a=>by have:=b3 t a;omega) (by have:=ss b3;omega);have⟨u1,u2⟩:=Bc (bp l) (dv (bp l)).length;have c4:=Hs (bp l) .unk (dv (bp l)).length (by have:=ss b3;omega) o_;have c5:=H6 (dv (bp l)) (mP (bp l) (dv (bp l)).length) b7 (λv hv=>Jg hv) u2;have hZ:ph l=jT (dv (bp l)) (mP (bp l) (dv (bp l)).length):=rfl;have s:∀t∈bp l,(dK (ph l) t).size<=24000:=λt a=>by
  have:=Bs (ph l) (λb hb=>by have⟨n,_,e⟩:=bV.1 (eK hb).2;rw[<-e,iU,size_kids];simp[T.kids,sizes]) t
  have:=b3 t a;omega
 have u:∀t∈bp l,nf gZ (dK (ph l) t):=λt a=>NG (λb hb=>by
   have⟨n,_,e⟩:=bV.1 (eK hb).2;rw[<-e];intro y hy k;rcases mem_walk.1 hy with rfl|⟨k,hk,_⟩
   ·cases k
   cases hk) t (b4 t a).2
 have w:=(Z _ F).2;have G:=qt F;have z:=nl F;have q:qe l i l[i]=yx ((l[i].knows++ug l i).map (dK (ph l))) (dK (ph l) l[i].term):=by rw[qe,MP]
 have M:=λx=>R2 ((l[i].knows++ug l i).map (dK (ph l))) x (dK (ph l) l[i].term) (by
  have h1:∀x∈(l[i].knows++ug l i).map (dK (ph l))++[dK (ph l) l[i].term],x.size<=24000:=λx o=>by
   rcases ac.1 o with o|o
   ·obtain⟨t,a,rfl⟩:=bV.1 o;rcases ac.1 a with a|a
    ·exact s t (G t a)
    exact s t (D7 a)
   rw[bJ.1 o];exact s _ z
  have h2:=ss h1;have:=D8 l i;simp only[aL,aU,aG,aQ]at h2;omega) (λx o=>by
   rcases ac.1 o with o|o
   ·obtain⟨t,a,rfl⟩:=bV.1 o;rcases ac.1 a with a|a
    ·exact u t (G t a)
    exact u t (D7 a)
   rw[bJ.1 o];exact u _ z)
 have c:∀t∈bp l,t.size<4000000/\pw t:=λt a=>⟨by have:=b3 t a;omega,yM (b4 t a).1⟩
 rw[hZ]at q M;have A:=qS l i hi;have N:=pJ l;simp only[aM,bB]at c1 c2 c3 c4 A N;simp[go_sem,bB,c1,hv,q',q0,c2,c3,c4,N];clear s u hZ c1 c2 c3 c4 b3 b4 u1 b5;generalize mP (bp l) (dv (bp l)).length=ns at *;generalize dv (bp l)=vars at *;generalize hD:l[i]=d at *;refine bL (aBZ l i d vars ns) d.knows.length ⟨0,rfl,aN _,by simp[go_sem,bB],g_,by simp[go_sem,aM],g_,g_,.inr ⟨0,g_,s_⟩⟩ ?_;rintro m st h ⟨k,rfl,hk,p,I,O,Q,J,r⟩;obtain⟨v9,B⟩:∃v,v=st.get 9:=⟨_,rfl⟩
 rw[<-B]at r;simp only[bB]at p;by_cases g:k<d.knows.length
 ·have j:(k:Int)<d.knows.length:=o_;have f:=eJ d.knows k g;have Y:=wS k o_;have S:=G _ (aF g);have U:=c5 d.knows[k] (c _ S).1 (c _ S).2;have⟨v',h',V,X,_,_⟩:=eW (ys:=[dK (jT vars ns) d.knows[k]]) (x:=.full) r (by simp only[aU,ag,aG,aQ];omega);rw[show(d.knows.take k).map (dK (jT vars ns))++[dK (jT vars ns) d.knows[k]]=(d.knows.take (k+1)).map (dK (jT vars ns)) by rw[aJ g,br];rfl]at X;simp only[aS,bD]at V;simp[go_sem,p,I,O,Q,J,<-B,A,qr,j,f,U,dp,V,-Int.natCast_add,Y];exact⟨d.knows.length-(k+1),o_,k+1,rfl,g,by simp[go_sem,p,bB],g_,g_,g_,g_,by simpa[go_sem]using X⟩
 have:k=d.knows.length:=o_;subst this;rw[ah]at r;simp[go_sem,p,I,J,A,qr];refine bL (aBV l i d vars ns) i ⟨0,rfl,aN _,by simp[go_sem,p,bB],g_,g_,g_,g_,by simpa[go_sem,<-B,ug]using r⟩ ?_;clear p I O Q J r B;rintro m st h ⟨k,rfl,hk,p,I,O,Q,L,r⟩;obtain⟨v9,B⟩:∃v,v=st.get 9:=⟨_,rfl⟩
 rw[<-B]at r;simp only[bB]at p;have q2:=D8 l k;by_cases g:k<i
 ·have j:(k:Int)<i:=o_;have w:k<l.length:=o_;have f:=qS l k w;simp only[bB]at f;have Y:=wS k o_;have S:=nl (aF w);have U:=c5 l[k].term (c _ S).1 (c _ S).2;have D:=Ji w;by_cases E:l[k].term.kind=1
  ·rw[if_pos E]at D;have⟨v',h',V,X,_,_⟩:=eW (ys:=[dK (jT vars ns) l[k].term]) (x:=.full) r (by simp only[aU,aL,aG,aQ];omega);rw[show(d.knows++ug l k).map (dK (jT vars ns))++[dK (jT vars ns) l[k].term]=(d.knows++ug l (k+1)).map (dK (jT vars ns)) by rw[D];simp]at X;simp only[aS,bD]at V;simp[go_sem,p,I,O,Q,L,<-B,f,DC,yN,E,j,U,dp,V,-Int.natCast_add,Y];exact⟨i-(k+1),o_,k+1,rfl,g,by simp[go_sem,p,bB],g_,g_,g_,g_,by simpa[go_sem]using X⟩
  rw[if_neg E,bm]at D;simp[go_sem,p,I,L,f,DC,E,j,-Int.natCast_add,Y];exact⟨i-(k+1),o_,k+1,rfl,g,by simp[go_sem,p,bB],g_,g_,g_,g_,by rw[D];simpa[go_sem,<-B]using r⟩
 have:k=i:=o_;subst this;have⟨x,o⟩:=r.isl;have U:=c5 d.term (c _ z).1 (c _ z).2;have M:=M x;rw[<-q]at M;clear q;generalize (d.knows++ug l k).map (dK (jT vars ns))=K at *;simp[go_sem,p,I,O,Q,L,<-B,o,A,yN,U,M];exact hR ⟨.tuple [.bool (qe l k d).1,.int .i64 (qe l k d).2],by simp[aY,dx,cC,f132,go_sem],dF rfl rfl s_⟩
theorem Ou(l:List Dm) (x:Ext) (i:Nat) (hv:cD l=0) (hi:i<l.length) (h:H):ak C h (.func 132 []) (some [.isl (l.map dG) x,.int .i64 i])=some (.tuple [.bool (qe l i l[i]).1,.int .i64 (qe l i l[i]).2],h):=aX (args':=[bB l,.int .i64 i]) rfl rfl s_ (GP l i hv hi)
theorem Sh(b:T × T) (h1:b.1.size<4000000) (h2:b.2.size<4000000):az C 106 [bS b]=some (.int .i64 (tt b)):=by
 refine ay func106 rfl λR c=>?_
 have g:=lq b.1 h1;have h:=lq b.2 h2;have c3:=lr b.1 b.2 h1 h2;have i:=SL b.1 b.2 h1 h2;simp +contextual [go_sem,PC,Uy,g];refine Ife_iff.2 ⟨λa=>?_,λa=>?_⟩
 ·simp[go_sem];refine c ⟨_,rfl,?_⟩;simp[go_sem,tt,thn,a];exact aK rfl rfl
 simp only[Decidable.not_not]at a;simp +contextual [go_sem,Uy,Ux,aAy,c3];refine Ife_iff.2 ⟨λd=>?_,λd=>?_⟩
 ·simp[go_sem];refine c ⟨_,rfl,?_⟩;simp[go_sem,tt,thn,a];rw[if_pos (by simpa using d)];exact aK rfl rfl
 simp +contextual [go_sem,Ux,h];refine Ife_iff.2 ⟨λe=>?_,λe=>?_⟩
 ·simp[go_sem];refine c ⟨_,rfl,?_⟩;simp[go_sem,tt,thn,a,e];rw[if_neg (by simpa using d)];exact aK rfl rfl
 simp only[Decidable.not_not]at e;simp +contextual [go_sem,Uy,Ux,i];refine Ife_iff.2 ⟨λf=>?_,λf=>?_⟩
 ·simp[go_sem];refine c ⟨_,rfl,?_⟩;simp[go_sem,tt,thn,a,e];rw[if_neg (by simpa using d),if_neg (by simpa using f)];exact aK rfl rfl
 simp[go_sem];refine c ⟨_,rfl,?_⟩;simp[go_sem,tt,thn,a,e];rw[if_neg (by simpa using d),if_pos (by simpa using f)];exact aK rfl rfl
theorem SU(b:T × T) (h1:b.1.size<4000000) (h2:b.2.size<4000000) (h:H):ak C h (.func 106 []) (some [bS b])=some (.int .i64 (tt b),h):=aX (OU _) (by simp[Gc]) s_ (Sh b h1 h2)
theorem Py(l:Lb) (hs:small l):az C 67 [binds l]=some (.int .i64 (mR l)):=by
 refine ay func67 rfl λR n=>?_
 simp +contextual [go_sem,binds,mW];refine Ife_iff.2 ⟨λw=>?_,λw=>?_⟩
 ·simp[go_sem];refine n ⟨_,rfl,?_⟩;simp[go_sem,mR,show 200<l.length by omega];exact aK rfl rfl
 have o:mR l=pk none l:=by simp[mR,show ¬200<l.length by omega]
 simp +contextual [go_sem];refine bL (aBp l) l.length ⟨0,rfl,aN _,rfl,by simp[go_sem,binds],g_,rfl⟩ ?_;rintro m s h ⟨k,rfl,A,rfl,e,i,a⟩;simp only[binds]at e;by_cases b:k<l.length
 ·have c:(k:Int)<l.length:=o_;have f:=sS l k b .unk;have g:=hs _ (aF b);have p:=SU l[k] g.1 g.2;have v:=wS k o_;rw[aI b,pk]at a;by_cases j:tt l[k]=0
  ·rw[j]at a;by_cases q:k=0
   ·have x:later (prev l k) l[k].1=false:=by simp[prev,q,later]
    have a:pk (some l[k].1) (l.drop (k+1))=pk none l:=by simpa[thn,x]using a
    simp[go_sem,mW,e,i,c,f,G8,p,j,-Int.natCast_add,v,show ¬0<k by omega];exact⟨l.length-(k+1),o_,k+1,rfl,b,rfl,by simp[go_sem,e,binds],g_,by rw[Bv b];exact a⟩
   have d:k-1<l.length:=o_;have r:=sS l (k-1) d .unk;have y:IntKind.i64.wrap ((k:Int)-1)=((k-1:Nat):Int):=by rw[av o_];omega
   have t:=hs _ (aF d);have z:=sM l[k-1].1 l[k].1 t.1 g.1;simp[go_sem,mW,e,i,c,f,G8,p,j,-Int.natCast_add,show 0<k by omega,y,r,z,kH];refine Ife_iff.2 ⟨λu=>?_,λu=>?_⟩
   ·have a:5=pk none l:=by simpa[thn,prev,q,d,later,u]using a
    simp[go_sem];refine n ⟨_,rfl,?_⟩;simp[go_sem,o,<-a];exact aK rfl rfl
   have a:pk (some l[k].1) (l.drop (k+1))=pk none l:=by simpa[thn,prev,q,d,later,u]using a
   simp[go_sem,i,-Int.natCast_add,v];exact⟨l.length-(k+1),o_,k+1,rfl,b,rfl,by simp[go_sem,e,binds],g_,by rw[Bv b];exact a⟩
  simp[go_sem,mW,e,i,c,f,G8,p,j];refine n ⟨_,rfl,?_⟩;simp[thn,j]at a;simp[go_sem,o,<-a];exact aK rfl rfl
 have:k=l.length:=o_;subst this;rw[ae,pk]at a;simp[go_sem,mW,e,i];refine n ⟨_,rfl,?_⟩;simp[go_sem,o,<-a];exact aK rfl rfl
theorem Dk(l:Lb) (hs:small l) (h:H):ak C h (.func 67 []) (some [binds l])=some (.int .i64 (mR l),h):=aX (LL _) (by simp[np]) s_ (Py l hs)
theorem Sl(l:Lb) (t:T) (hs:small l) (hv:t.size<4000000) (hl:l.length<1000000):az C 71 [binds l,enc t]=some (iC (fZ l t)):=by
 refine ay func71 rfl λR n=>?_
 have p:=Dk l hs;have q:=lq t hv;have c3:=Vd l t hs hv o_;have g:∀(s:PT) (h:H) (e:Int),s.get 4=.ptr 1 0->s.get 5=.int .i64 e->h[1]?=some (.cells zc .live)->fZ l t=(zT,e)->R .ret s h:=λs h e a i j k=>by refine n ⟨_,?_,(xI _ e).trans (by rw[k])⟩;simp[aY,cC,dx,f71,a,i,aW,j,aZ,a25,s25,zc]
 have fin:∀(s:PT) (h:H) (c:T),s.get 4=.ptr 1 0->s.get 5=.int .i64 0->h[1]?=some (.cells (enc c).cells .live)->fZ l t=(c,0)->R .ret s h:=λs h c a i j k=>by refine n ⟨iC (c,0),?_,(rG _ c 0).trans (by rw[k])⟩;simp[aY,cC,dx,f71,a,i,aW,j,aZ,a25,s25,au,iC];rw[bE]
 have r:nR C.P [] 39 (enc t)=some (.ptr 0 0,[.cells (enc t).cells .live]):=by rw[kf,au];rfl
 have o:∀(l:List VObj),aW C.P (.cells (enc t).cells .live::l) 39 (.ptr 0 0)=some (enc t):=λl=>by rw[au];exact yP t l
 simp[go_sem,r,p];refine Ife_iff.2 ⟨λd=>?_,λd=>?_⟩
 ·simp[go_sem,A2,Ma];exact g _ _ (mR l) g_ g_ rfl (by unfold fZ;rw[if_pos d])
 simp only[Decidable.not_not]at d;simp[go_sem,o,q];refine Ife_iff.2 ⟨λf=>?_,λf=>?_⟩
 ·simp[go_sem,A2,Ma];exact g _ _ (bh t) g_ g_ rfl (by unfold fZ;rw[if_neg o_,if_pos f])
 simp only[Decidable.not_not]at f;have⟨y,u,a⟩:=sk d;have v:=Bs l (λb w=>(a b w).2) t;have:=cz f;have x:=lq (dK l t) o_;simp[go_sem,o,c3,x,TE,TQ];refine Ife_iff.2 ⟨λm=>?_,λm=>?_⟩
 ·simp[go_sem,A2,Ma];exact g _ _ (bh (dK l t)) g_ g_ rfl (by unfold fZ;rw[if_neg o_,if_neg o_,if_pos m])
 simp only[Decidable.not_not]at m;simp[go_sem,TQ,W8];exact fin _ _ (dK l t) g_ g_ s_ (by unfold fZ;rw[if_neg o_,if_neg o_,if_neg o_])
theorem H9(l:Lb) (t:T) (hs:small l) (hv:t.size<4000000) (hl:l.length<1000000) (h:H):ak C h (.func 71 []) (some [binds l,enc t])=some (iC (fZ l t),h):=aX (rp _ _) (by simp[np,aq]) s_ (Sl l t hs hv hl)
def zd:LA:=[.isl [] .full,.int .i64 0,.str ⟨#[]⟩,.int .i64 0,.isl [] .full]
theorem MF:iH C.P 41=some (.agg zd):=k_
theorem Sa:fK C.P 41 []=some (.agg zd):=k_
theorem Nb(a b c d e:AV):ldM C.P 41 0 (some (.cells [a,b,c,d,e] .live))=some (.agg [a,b,c,d,e]):=by simp[ldM,aZ,a41,s41]
theorem Ur(a:AV) (l:LA):ldM C.P 37 0 (some (.cells (a::l) .live))=some a:=by simp[ldM,aZ,a23,s23]
theorem re(d:Dm):ldM C.P 37 0 (some (.cells (dc d) .live))=some (aM d.knows):=by simp[ldM,aZ,a23,s23,dc]
theorem G6(d:Dm):ldM C.P 39 1 (some (.cells (dc d) .live))=some (enc d.term):=by simp[ldM,aZ,a25,s25,dc];rw[bE]
theorem TN(d:Dm):ldM C.P 41 0 (some (.cells (dc d) .live))=some (dG d):=by simp[ldM,aZ,a41,s41,dc,dG]
theorem T7(t:T) (h:H) (i:Nat) (a b c d e:AV):stM C.P 39 (enc t) 1 h i (some (.cells [a,b,c,d,e] .live))=some (pt h i (.cells [a,.int .i64 t.kind,.str t.name,.int .i64 t.sort,aM t.kids] .live)):=by rw[bE];unfold stM;rw[s25];rfl
theorem T8(h:H) (i:Nat) (l:LA) (x:Ext) (a b c d e:AV):stM C.P 37 (.isl l x) 0 h i (some (.cells [a,b,c,d,e] .live))=some (pt h i (.cells [.isl l x,b,c,d,e] .live)):=sr s23 h i 0 _ _ rfl s_
theorem Uq:ldM C.P 41 0 (some (.cells zd .live))=some (.agg zd):=by simp[ldM,aZ,a41,s41,zd]
theorem T6(h:H) (i:Nat):stM C.P 41 (.agg zd) 0 h i (some (.cells zd .live))=some (pt h i (.cells zd .live)):=sq s41 h i _ _ rfl rfl
theorem MY(h:H) (i:Nat) (a' b' c' d' e':AV):stM C.P 41 (.agg [a',b',c',d',e']) 0 h i (some (.cells zd .live))=some (pt h i (.cells [a',b',c',d',e'] .live)):=sq s41 h i _ _ rfl rfl
def qU(s:Lb) (d:Dm):Dm × Int:=if mZ s d.knows≠0 then(⟨[],zT⟩,mZ s d.knows)else(⟨d.knows.map (dK s),(fZ s d.term).1⟩,(fZ s d.term).2)
theorem vh(s:Lb) (d:Dm):(qU s d).2=yv s d:=by unfold qU yv;split<;>rfl
theorem F3{s:Lb}{d:Dm}(h:yv s d=0):qU s d=(pe s d,0):=by
 have e:=vh s d;rw[h]at e;unfold yv at h;unfold qU at e ⊢;split at h
 ·rename_i q;exact absurd h q
 rename_i q;rw[if_neg q]at e ⊢;have h:(fZ s d.term).2=0:=h;unfold fZ at h ⊢;split at h
 ·rename_i q;exact absurd h q
 rename_i a;rw[if_neg a];split at h
 ·rename_i q;exact absurd h q
 rename_i b;rw[if_neg b];split at h
 ·rename_i q;exact absurd h q
 rename_i c;rw[if_neg c];rfl
theorem PP{s:Lb}{t:T}(h:(fZ s t).2=0):(fZ s t)=(dK s t,0):=by
 unfold fZ at h ⊢;split at h
 ·rename_i q;exact absurd h q
 rename_i a;rw[if_neg a];split at h
 ·rename_i q;exact absurd h q
 rename_i b;rw[if_neg b];split at h
 ·rename_i q;exact absurd h q
 rename_i c;rw[if_neg c]
def Mu(r:Dm × Int):AV:=.tuple [dG r.1,.int .i64 r.2]
theorem Bn(h:H) (k l:Lq) (x y:Ext) (a c:Int) (b:ByteArray) (e:Int) (t:T) (ht:t=.mk a b c l):fc h dD (.tuple [.agg [.isl (k.map enc) x,.int .i64 a,.str b,.int .i64 c,.isl (l.map enc) y],.int .i64 e])=some (Mu (⟨k,t⟩,e)):=by subst ht;exact dF rfl rfl s_
def aBm(s:Lb) (d:Dm) (m:Nat) (st:PT) (h:H):Prop:=∃(k:Nat) (v:AV),m=d.knows.length-k/\k<=d.knows.length/\st.get 1=binds s/\st.get 2=.ptr 0 0/\st.get 4=.ptr 1 0/\st.get 6=.ptr 2 0/\st.get 7=.int .i64 k /\
 h[0]?=some (.cells (dc d) .live)/\h[1]?=some (.cells zd .live)/\h[2]?=some (.cells [v,.int .i64 0,.str ⟨#[]⟩,.int .i64 0,.isl [] .full] .live)/\OwnR 39 h v (((d.knows.take k).map (dK s)).map enc)/\mZ s (d.knows.drop k)=mZ s d.knows
theorem Sm(s:Lb) (d:Dm) (hs:small s) (hl:s.length<1000000) (hd:gy d):az C 36 [dG d,binds s]=some (Mu (qU s d)):=by
 refine ay func36 rfl λR X=>?_
 have⟨B,D,q'⟩:=hd;simp[go_sem,Fu,MF];refine bL (aBm s d) d.knows.length ⟨0,.isl [] .full,rfl,aN _,g_,g_,g_,g_,g_,rfl,rfl,rfl,.inl rfl,rfl⟩ ?_;rintro m st h ⟨k,v,rfl,hk,E,F,y,I,J,t,j,r,z,b⟩;have c:∀i,bv v=some i->i≠0/\i≠1/\i≠2:=λi l=>by
  rcases z with rfl|⟨id,rfl,hd⟩
  ·cases l
  simp only[bv,aA]at l;subst l;exact⟨λe=>by(rw[e,t]at hd;cases hd),λe=>by(rw[e,j]at hd;cases hd),λe=>by(rw[e,r]at hd;cases hd)⟩
 by_cases a:k<d.knows.length
 ·have g:(k:Int)<d.knows.length:=o_;have u:=eJ d.knows k a;have w2:=wS k o_;have K:=H9 s d.knows[k] hs (B _ (aF a)) hl;rw[aI a,mZ]at b;by_cases q:(fZ s d.knows[k]).2=0
  ·have L:=PP q;rw[if_neg (by simp[BW,q])]at b;rw[L]at K;have⟨Y,h',Z,M,n,N⟩:=eW (ys:=[dK s d.knows[k]]) (x:=.full) (OwnR.app z [.cells (enc (dK s d.knows[k])).cells .live]) (by simp only[aU,ag,aG,aQ];omega);have O:(d.knows.take k).map (dK s)++[dK s d.knows[k]]=(d.knows.take (k+1)).map (dK s):=by rw[<-dL a,br];rfl
   rw[O]at M;simp only[aS,bD]at Z;have Q:=n.get (ga t) (λe=>(c _ e).1 rfl);have S:=n.get (ga j) (λe=>(c _ e).2.1 rfl);have w:=n.get (ga r) (λe=>(c _ e).2.2 rfl);have o:=(aB.1 w).1;have p:=(aB.1 r).1;have U:OwnR 39 (h'.set 2 (.cells [Y,.int .i64 0,.str ⟨#[]⟩,.int .i64 0,.isl [] .full] .live)) Y (((d.knows.take (k+1)).map (dK s)).map enc):=M.keep (Keep.set _ _ _) (λi l e=>by
    rcases N with h1|⟨h1,h2⟩
    ·exact(c i (h1▸l)).2.2 (by simpa using e.symm)
    rw[h2]at l;simp only[aA,aL,aG,aQ]at l e;omega)
   generalize V:(d.knows.take (k+1)).map (dK s)=A at *;obtain⟨x',rfl⟩:=M.isl;simp[go_sem,E,F,I,J,G t,re,g,u,K,iC,lE,aV,G (ga r),Ur,dp,Z,G w,T8,-Int.natCast_add,w2];exact⟨d.knows.length-(k+1),o_,k+1,_,rfl,a,g_,g_,g_,g_,g_,by rw[pt,aE o_];exact Q,by rw[pt,aE o_];exact S,by rw[pt,aH o],by rw[V];exact U,b⟩
  rw[if_pos (by simpa[BW]using q)]at b;simp only[BW]at b;have f:=(aB.1 j).1;simp[go_sem,E,F,y,J,G t,re,g,u,K,iC,q,lE,aV,Sa,G (ga j),T6];refine X ⟨.tuple [.agg zd,.int .i64 (fZ s d.knows[k]).2],?_,?_⟩
  ·simp[aY,dx,cC,f36,go_sem,y,f,zK,Uq]
  have:qU s d=(⟨[],zT⟩,(fZ s d.knows[k]).2):=by rw[qU,if_pos (by rw[<-b];exact q),b]
  rw[this];exact Bn _ [] [] .full .full 0 0 ⟨#[]⟩ _ zT rfl
 have:k=d.knows.length:=o_;subst this;rw[ah]at z;rw[ae,mZ]at b;obtain⟨x,rfl⟩:=z.isl;have ct:=H9 s d.term hs D hl;generalize V:d.knows.map (dK s)=A at *;have f:=(aB.1 j).1;have p:=(aB.1 r).1;simp[go_sem,E,F,y,I,J,G t,re,G6,ct,iC,lE,aV,G (ga r),T7,MY,Nb,f,p,zK,G j];refine X ⟨.tuple [.agg [.isl (A.map enc) x,.int .i64 (fZ s d.term).1.kind,.str (fZ s d.term).1.name,.int .i64 (fZ s d.term).1.sort,aM (fZ s d.term).1.kids],.int .i64 (fZ s d.term).2],?_,?_⟩
 ·simp[aY,dx,cC,f36,go_sem,y,f,zK,Nb]
 have:qU s d=(⟨d.knows.map (dK s),(fZ s d.term).1⟩,(fZ s d.term).2):=by rw[qU,if_neg (by simp[<-b])]
 rw[this,V];exact Bn _ _ _ x .unk _ _ _ _ _ (qQ _).symm
theorem Fp(s:Lb) (d:Dm) (x:Ext) (hs:small s) (hl:s.length<1000000) (hd:gy d) (h:H):ak C h (.func 36 []) (some [dG d,.isl (s.map bS) x])=some (Mu (qU s d),h):=aX (args':=[dG d,binds s]) rfl rfl s_ (Sm s d hs hl hd)
theorem MW(d:Dm) (h:H) (i:Nat):stM C.P 41 (dG d) 0 h i (some (.cells zd .live))=some (pt h i (.cells (dc d) .live)):=sq s41 h i _ _ rfl rfl
attribute [go_sem] re G6 TN MW qr yN Qy DC
theorem pS{h:H}{v:AV}{x:Ext}{xs ys:List Dm}(o:OwnR 41 h v (xs.map dG)) (hl:xs.length+ys.length<=100000000) :
  ∃v' h',bu C.P false h 22 v (.isl (ys.map dG) x)=some (v',h')/\OwnR 41 h' v' ((xs++ys).map dG)/\Keep h h' (bv v)/\(bv v'=bv v\/bv v=none/\bv v'=some h.length):=by
 have b:∀l:List Dm,gn 5 (l.map dG)=true:=λl=>by
  cases l with
  |nil=>rfl
  |cons a l=>simp[gn,dG,aV]
 have:=jG (x:=x) u22 s41 b41 z41 rfl o (b xs) (b ys) (by simp only[aU];omega);rwa[<-br]at this
theorem CX(h:H) (d:Dm):cI C.P h 22 1 [(0,dG d)]=some (.isl [dG d] .full,h):=cG u22 s41 z41 rfl o_ rfl rfl rfl (by simp[dG]) rfl
@[go_sem] theorem aCN (d:Dm):bf (dG d)=true:=(rfl)
theorem OI{s:Lb}{d:Dm}(h:yv s d=0):(∀t∈(pe s d).knows,t.size<=400)/\(pe s d).term.size<=400:=by
 have e:=vh s d;unfold yv at h;split at h
 ·rename_i q;exact absurd h q
 rename_i q;refine⟨λt a=>?_,?_⟩
 ·obtain⟨k,b,rfl⟩:=bV.1 a;exact(cz (ub (vX (by simpa using q) k b)).1).2.1
 exact(cz (ub h).1).2.1
def Ic(r:List Dm × Int):AV:=.tuple [bB r.1,.int .i64 r.2]
def V7(l:List Dm) (s:Lb) (m:Nat) (st:PT) (h:H):Prop:=∃k:Nat,m=l.length-k/\k<=l.length/\st.get 0=bB l/\st.get 1=binds s/\st.get 9=.int .i64 k/\OwnR 41 h (st.get 8) (((l.take k).map (pe s)).map dG)/\Af s (l.drop k)=Af s l/\∀d∈l.take k,yv s d=0
theorem Et(l:List Dm) (s:Lb) (hv:cD l=0) (hs:small s) (hl:s.length<1000000):az C 246 [bB l,binds s]=some (Ic (mY l s)):=by
 refine ay func246 rfl λR N=>?_
 have D:∀(i:PT) (h:H) (e:Int) (x:Ext),i.get 4=.isl [] x->i.get 5=.int .i64 e->mY l s=([],e)->R .ret i h:=λi h e x X Y Z=>N ⟨.tuple [.isl [] x,.int .i64 e],by
  simp[aY,dx,cC,f246,X,Y],by rw[Z];exact dF rfl rfl s_⟩
 have⟨b1,E,b3,b4,b5,b6,b7⟩:=tq hv;have O:=sK l .unk (λd f=>(E d f).1) o_;have F:=Dk s hs;have b:=pJ l;simp only[bB]at b;simp only[binds]at F;by_cases q:mR s=0
 ·simp[go_sem,bB,binds,O,hv,F,q];refine bL (V7 l s) l.length ⟨0,rfl,aN _,by simp[go_sem,bB],by simp[go_sem,binds],g_,.inr ⟨1,g_,s_⟩,rfl,s_⟩ ?_;rintro m i h ⟨k,rfl,hk,j,u,w,y,f,G⟩;obtain⟨v8,A⟩:∃v,v=i.get 8:=⟨_,rfl⟩
  rw[<-A]at y;simp only[binds]at u;simp only[bB]at j;by_cases a:k<l.length
  ·have g:(k:Int)<l.length:=o_;have o:=AU l k a .unk;have w2:=wS k o_;have r:=aF a;have I:=Fp s l[k] .unk hs hl (E _ r).1;rw[aI a,Af]at f;by_cases z:yv s l[k]=0
   ·have J:=F3 z;rw[if_neg (by simp[z])]at f;have K:∀d∈l.take (k+1),yv s d=0:=λd n=>by
     rw[aJ a,ac,bJ]at n;rcases n with n|rfl
     ·exact G d n
     exact z
    have⟨v',h',Q,S,_,_⟩:=pS (ys:=[pe s l[k]]) (x:=.full) (OwnR.app y [.cells (dc (pe s l[k])) .live]) (by simp only[aU,ag,aG,aQ];omega);rw[show(l.take k).map (pe s)++[pe s l[k]]=(l.take (k+1)).map (pe s) by rw[aJ a,br];rfl]at S;rw[J]at I;simp only[aS,bD]at Q;generalize hD:l[k]=d at *;generalize pe s d=p at *;simp[go_sem,j,u,w,<-A,b,g,o,I,Mu,MF,aV,CX,Q,-Int.natCast_add,w2];exact⟨l.length-(k+1),o_,k+1,rfl,a,by simp[go_sem,j,bB],by simp[go_sem,u,binds],g_,by simpa[go_sem]using S,f,K⟩
   rw[if_pos z]at f;have M:=vh s l[k];simp[go_sem,j,u,w,b,g,o,I,Mu,MF,aV,M,z];exact D _ _ (yv s l[k]) (.tok (h.length+1)) g_ g_ (by rw[mY,if_neg (by simp[hv]),if_neg (by simp[q]),if_pos (by rw[<-f];exact z),<-f])
  have:k=l.length:=o_;subst this;rw[ae,Af]at f;rw[ah]at y G;have⟨x,U⟩:=y.isl;have c3:=sK (l.map (pe s)) x (λd n=>by obtain⟨c,V,rfl⟩:=bV.1 n;have⟨z1,z2⟩:=OI (G c V);have:=(E c V).2;exact⟨λt ht=>by have:=z1 t ht;omega,o_,by simp[pe];omega⟩) (by simp;omega)
  have B:mY l s=if cD (l.map (pe s))≠0 then([],cD (l.map (pe s)))else(l.map (pe s),0):=by rw[mY,if_neg (by simp[hv]),if_neg (by simp[q]),if_neg (by simp[<-f])]
  generalize l.map (pe s)=L at *;by_cases z:cD L=0
  ·rw[if_neg (by simp[z])]at B;simp[go_sem,j,w,<-A,U,b,c3,z];exact N ⟨.tuple [.isl (L.map dG) x,.int .i64 0],by simp[aY,dx,cC,f246,go_sem],by rw[B];exact dF rfl rfl s_⟩
  rw[if_pos z]at B;simp[go_sem,j,w,<-A,U,b,c3,z];exact D _ _ _ (.tok h.length) g_ g_ B
 simp[go_sem,bB,binds,O,hv,F,q];exact D _ _ (mR s) (.tok 1) g_ g_ (by rw[mY,if_neg (by simp[hv]),if_pos q])
theorem Oy(l:List Dm) (s:Lb) (x y:Ext) (hv:cD l=0) (hs:small s) (hl:s.length<1000000) (h:H):ak C h (.func 246 []) (some [.isl (l.map dG) x,.isl (s.map bS) y])=some (Ic (mY l s),h):=aX (args':=[bB l,binds s]) rfl rfl s_ (Et l s hv hs hl)
end Go.VZ
