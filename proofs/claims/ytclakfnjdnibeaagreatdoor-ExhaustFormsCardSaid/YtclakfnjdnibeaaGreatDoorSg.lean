/- A part of the proof. -/
import Derived.Test.YtclakfnjdnibeaaGreatDoorSf
set_option maxHeartbeats 8000000
set_option maxRecDepth 16000
namespace Go.VZ
open Go Go.V Go.Proofs Tryz TL
theorem I0{t:T}(h:nU t=true) (hn:t.name=oR):t.kids.length=2:=by have e:uY oR=some ⟨oR,2,2,1⟩:=k_;unfold nU at h;rw[hn,e]at h;simp only[aq,decide_eq_true_eq]at h;omega
theorem sv{id n k:Nat}{cap:Option Nat}(hk:k<n):bP C.P 115 (.msl id 0 1 n cap) (.int .i64 k)=some (.ptr id k):=by simp[bP,Hg,s4,hk]
theorem A2{kn:List Bool}{k:Nat}(hk:k<kn.length):ldM C.P 4 k (some (.cells (dE kn) .live))=some (.bool kn[k]):=by simp[ldM,ae,a4,s4,dE,hk]
theorem DI{u:Lq}{kn:List Bool}(hl:kn.length=u.length){t:T}(ht:t∈u):kn[ixU u t]'(by have:=sF ht;omega)=knT u kn t:=by have:=Bq hl ht;rw[aC (by have:=sF ht;omega)]at this;exact Option.some.inj this
theorem GX(l:List Int) (hl:1<=l.length):∃x,iO C.P 53 (.isl (bU l) .unk) none (some (.int .i64 1)) none=some (.isl (bU (l.take 1)) x):=by
 have b:(1:Int)<=l.length:=o_;have a:iN 1 (bU l)=true:=oE l;simp only[iO,u53,s3,nM,sS];have e:(bU l).length=l.length:=by simp[bU]
 rw[if_pos ⟨o_,by rw[e];omega⟩];dsimp only;rw[a];simp only[fH,am,if_false];split
 ·rename_i q;have:l.length=1:=by rw[e]at q;have:=q.2;omega
  exact⟨.unk,by rw[de o_]⟩
 exact⟨_,by simp[bU,List.map_take];rfl⟩
theorem C0{h0:H}{kid:Nat}{cap:Option Nat}(u:Lq) (ho:IN u) (kn:List Bool) (t:T) (ht:t∈u) (hid:h0[kid]?=some (.cells (dE kn) .live)) (hl:kn.length=u.length) :
  ∃x g,az C h0 (.func 174 []) (some [enc t,jZ u t,.msl kid 0 1 u.length cap])=some (.isl (bU (da u (iS u kn t))) x,h0++g):=by
 suffices hh:∃r v,Go.V.Call C 174 [enc t,jZ u t,.msl kid 0 1 u.length cap] h0=some (r,v)/\∃x,r=.isl (bU (da u (iS u kn t))) x/\Pre h0 v by
  obtain⟨r,v,a,x,rfl,g,rfl⟩:=hh;exact⟨x,g,by rw[jx k_ rfl];exact a⟩
 refine oC rfl func174 rfl k_ (by simp[f174]) λR F=>?_
 have fin:∀(e:Ex) (w:PT) (h:H) (l:Lq) (x:Ext),e=.normal\/e=.ret->w.get 6=.isl (bU (da u l)) x->iS u kn t=l->Pre h0 h->R e w h:=λe w h l x I J hl K=>F _ _ _ I ⟨.isl (bU (da u l)) x,by simp[ag,cG,f174,J],x,by rw[hl],K⟩
 have⟨L,M,D,y⟩:=id ho;have i:=MQ u t;have o:=wR t;have E:=(jD (y t ht)).2;by_cases j:iH t qF=true
 ·have b:iH t ⟨#[112,97,105,114]⟩=true:=j;simp[go_sem,i,o,b];exact fin _ _ _ t.kids .unk (.inr rfl) g_ (by rw[iS,if_pos j]) ((Pre.refl h0).app _)
 have b:iH t ⟨#[112,97,105,114]⟩=false:=iM.2 j;by_cases n:iH t oR=true
 ·have c:iH t ⟨#[115,105,103,110]⟩=true:=n;have⟨N,z⟩:=eE n;have O:=I0 (jq E N).1 z;have⟨x,A⟩:=GX (da u t.kids) (by simp[da,O]);simp[go_sem,i,o,b,c,A];exact fin _ _ _ (t.kids.take 1) x (.inr rfl) (by simp[go_sem,da,List.map_take]) (by rw[iS,if_neg j,if_pos (.inl n)]) ((Pre.refl h0).app _)
 have c:iH t ⟨#[115,105,103,110]⟩=false:=iM.2 n;cases m:qp t with
 |none=>
  have e:sE u t = -1:=by rw[sE,m]
  rw[e]at i;simp +contextual [go_sem,i,o,b,c];exact fin _ _ _ [] _ (.inr rfl) (by simp[go_sem,da,bU];rfl) (by rw[iS,if_neg j,if_neg (by simp[n,m])]) ((Pre.refl h0).app _)
 |some k=>
  have e:sE u t=ixU u k:=by rw[sE,m]
  have p:=K6 ho ht m;have B:=sF p;have q:=sv (id:=kid) (cap:=cap) B;have s:(0:Int)<=ixU u k:=o_;rw[e]at i;have d:=A2 (kn:=kn) (k:=ixU u k) o_;rw[DI hl p]at d;cases f:knT u kn k with
  |true=>rw[f]at d;simp +contextual [go_sem,i,o,b,c,s,q,G (ga hid),d];have⟨x,A⟩:=GX (da u t.kids) (by have:=qI m;have:=yo (jq E this.1).1 this.2;simp[da,this]);simp[go_sem,A];exact fin _ _ _ (t.kids.take 1) x (.inr rfl) (by simp[go_sem,da,List.map_take]) (by rw[iS,if_neg j,if_pos (.inr (by rw[m];simpa using f))]) ((Pre.refl h0).app _)
  |false=>rw[f]at d;simp +contextual [go_sem,i,o,b,c,s,q,G (ga hid),d];exact fin _ _ _ [] _ (.inr rfl) (by simp[go_sem,da,bU];rfl) (by rw[iS,if_neg j,if_neg (by simp[n,m,f])]) ((Pre.refl h0).app _)
theorem P6(wr:Bool) (h:H) (n:Nat) (h0:0<n) (hn:n<=1000000):fg C.P wr h 115 (.int .i64 n) (.int .i64 n)=some (.msl h.length 0 1 n (some n),h++[.cells (dE (List.replicate n false)) .live]):=by
 have a:(n:Int)<=1073741824:=o_;have b:¬n=0:=o_;have e:(List.replicate n [AV.bool false]).flatten=dE (List.replicate n false):=by
  clear h0 hn a b;induction n with
  |zero=>rfl
  |succ n c=>rw[ie,List.flatten_cons,c,ie];rfl
 have d:(AV.bool false).cells=[.bool false]:=rfl;have f:gy C.P 4=some (.bool false):=k_;have g:fe C.P 4=true:=k_;simp[fg,Hg,s4,b4,f,g,a,b,d,e]
theorem GW{kn:List Bool}{k:Nat}(b:Bool) (h:H) (i:Nat) (hk:k<kn.length):stM C.P 4 (.bool b) k h i (some (.cells (dE kn) .live))=some (pt h i (.cells (dE (kn.set k b)) .live)):=by rw[uZ s4 h i k _ _ rfl (by simpa[dE]using hk)];simp[dE,List.map_set]
theorem To(u l:Lq) (k:Nat) (hk:k<l.length):bP C.P 185 (.isl (l.map (jZ u)) .unk) (.int .i64 k)=some (.iptr (jZ u l[k]) 0):=by simp[bP,Qa,Eo,hk,wt]
@[go_sem] theorem Xb (u:Lq) (t:T) (h:H):aX C.P h 189 (.iptr (jZ u t) 0)=some (jZ u t):=by simp[aX,ae,VM,Eo,jZ,aa]
structure MkH (u s:Lq) (kid:Nat) (kn:List Bool) (st:PT) (h:H):Prop where
 map:h[1]?=some (.map (nr (ixM u u.length)))
 row:h[kid]?=some (.cells (dE kn) .live)
 marks:Marks u s kn
 t0:st.get 0=aQ s
 t1:st.get 1=aQ u
 t5:st.get 5=.mp 1
 t7:st.get 7=ID u
 t8:st.get 8=.msl kid 0 1 u.length (some u.length)
theorem Kd{e:TypeId}{h:H}{v:AV}{xs:LA}(o:OwnR e h v xs){i:Nat}{es:List (AV × AV)}(hi:h[i]?=some (.map es)):bj v≠some i:=by
 intro b;rcases o with rfl|⟨a,rfl,c⟩
 ·cases b
 simp only[bj,aA]at b;subst b;rw[c]at hi;cases hi
theorem Aj(u:Lq) (kn:List Bool) (t:T):(iS u kn t).length<=t.kids.length:=by
 unfold iS;split
 ·exact aT _
 split
 ·rw[ac];omega
 simp
def Vq(s u:Lq) (m:Nat) (st:PT) (h:H):Prop:=∃k:Nat,m=u.length-k/\k<=u.length/\h=[.tok 0 39,.map (nr (ixM u k))]/\st.get 0=aQ s/\st.get 1=aQ u/\st.get 5=.mp 1/\st.get 6=.int .i64 k
def Ss(s u:Lq) (kid m:Nat) (st:PT) (h:H):Prop:=∃(k:Nat) (kn:List Bool),m=s.length-k/\k<=s.length/\MkH u s kid kn st h/\st.get 9=.int .i64 k/\∀t∈s.take k,knT u kn t=true
def Sq(s u:Lq) (kid m:Nat) (st:PT) (h:H):Prop:=∃(c:Bool) (kn:List Bool),m=2*mB kn+(if c=true then 1 else 0)/\MkH u s kid kn st h/\st.get 10=.bool c/\(∀t∈s,knT u kn t=true)/\(c=false->∀t∈u,vz u kn t)
def Sv(s u:Lq) (kid:Nat) (kn0:List Bool) (m:Nat) (st:PT) (h:H):Prop:=∃(k:Nat) (c:Bool) (kn:List Bool),m=u.length-k/\k<=u.length/\MkH u s kid kn st h/\st.get 10=.bool c/\st.get 11=.int .i64 k/\(∀t∈s,knT u kn t=true)/\(c=false->kn=kn0/\∀t∈u.take k,vz u kn t)/\(c=true->mB kn<mB kn0)
def GK(s u:Lq) (kid k:Nat) (kn0 kn1:List Bool) (c1:Bool) (ps:Lq) (m:Nat) (st:PT) (h:H):Prop:=∃(j:Nat) (c:Bool) (kn:List Bool) (x:Ext),m=ps.length-j/\j<=ps.length/\MkH u s kid kn st h/\st.get 10=.bool c/\st.get 11=.int .i64 k/\st.get 12=.isl (bU (da u ps)) x/\st.get 13=.int .i64 j/\(∀t∈s,knT u kn t=true)/\(c=false->c1=false/\kn=kn1/\∀t∈ps.take j,knT u kn t=true)/\(c=true->mB kn<mB kn0)
def Vo(s u:Lq) (kid:Nat) (kn:List Bool) (m:Nat) (st:PT) (h:H):Prop:=∃k:Nat,m=u.length-k/\k<=u.length/\MkH u s kid kn st h/\st.get 15=.int .i64 k/\OwnR 39 h (st.get 14) (((u.take k).filter (knT u kn)).map enc)
theorem Marks.start(u s:Lq):Marks u s (List.replicate u.length false):=⟨s_,λt a h=>by have:=sF a;unfold knT at h;rw[bK,List.getElem?_replicate,if_pos this]at h;simp at h⟩
theorem OD(s u:Lq) (ho:IN u) (hu0:0<u.length) (hu:u.length<=100000) (hs:∀t∈s,t∈u) (hsl:s.length<4000000):ay C 112 [aQ s,aQ u]=some (aQ (u.filter λt=>@decide (DrS s t) (Classical.propDecidable _))):=by
 refine gu rfl func112 rfl k_ (by simp[f112]) λR hR=>?_
 have⟨hou,hul,hkid,hv9⟩:=id ho;have ixk:∀(k:Nat) (hk:k<u.length),ixU u u[k]=k:=λk hk=>K7 hou.1 (aC hk)
 simp[go_sem];refine bR (Vq s u) u.length ⟨0,rfl,aO _,rfl,g_,g_,g_,g_⟩ ?_;rintro m st h ⟨k,rfl,hk,rfl,g0,g1,g5,g6⟩;by_cases hlt:k<u.length
 ·have hlt':(k:Int)<u.length:=o_;have hix:=hG u k hlt;have hmem:=aG hlt;have w2:=wS k o_;have cp:=tH u[k] (hou.2 _ hmem).2 (hou.2 _ hmem).1;have up:=upI (h:=[.tok 0 39,.map (nr (ixM u k))]) (q:=1) hou hlt rfl;simp[go_sem,g1,g5,g6,hlt',hix,cp,up,-Int.natCast_add,w2];exact⟨u.length-(k+1),o_,k+1,rfl,hlt,s_,g_,g_,g_,g_⟩
 have:k=u.length:=o_;subst this;have⟨g,hpl⟩:=IE u ho [.tok 0 39,.map (nr (ixM u u.length))] 1 rfl;have mk:=P6 false ([.tok 0 39,.map (nr (ixM u u.length))]++g) u.length hu0 o_;have mk':=mk;simp only[cP,bz]at mk';simp[go_sem,g1,g5,g6,hpl,mk'];obtain⟨kid,ekid⟩:∃n,n=g.length+2:=⟨_,rfl⟩
 have row0:([.tok 0 39,.map (nr (ixM u u.length))]++g++[.cells (dE (List.replicate u.length false)) .live]:H)[kid]?=some (.cells (dE (List.replicate u.length false)) .live):=by rw[ekid,show g.length+2=([.tok 0 39,.map (nr (ixM u u.length))]++g:H).length by simp,aY (aT _)];simp
 refine bR (Ss s u kid) s.length ⟨0,_,rfl,aO _,⟨rfl,row0,.start u s,g_,g_,g_,g_,by simp[go_sem,ekid]⟩,g_,s_⟩ ?_;clear mk mk' row0 hpl g0 g1 g5 g6 hlt hk;rintro m st h ⟨k,kn,rfl,hk,mh,g9,hks⟩;have hkn1:∀ {h:H},h[1]?=some (.map (nr (ixM u u.length)))->∀ {cs st},h[kid]?=some (.cells cs st)->1≠kid:=λe1 _ _ e2 e=>by subst e;rw[e1]at e2;cases e2
 by_cases hlt:k<s.length
 ·have hlt':(k:Int)<s.length:=o_;have hix:=hG s k hlt;have hmem:=hs _ (aG hlt);have w2:=wS k o_;have cp:=tH s[k] (hou.2 _ hmem).2 (hou.2 _ hmem).1;have lk:=lkI hou mh.map hmem;have hil:=sF hmem;have hx:=sv (id:=kid) (cap:=some u.length) hil;have hsb:=GW (kn:=kn) (k:=ixU u s[k]) true h kid (by rw[mh.marks.len];exact hil);simp[go_sem,mh.t0,mh.t5,mh.t8,g9,hlt',hix,cp,lk,hx,G mh.row,hsb,-Int.natCast_add,w2];refine⟨s.length-(k+1),o_,k+1,kn.set (ixU u s[k]) true,rfl,hlt,⟨?_,?_,mh.marks.set hmem (.ax (aG hlt)),by simp[go_sem,mh.t0],by simp[go_sem,mh.t1],by simp[go_sem,mh.t5],by simp[go_sem,mh.t7],by simp[go_sem,mh.t8]⟩,g_,λt ht=>?_⟩
  ·rw[pt,aE (hkn1 mh.map mh.row).symm];exact mh.map
  ·rw[pt];exact aJ (aB.1 mh.row).1
  have htu:t∈u:=hs t (bX ht);rw[uy mh.marks.len hmem htu];rw[aI hlt,aZ,bL]at ht;rcases ht with ht|rfl
  ·rw[hks t ht];simp
  simp
 have:k=s.length:=o_;subst this;rw[ao]at hks;simp[go_sem,mh.t0,g9];refine bR (Sq s u kid) (2*mB kn+1) ⟨true,kn,rfl,⟨mh.map,mh.row,mh.marks,by simp[go_sem,mh.t0],by simp[go_sem,mh.t1],by simp[go_sem,mh.t5],by simp[go_sem,mh.t7],by simp[go_sem,mh.t8]⟩,g_,hks,s_⟩ ?_;clear hks mh g9 hlt hk;rintro m st h ⟨c,kn0,rfl,mh,g10,hks,hcl⟩;cases c with
 |false=>
  have hcl:=hcl rfl;simp[go_sem,g10];refine bR (Vo s u kid kn0) u.length ⟨0,rfl,aO _,⟨ga mh.map,ga mh.row,mh.marks,by simp[go_sem,mh.t0],by simp[go_sem,mh.t1],by simp[go_sem,mh.t5],by simp[go_sem,mh.t7],by simp[go_sem,mh.t8]⟩,g_,.inr ⟨h.length,g_,s_⟩⟩ ?_;have hend:=λt ht=>Ia mh.marks hou.1 hkid (λt ht=>⟨hs t ht,hks t ht⟩) hcl (t:=t) ht
  clear hks mh g10 hcl;rintro m2 st2 h2 ⟨k,rfl,hk,mh,g15,go⟩;obtain⟨v14,e14⟩:∃v,v=st2.get 14:=⟨_,rfl⟩
  rw[<-e14]at go;by_cases hlt:k<u.length
  ·have hlt':(k:Int)<u.length:=o_;have hix:=hG u k hlt;have hmem:=aG hlt;have w2:=wS k o_;have hx:=sv (id:=kid) (cap:=some u.length) hlt;have hlb:=A2 (kn:=kn0) (k:=k) (by rw[mh.marks.len];exact hlt);have hkk:kn0[k]'(by rw[mh.marks.len];exact hlt)=knT u kn0 u[k]:=by rw[<-DI mh.marks.len hmem];congr 1;exact(ixk k hlt).symm
   rw[hkk]at hlb;have hft:(u.take (k+1)).filter (knT u kn0)=(u.take k).filter (knT u kn0)++if knT u kn0 u[k]=true then [u[k]]else []:=by rw[aI hlt,fi];simp only[jA,List.filter_nil]
   have hfl:=cO (knT u kn0) (u.take k);rw[ac]at hfl;cases hq:knT u kn0 u[k]with
   |true=>rw[hq]at hlb hft;have⟨v',h',ha,hov,hkp,_⟩:=dz (ys:=[u[k]]) (x:=.full) go (by simp;omega);rw[if_pos rfl]at hft;rw[<-hft]at hov;simp only[aS,au]at ha;simp[go_sem,mh.t1,mh.t8,g15,hlt',hx,G mh.row,hlb,<-e14,hix,dm,ha,-Int.natCast_add,w2];exact⟨u.length-(k+1),o_,k+1,rfl,hlt,⟨hkp.get mh.map (Kd go mh.map),hkp.get mh.row (cK go mh.row),mh.marks,by simp[go_sem,mh.t0],by simp[go_sem,mh.t1],by simp[go_sem,mh.t5],by simp[go_sem,mh.t7],by simp[go_sem,mh.t8]⟩,g_,by simpa[go_sem]using hov⟩
   |false=>rw[hq]at hlb hft;rw[if_neg s_,cC]at hft;simp[go_sem,mh.t1,mh.t8,g15,hlt',hx,G mh.row,hlb,-Int.natCast_add,w2];exact⟨u.length-(k+1),o_,k+1,rfl,hlt,⟨mh.map,mh.row,mh.marks,by simp[go_sem,mh.t0],by simp[go_sem,mh.t1],by simp[go_sem,mh.t5],by simp[go_sem,mh.t7],by simp[go_sem,mh.t8]⟩,g_,by rw[hft];simpa[go_sem,<-e14]using go⟩
  have:k=u.length:=o_;subst this;rw[ao]at go;have⟨x,hx⟩:=go.isl;simp[go_sem,mh.t1,g15,<-e14,hx];have hfe:(u.filter λt=>@decide (DrS s t) (Classical.propDecidable _))=u.filter (knT u kn0):=by
   refine List.filter_congr λt ht=>?_
   rw[eZ];simp only[decide_eq_true_eq];exact(hend t ht).symm
  rw[hfe]at hR;exact hR _ _ _ (.inr rfl) ⟨.isl ((u.filter (knT u kn0)).map enc) x,by simp[ag,cG,f112,go_sem],aL rfl rfl⟩
 |true=>
  simp[go_sem,g10];refine bR (Sv s u kid kn0) u.length ⟨0,false,kn0,rfl,aO _,⟨mh.map,mh.row,mh.marks,by simp[go_sem,mh.t0],by simp[go_sem,mh.t1],by simp[go_sem,mh.t5],by simp[go_sem,mh.t7],by simp[go_sem,mh.t8]⟩,g_,g_,hks,s_,s_⟩ ?_;clear hks mh g10 hcl;rintro m2 st2 h2 ⟨k,c,kn,rfl,hk,mh,g10,g11,hks,hcF,hcT⟩;by_cases hlt:k<u.length
  ·have hlt':(k:Int)<u.length:=o_;have hix:=hG u k hlt;have hmem:=aG hlt;have w2:=wS k o_;have hx:=sv (id:=kid) (cap:=some u.length) hlt;have hlb:=A2 (kn:=kn) (k:=k) (by rw[mh.marks.len];exact hlt);have hkk:kn[k]'(by rw[mh.marks.len];exact hlt)=knT u kn u[k]:=by rw[<-DI mh.marks.len hmem];congr 1;exact(ixk k hlt).symm
   rw[hkk]at hlb;have cpub:=Ou u[k] (E1 (ee (hou.2 _ hmem).1));have cbu:=JW (cap:=some u.length) u kn u[k] mh.row mh.marks.len o_ (hkid _ hmem) (hou.2 _ hmem).2;have hxp:=To u u k hlt;have hkl:k<kn.length:=by rw[mh.marks.len];exact hlt
   have hsb:=GW (kn:=kn) (k:=k) true h2 kid hkl;have hkidl:=(aB.1 mh.row).1;have hle:mB kn<=mB kn0:=by
    cases c with
    |false=>rw[(hcF rfl).1];exact aT _
    |true=>exact kI (hcT rfl)
   simp +contextual [go_sem,mh.t1,mh.t7,mh.t8,g11,hlt',hx,G mh.row,hlb,hix,cpub,ID,hxp,cbu];refine Ife_iff.2 ⟨λhc=>?A,λhc=>?B⟩
   case' A=>
    obtain⟨kn1,ek⟩:∃q,q=kn.set k true:=⟨_,rfl⟩
    obtain⟨c1,ec⟩:∃q,q=true:=⟨_,rfl⟩
    obtain⟨ps,ep⟩:∃q,q=iS u kn1 u[k]:=⟨_,rfl⟩
    have hpl:ps.length<4000000:=by rw[ep];have:=Aj u kn1 u[k];have:=size_kids u[k];have:=len_sizes u[k].kids;have:=(hou.2 _ hmem).2;omega
    have hd:DrS s u[k]:=by
     rcases hc.2 with h|h
     ·exact .pub h
     exact MM mh.marks h
    have mk1:Marks u s kn1:=by have:=mh.marks.set hmem hd;rw[ixk k hlt]at this;rw[ek];exact this
    have hkt:knT u kn1 u[k]=true:=by have:=uy mh.marks.len hmem hmem;rw[ixk k hlt]at this;rw[ek,this];simp
    have hks1:∀t∈s,knT u kn1 t=true:=λt ht=>by have:=uy mh.marks.len hmem (hs t ht);rw[ixk k hlt]at this;rw[ek,this,hks t ht];simp
    have hT:c1=true->mB kn1<mB kn0:=λ_=>by
     have:kn[k]?=some false:=by rw[aC hkl,hkk,hc.1]
     have:=zF this;rw[ek];omega
    have hle1:mB kn1<=mB kn0:=by exact kI (hT ec)
    have hfin:c1=false->(∀v∈ps,knT u kn1 v=true)->kn1=kn0/\∀t∈u.take (k+1),vz u kn1 t:=λh=>by rw[ec]at h;cases h
    rw[<-ek]at hsb;have row1:(pt h2 kid (.cells (dE kn1) .live))[kid]?=some (.cells (dE kn1) .live):=by rw[pt];exact aJ hkidl
    have map1:(pt h2 kid (.cells (dE kn1) .live))[1]?=some (.map (nr (ixM u u.length))):=by rw[pt,aE (hkn1 mh.map mh.row).symm];exact mh.map
    have hps:∀v∈ps,v∈u/\DrS s v:=λv hv=>by rw[ep]at hv;exact⟨hkid _ hmem v (Ai hv),Ak mk1 hmem hkt hv⟩
    have hlb1:=A2 (kn:=kn1) (k:=k) (by rw[mk1.len];exact hlt);have hkk1:kn1[k]'(by rw[mk1.len];exact hlt)=true:=by rw[<-hkt,<-DI mk1.len hmem];congr 1;exact(ixk k hlt).symm
    rw[hkk1]at hlb1;generalize eh3:pt h2 kid (.cells (dE kn1) .live)=h3 at *;have⟨x,g,cop⟩:=C0 (cap:=some u.length) (h0:=h3++[.tok 0 3]) u ho kn1 u[k] hmem (ga row1) mk1.len;rw[<-ep]at cop;have map2:=ga (g:=g) (ga (g:=[.tok 0 3]) map1);have row2:=ga (g:=g) (ga (g:=[.tok 0 3]) row1);have h10:(AV.bool true)=.bool c1:=by rw[ec]
    simp +contextual [go_sem,mh.t1,mh.t7,mh.t8,g11,hx,G mh.row,hsb,G (ga row1),hlb1,hix,hxp,ID,cop];have hp0:True:=trivial;refine bR (GK s u kid k kn0 kn1 c1 ps) ps.length ⟨0,c1,kn1,x,rfl,aO _,⟨by simpa using map2,by simpa using row2,mk1,by simp[go_sem,mh.t0],by simp[go_sem,mh.t1],by simp[go_sem,mh.t5],by simp[go_sem,mh.t7],by simp[go_sem,mh.t8]⟩,by simp[go_sem,ec],g_,by simp[go_sem],g_,hks1,λh=>⟨h,rfl,s_⟩,hT⟩ ?_
   case' B=>by_cases hkc:knT u kn u[k]=true
   case' pos=>
    obtain⟨kn1,ek⟩:∃q,q=kn:=⟨_,rfl⟩
    obtain⟨c1,ec⟩:∃q,q=c:=⟨_,rfl⟩
    obtain⟨ps,ep⟩:∃q,q=iS u kn1 u[k]:=⟨_,rfl⟩
    have hpl:ps.length<4000000:=by rw[ep];have:=Aj u kn1 u[k];have:=size_kids u[k];have:=len_sizes u[k].kids;have:=(hou.2 _ hmem).2;omega
    have mk1:Marks u s kn1:=by rw[ek];exact mh.marks
    have hks1:∀t∈s,knT u kn1 t=true:=by rw[ek];exact hks
    have hT:c1=true->mB kn1<mB kn0:=by rw[ec,ek];exact hcT
    have hle1:mB kn1<=mB kn0:=by rw[ek];exact hle
    have hfin:c1=false->(∀v∈ps,knT u kn1 v=true)->kn1=kn0/\∀t∈u.take (k+1),vz u kn1 t:=λh hv=>by
     rw[ec]at h;have⟨e1,e2⟩:=hcF h;refine⟨by rw[ek,e1],λt ht=>?_⟩;rw[aI hlt,aZ,bL]at ht;rcases ht with ht|rfl
     ·rw[ek];exact e2 t ht
     refine⟨λq=>?_,λ_ v hm=>hv v (by rw[ep];exact hm)⟩;rw[ek,hkc]at q;cases q
    have hps:∀v∈ps,v∈u/\DrS s v:=λv hv=>by rw[ep]at hv;exact⟨hkid _ hmem v (Ai hv),Ak mk1 hmem (by rw[ek];exact hkc) hv⟩
    rw[hkc]at hlb
    obtain⟨x,g,cop⟩:=C0 (cap:=some u.length) (h0:=h2++[.tok 0 3]) u ho kn1 u[k] hmem (by rw[ek];exact ga mh.row) mk1.len
    rw[<-ep]at cop
    have map2:=ga (g:=g) (ga (g:=[.tok 0 3]) mh.map)
    have row2:=ga (g:=g) (ga (g:=[.tok 0 3]) mh.row)
    rw[<-ek]at row2
    simp +contextual [go_sem,mh.t1,mh.t7,mh.t8,g11,hx,G (ga mh.row),hlb,hix,hxp,ID,cop]
    have hp0:True:=trivial
    refine bR (GK s u kid k kn0 kn1 c1 ps) ps.length ⟨0,c1,kn1,x,rfl,aO _,⟨by simpa using map2,by simpa using row2,mk1,by simp[go_sem,mh.t0],by simp[go_sem,mh.t1],by simp[go_sem,mh.t5],by simp[go_sem,mh.t7],by simp[go_sem,mh.t8]⟩,by simp[go_sem,g10,ec],by simp[go_sem,g11],by simp[go_sem],by simp[go_sem],hks1,λh=>⟨h,rfl,by simp⟩,hT⟩ ?_
   case' neg=>
    obtain⟨kn1,ek⟩:∃q,q=kn:=⟨_,rfl⟩
    obtain⟨c1,ec⟩:∃q,q=c:=⟨_,rfl⟩
    obtain⟨ps,ep⟩:∃q:Lq,q=[]:=⟨_,rfl⟩
    have hpl:ps.length<4000000:=by rw[ep];simp
    obtain⟨x,ex⟩:∃q,q=Ext.tok h2.length:=⟨_,rfl⟩
    have hkc:knT u kn u[k]=false:=by simpa using hkc
    have mk1:Marks u s kn1:=by rw[ek];exact mh.marks
    have hks1:∀t∈s,knT u kn1 t=true:=by rw[ek];exact hks
    have hT:c1=true->mB kn1<mB kn0:=by rw[ec,ek];exact hcT
    have hle1:mB kn1<=mB kn0:=by rw[ek];exact hle
    have hfin:c1=false->(∀v∈ps,knT u kn1 v=true)->kn1=kn0/\∀t∈u.take (k+1),vz u kn1 t:=λh hv=>by
     rw[ec]at h;have⟨e1,e2⟩:=hcF h;refine⟨by rw[ek,e1],λt ht=>?_⟩;rw[aI hlt,aZ,bL]at ht;rcases ht with ht|rfl
     ·rw[ek];exact e2 t ht
     rw[ek];simp only[hkc,true_and,not_or,Bool.not_eq_true]at hc;refine⟨λ_=>hc,λq=>?_⟩;rw[hkc]at q;cases q
    have hps:∀v∈ps,v∈u/\DrS s v:=λv hv=>by rw[ep]at hv;simp at hv
    rw[hkc]at hlb;have map2:=ga (g:=[.tok 0 3]) mh.map;have row2:=ga (g:=[.tok 0 3]) mh.row;rw[<-ek]at row2;simp +contextual [go_sem,mh.t8,g11,hx,G (ga mh.row),hlb];have hp0:AV.isl [] (Ext.tok h2.length)=.isl (bU (da u ps)) x:=by rw[ep,ex];rfl
    refine bR (GK s u kid k kn0 kn1 c1 ps) ps.length ⟨0,c1,kn1,x,rfl,aO _,⟨by simpa using map2,by simpa using row2,mk1,by simp[go_sem,mh.t0],by simp[go_sem,mh.t1],by simp[go_sem,mh.t5],by simp[go_sem,mh.t7],by simp[go_sem,mh.t8]⟩,by simp[go_sem,g10,ec],g_,by simp[go_sem,hp0],g_,hks1,λh=>⟨h,rfl,s_⟩,hT⟩ ?_
   all_goals
    clear hp0;rintro m3 st3 h4 ⟨j,c2,kn2,x2,rfl,hj,mh2,r10,r11,r12,r13,hks2,hF2,hT2⟩;have hli:=DG (da u ps) x2;have hll:(da u ps).length=ps.length:=by simp[da]
    rw[hll]at hli;by_cases hj1:j<ps.length
    ·have hj1':(j:Int)<ps.length:=o_;have hixp:=DQ (da u ps) x2 j o_;have hki:(da u ps)[j]' o_=(ixU u ps[j]:Int):=by simp[da]
     rw[hki]at hixp;have⟨hvu,hvd⟩:=hps _ (aG hj1);have hil:=sF hvu;have hx2:=sv (id:=kid) (cap:=some u.length) hil;have hlb2:=A2 (kn:=kn2) (k:=ixU u ps[j]) (by rw[mh2.marks.len];exact hil);rw[DI mh2.marks.len hvu]at hlb2;have w3:=wS j o_;cases hq:knT u kn2 ps[j]with
     |true=>
      rw[hq]at hlb2;simp[go_sem,mh2.t8,r12,r13,hli,hj1',hixp,hx2,G mh2.row,hlb2,-Int.natCast_add,w3];exact⟨ps.length-(j+1),o_,j+1,c2,kn2,x2,rfl,hj1,⟨mh2.map,mh2.row,mh2.marks,by simp[go_sem,mh2.t0],by simp[go_sem,mh2.t1],by simp[go_sem,mh2.t5],by simp[go_sem,mh2.t7],by simp[go_sem,mh2.t8]⟩,by simp[go_sem,r10],by simp[go_sem,r11],by simp[go_sem,r12],g_,hks2,λh=>by
       have⟨q1,q2,q3⟩:=hF2 h;refine⟨q1,q2,λt ht=>?_⟩;rw[aI hj1,aZ,bL]at ht;rcases ht with ht|rfl
       ·exact q3 t ht
       exact hq,hT2⟩
     |false=>
      rw[hq]at hlb2;have hsb2:=GW (kn:=kn2) (k:=ixU u ps[j]) true h4 kid (by rw[mh2.marks.len];exact hil);have hle2:mB kn2<=mB kn0:=by
       cases e:c2 with
       |false=>
        have⟨q1,q2,_⟩:=hF2 e;rw[q2];cases e1:c1 with
        |true=>rw[q1]at e1;cases e1
        |false=>exact hle1
       |true=>exact kI (hT2 e)
      simp[go_sem,mh2.t8,r12,r13,hli,hj1',hixp,hx2,G mh2.row,hlb2,hsb2,-Int.natCast_add,w3];refine⟨ps.length-(j+1),o_,j+1,true,kn2.set (ixU u ps[j]) true,x2,rfl,hj1,⟨?_,?_,mh2.marks.set hvu hvd,by simp[go_sem,mh2.t0],by simp[go_sem,mh2.t1],by simp[go_sem,mh2.t5],by simp[go_sem,mh2.t7],by simp[go_sem,mh2.t8]⟩,g_,by simp[go_sem,r11],by simp[go_sem,r12],g_,λt ht=>?_,λh=>(by cases h),λ_=>?_⟩
      ·rw[pt,aE (hkn1 mh2.map mh2.row).symm];exact mh2.map
      ·rw[pt];exact aJ (aB.1 mh2.row).1
      ·rw[uy mh2.marks.len hvu (hs t ht),hks2 t ht];simp
      have:=zF (kn:=kn2) (i:=ixU u ps[j]) (by rw[Bq mh2.marks.len hvu,hq]);omega
    have:j=ps.length:=o_;subst this;simp[go_sem,r11,r12,r13,hli,-Int.natCast_add,w2];refine⟨u.length-(k+1),o_,k+1,c2,kn2,rfl,hlt,⟨mh2.map,mh2.row,mh2.marks,by simp[go_sem,mh2.t0],by simp[go_sem,mh2.t1],by simp[go_sem,mh2.t5],by simp[go_sem,mh2.t7],by simp[go_sem,mh2.t8]⟩,by simp[go_sem,r10],g_,hks2,λh=>?_,hT2⟩;have⟨q1,q2,q3⟩:=hF2 h;rw[ao]at q3;rw[q2]at q3 ⊢;exact hfin q1 q3
  have:k=u.length:=o_;subst this;simp[go_sem,mh.t1,g11];rw[ao]at hcF;have mh':MkH u s kid kn ((((st2.set 52 (.int .i64 u.length)).set 53 (aQ u)).set 54 (.int .i64 u.length)).set 55 (.bool false)) h2:=⟨mh.map,mh.row,mh.marks,by simp[go_sem,mh.t0],by simp[go_sem,mh.t1],by simp[go_sem,mh.t5],by simp[go_sem,mh.t7],by simp[go_sem,mh.t8]⟩
  cases c with
  |false=>obtain⟨rfl,hlk⟩:=hcF rfl;exact⟨2*mB kn,o_,false,kn,rfl,mh',g_,hks,λ_=>hlk⟩
  |true=>have:=hcT rfl;exact⟨2*mB kn+1,o_,true,kn,rfl,mh',g_,hks,s_⟩
def Vs(s u:Lq) (m:Nat) (st:PT) (_h:H):Prop:=∃k:Nat,m=u.length-k/\k<=u.length/\st.get 0=aQ s/\st.get 1=aQ u/\st.get 5=.bool true/\st.get 6=.int .i64 k
noncomputable def drB(s:Lq) (t:T):Bool:=@decide (DrS s t) (Classical.propDecidable _)
theorem JJ(s u:Lq) (ho:IN u) (hu0:0<u.length) (hu:u.length<=100000) (hs:∀t∈s,t∈u) (hsl:s.length<4000000) (hn:∀t∈u,nf gF t):ay C 74 [aQ s,aQ u]=some (aQ (u.filter (drB s))):=by
 refine bD func74 rfl λR i=>?_
 simp[go_sem];refine bR (Vs s u) u.length ⟨0,rfl,aO _,g_,g_,g_,g_⟩ ?_;rintro m o h ⟨k,rfl,p,d,e,f,g⟩;by_cases a:k<u.length
 ·have b:(k:Int)<u.length:=o_;have c:=hG u k a;have j:=wS k o_;have l:=AH u[k] (hn _ (aG a));simp +contextual [go_sem,e,f,g,b,c,l,-Int.natCast_add,j];exact⟨u.length-(k+1),o_,k+1,rfl,a,g_,g_,g_,g_⟩
 have:k=u.length:=o_;subst this;have n:∀h,az C h (.func 112 []) (some [aQ s,aQ u])=some (aQ (u.filter (drB s)),h):=λh=>ah rfl rfl s_ (OD s u ho hu0 hu hs hsl)
 simp[go_sem,d,e,f,g,n];exact i ⟨aQ (u.filter (drB s)),by simp[ag,cG,f74,go_sem],aL rfl rfl⟩
theorem E0{y:T}:∀t:T,bc t=0->gh t=0->y∈cU bS t->gh y=0:=by
 refine T.ind λt e c h b=>?_
 rcases mem_walk.1 b with rfl|⟨k,a,b⟩
 ·exact h
 by_cases f:t.kind=3
 ·exact e k a (sY c a) (ru (jq h f).2.2 k a) b
 exfalso;have d:=ee (cT c).1;have:=(qD d).1;rw[qE d o_]at a;simp at a
theorem ER{t y:T}(h:dW t=0) (hy:y∈cU bS t):dW y=0:=by have⟨a,b⟩:=jD h;exact thn_zero.2 ⟨AS t a hy,E0 t a b hy⟩
theorem IM{a:Lq}(hr:fJ a=0) (hl:(ft a).length<=200):IN (ft a):=by
 have f:∀y∈ft a,dW y=0:=λy b=>by have⟨x,c,b⟩:=mem_subsT.1 b;exact ER (tY hr x c).1 b
 refine⟨⟨?_,λt d=>?_⟩,o_,λt d k g=>?_,f⟩
 ·have:=Cp (a.flatMap (cU bS));refine this.imp λh e=>?_
  rw[e]at h;unfold TL.lt at h;rw[cmp_refl]at h;omega
 ·have:=(jD (f t d)).1;exact⟨(cT this).1,by have:=(cT this).2.1;omega⟩
 have⟨x,c,b⟩:=mem_subsT.1 d;exact mem_subsT.2 ⟨x,c,EO x (uR g) b⟩
theorem Og{k:Lq}{t:T}:DrS (mA k) t↔DrS k t:=
 ⟨λh=>qv (λ_x a=>.ax (mem_setS.1 a)) h,λh=>qv (λ_x a=>.ax (mem_setS.2 a)) h⟩
theorem De(k:Lq) (t:T) (hs:sizes (k++[t])<4000000) (hn:∀x∈k++[t],nf gF x):ay C 37 [aQ k,enc t]=some (.tuple [.bool (rU k t).1,.int .i64 (rU k t).2]):=by
 refine bD func37 rfl λR j=>?_
 have c:∀h,az C h (.func 72 []) (some [aQ k,enc t])=_:=CG k .unk t hs hn;by_cases q:xT k t=0
 ·have d:k.length<=60/\xu (k++[t])=0:=by
   rw[G5]at q;split at q
   ·cases q
   exact⟨o_,q⟩
  have l:fJ (k++[t])=0/\(ft (k++[t])).length<=200:=by
   have h:=d.2;unfold xu at h;split at h
   ·rename_i e;exact absurd h e
   rename_i e;split at h
   ·cases h
   exact⟨by simpa using e,o_⟩
  have m:=IM l.1 l.2;have f:t∈ft (k++[t]):=mem_subsT.2 ⟨t,s_,eU t⟩;have b:∀y∈k++[t],y.size<4000000:=λy a=>by have:=mR a;omega
  have n:=xj k .unk (λy a=>b y (by simp[a])) o_;have o:=mq k;have c3:∀h,az C h (.func 74 []) (some [aQ (mA k),aQ (ft (k++[t]))])=some (aQ ((ft (k++[t])).filter (drB (mA k))),h):=λh=>ah rfl rfl s_ (JJ (mA k) _ m (List.length_pos_of_mem f) o_ (λy a=>mem_subsT.2 ⟨y,by simp[mem_setS.1 a],eU y⟩) o_ (λy a=>by have⟨x,p,a⟩:=mem_subsT.1 a;exact Bh x (hn x p) a))
  have r:=cO (drB (mA k)) (ft (k++[t]));have i:=JU ((ft (k++[t])).filter (drB (mA k))) .unk t (λy a=>(m.1.2 y (bm.1 a).1).2) o_ (b t s_);have g:oi ((ft (k++[t])).filter (drB (mA k))) t=drB k t:=by rw[eZ,yc,bm];simp only[drB,decide_eq_true_eq,f,true_and];exact Og
  rw[g]at i;have e:rU k t=(drB k t,0):=by unfold rU;rw[if_neg (by simp[q])];rfl
  rw[if_pos q,q]at c;simp only[aQ]at c n c3 i;generalize ft (k++[t])=u at *;simp[go_sem,aQ,c,n,c3,i];refine j ⟨.tuple [.bool (drB k t),.int .i64 0],by simp[ag,df,cG,f37,go_sem],?_⟩;rw[e];exact cw rfl rfl s_
 rw[if_neg q]at c;have e:rU k t=(false,xT k t):=by unfold rU;rw[if_pos q]
 simp only[aQ]at c;simp[go_sem,aQ,c,q];refine j ⟨.tuple [.bool false,.int .i64 (xT k t)],by simp[ag,df,cG,f37,go_sem],?_⟩;rw[e];exact cw rfl rfl s_
theorem G9(k:Lq) (x:Ext) (t:T) (hs:sizes (k++[t])<4000000) (hn:∀x∈k++[t],nf gF x) (h:H):az C h (.func 37 []) (some [.isl (k.map enc) x,enc t])=some (.tuple [.bool (rU k t).1,.int .i64 (rU k t).2],h):=
 ah (args':=[aQ k,enc t]) (by rw[bJ];rfl) (by rw[bJ];rfl) s_ (De k t hs hn)
end Go.VZ
namespace Go.V
open Go
theorem uM{P:Program}{t e:TypeId}{sz by_:Nat}(hu:P.underlying t=some (.slice e)) (hs:cS P e=some sz) (hb:gl P e=some by_) (hz:fe P e=true) (h0:(sz==0)=false)
  {h:H}{id:Nat}{xs ys:LA}{x:Ext}(hid:h[id]?=some (.tok xs.length e)) (hx:iN sz xs=true) (hy:iN sz ys=true) (hl:(xs.length+ys.length)*(by_+1)<=35184372088832) :
  cL P false h t (.isl xs (.tok id)) (.isl ys x)=some (.isl (xs++ys) (.tok id),h.set id (.tok (xs.length+ys.length) e)):=by
 have b:(!fe P e||sz==0 || !iN sz ys)=false:=by simp[hz,h0,hy]
 have a:(!decide ((xs.length+ys.length)*(by_+1)<=35184372088832))=false:=by simp[hl]
 have e:cL P false h t (.isl xs (.tok id)) (.isl ys x)=dy P h t (.isl xs (.tok id)) (.isl ys x):=gZ _ _ _ _ _;rw[e];simp only[dy,hu,hs,hb,km,b,hx,a,fH,am,if_false,hid,and_self,if_true]
end Go.V
namespace Go.VZ
open Go Go.V Go.Proofs Tryz TL
theorem oT{es:LA}{t n k:Nat}(h:t<n):(AV.isl es (.tok t)).mv n k=.isl es (.tok t):=by simp only[AV.mv];rw[if_neg o_]
theorem MY{h:H}{id:Nat}{xs ys:Lq}{x:Ext}(hid:h[id]?=some (.tok xs.length 39)) (hl:xs.length+ys.length<=100000000000) :
  cL C.P false h 37 (.isl (xs.map enc) (.tok id)) (.isl (ys.map enc) x)=some (.isl ((xs++ys).map enc) (.tok id),h.set id (.tok (xs++ys).length 39)):=by
 have:=uM (x:=x) (xs:=xs.map enc) (ys:=ys.map enc) u23 s25 b25 z25 rfl (by simpa using hid) (uX xs) (uX ys) (by simp only[aU];omega);rw[this,bY];simp
def Py(l:List Dm) (m:Nat) (st:PT) (h:H):Prop:=∃(k id:Nat),m=l.length-k/\k<=l.length/\st.get 0=bF l/\st.get 4=.int .i64 k/\st.get 3=.isl ((bE (l.take k)).map enc) (.tok id)/\h[id]?=some (.tok (bE (l.take k)).length 39)
theorem Ce{l:List Dm}{k:Nat}(hk:k<l.length):bE (l.take (k+1))=(bE (l.take k)++l[k].knows)++[l[k].term]:=by rw[aI hk,bE,ig];simp[bE]
theorem EX(l:List Dm):(bE l).length<=(l.map λd=>d.knows.length+1).sum:=by
 induction l with
 |nil=>simp[bE]
 |cons d l a=>simp only[bE,cD,aK,aS,gb,aF,aP]at a ⊢;omega
theorem Ig{l:List Dm}(hs:∀d∈l,d.knows.length<=1000):(l.map λd=>d.knows.length+1).sum<=1001*l.length:=by
 induction l with
 |nil=>simp
 |cons d l a=>
  have c:=hs d s_;have e:=a λx b=>hs x (by simp[b])
  simp only[aS,gb,aF];omega
theorem NG(l:List Dm) (hs:∀d∈l,d.knows.length<=1000) (hl:l.length<=10000):ay C 16 [bF l]=some (aQ (bE l)):=by
 refine bD func16 rfl λR K=>?_
 have p:=qo l;simp[go_sem];refine bR (Py l) l.length ⟨0,1,rfl,aO _,g_,g_,by simp[go_sem,bE],by simp[bE]⟩ ?_;rintro m F h ⟨k,id,rfl,hk,v,q,o,r⟩;by_cases f:k<l.length
 ·have s:(k:Int)<l.length:=o_;have t:=sH l k f;have L:=wS k o_;have y:=Ce f;have M:=EX (l.take k);have z:=Ig (l:=l.take k) λd N=>hs d (bX N)
  have O:=hs _ (aG f);rw[ac]at z;have G:=(aB.1 r).1;simp[go_sem,v,q,p,s];refine xn 5 _ (by rw[fu];decide) k_ ?_;show MX C 16 _ h.length _ 0 _ _ _ _;generalize u:h++List.replicate _ VObj.void=H0;have e:Pl h H0 15:=u▸Pl.mk' _ 15;have I:=e.len;clear u;have Q:=e.get r;refine bd (F.get 3) rfl rfl (e.isV (i:=0) d_) (by simp[opN,go_sem]) (by rw[o];exact oT o_) ?_;refine bd (bF l) rfl rfl (e.isV (i:=1) d_) (by simp[opN,go_sem,v]) rfl ?_;refine bd (.int .i64 k) rfl rfl (e.isV (i:=2) d_) (by simp[opN,go_sem,q]) rfl ?_;refine bd (.iptr (cz l[k]) 0) rfl rfl (e.isV (i:=3) d_) (by simp[opN,go_sem,t]) rfl ?_;refine bd (.iptr (cz l[k]) 0) rfl rfl (e.isV (i:=4) d_) (by simp[opN,go_sem]) rfl ?_;refine eP (.iptr (cz l[k]) 0) (aQ l[k].knows) g_ (uw _ _) rfl (e.isV (i:=5) d_) rfl ?_;have S:=MY (ys:=l[k].knows) (x:=.unk) Q o_;obtain⟨j,a⟩:∃g,g=H0.set id (VObj.mv H0.length (h.length+6) (.tok (bE (l.take k)++l[k].knows).length 39)):=⟨_,rfl⟩
  refine tL (F.get 3) (aQ l[k].knows) _ _ j g_ g_ (by rw[o];exact S) s_ (by rw[o];simp[dB,lN,aQ];omega) (e.isV (i:=6) d_) (by rw[a,o];exact tB o_) ?_;rw[oT o_];have U:j[id]?=some (.tok (bE (l.take k)++l[k].knows).length 39):=by rw[a];exact aJ o_
  have n:∀i,i<15->dX j[h.length+i]?=true:=λi B=>by rw[a,aE o_];exact e.isV B
  have V:j.length=H0.length:=by rw[a];simp
  clear a;refine bd (bF l) rfl rfl (n 7 d_) (by simp[opN,go_sem,v]) rfl ?_;refine bd (.int .i64 k) rfl rfl (n 8 d_) (by simp[opN,go_sem,q]) rfl ?_;refine bd (.iptr (cz l[k]) 0) rfl rfl (n 9 d_) (by simp[opN,go_sem,t]) rfl ?_;refine bd (.iptr (cz l[k]) 1) rfl rfl (n 10 d_) (by simp[opN,go_sem]) rfl ?_;refine eP (.iptr (cz l[k]) 1) (enc l[k].term) g_ (Az _ _) rfl (n 11 d_) (fV _ _ _) ?_;refine vX (parts:=[(0,.tmp 22)]) [(0,enc l[k].term)] (.isl [enc l[k].term] .full) (Ey g_ (iD _)) (by rw[bJ];rfl) (dm _ _) (n 12 d_) ?_;have D:=MY (ys:=[l[k].term]) (x:=.full) U (by simp only[aK,aF,aP];omega);rw[<-y]at D;simp only[aS,au]at D;generalize eA:(bE (l.take k)++l[k].knows)=A at *;rw[show(AV.isl [enc l[k].term] .full).mv j.length (h.length+12)=.isl [enc l[k].term] .full from rfl];obtain⟨w,c⟩:∃g,g=j.set id (VObj.mv j.length (h.length+13) (.tok (bE (l.take (k+1))).length 39)):=⟨_,rfl⟩
  refine tL (.isl (A.map enc) (.tok id)) (.isl [enc l[k].term] .full) _ _ w g_ g_ D s_ (by simp[dB,lN];omega) (n 13 d_) (by rw[c];exact tB o_) ?_;rw[oT o_];have X:w[id]?=some (.tok (bE (l.take (k+1))).length 39):=by rw[c];exact aJ o_
  have Y:∀i,i<15->dX w[h.length+i]?=true:=λi B=>by rw[c,aE o_];exact n i B
  have Z:w.length=j.length:=by rw[c];simp
  clear c;refine bd (.isl ((bE (l.take (k+1))).map enc) (.tok id)) rfl rfl (Y 14 d_) (by simp[opN,go_sem]) (oT o_) ?_;refine⟨?_,?_⟩
  ·unfold tR;generalize J:Region.before _=b;have E:(b.getD 13 0).testBit 6=true:=by rw[<-J];kernel_rfl
   clear J;rw[o];simp[nw,tQ,dB,lN,aQ,List.range,List.range.loop];refine⟨?_,?_⟩
   ·exact .inl ⟨o_,o_⟩
   exact⟨by simpa[ar]using E,.inl ⟨o_,o_⟩⟩
  simp[go_sem,q,-Int.natCast_add,L];exact⟨l.length-(k+1),o_,k+1,id,rfl,f,g_,g_,g_,X⟩
 have:k=l.length:=o_;subst this;rw[ao]at o;simp[go_sem,v,o,q,p];exact K ⟨.isl ((bE l).map enc) (.tok id),by simp[ag,cG,f16,go_sem],aL rfl rfl⟩
theorem qN(l:List Dm) (x:Ext) (hs:∀d∈l,d.knows.length<=1000) (hl:l.length<=10000) (h:H):az C h (.func 16 []) (some [.isl (l.map cz) x])=some (aQ (bE l),h):=ah (args':=[bF l]) rfl rfl s_ (NG l hs hl)
def zA(n:Nat):ByteArray:=bs (lH n)
theorem zB:∀(n:Nat),(lH n).length<=n+1:=by
 intro n;induction n using Nat.strongRecOn with
 |ind n a=>
  rw[ny];split
  ·simp
  have:=a (n/10) o_;simp;omega
theorem T7(n:Nat) (hn:n<100000000) (y z:Operand):jC C.P .quo 3 y z (.int .i64 n) (.int .i64 10)=some (.int .i64 (n/10:Nat)):=by have e:jC C.P .quo 3 y z (.int .i64 (n:Int)) (.int .i64 10)=some (.int .i64 (IntKind.i64.wrap ((n:Int).tdiv 10))):=k_;rw[e,av (by rw[Int.tdiv_eq_ediv_of_nonneg o_];omega)];congr 2
theorem T6(n:Nat) (_hn:n<100000000) (y z:Operand):jC C.P .rem 3 y z (.int .i64 n) (.int .i64 10)=some (.int .i64 (n%10:Nat)):=by have e:jC C.P .rem 3 y z (.int .i64 (n:Int)) (.int .i64 10)=some (.int .i64 ((n:Int).tmod 10)):=k_;rw[e];congr 2
theorem I7:∀(n:Nat),n<100000000->ay C 38 [.int .i64 n]=some (.str (zA n)):=by
 intro n;induction n using Nat.strongRecOn with
 |ind n m=>
  intro g;refine bD func38 rfl λR j=>?_
  by_cases b:n<10
  ·have a:(n:Int)<10:=o_;have d:IntKind.i64.wrap (48+(n:Int))=((48+n:Nat):Int):=by rw[av o_];omega
   have e:=cvb (48+n) o_;have f:=Lv (48+n);simp[go_sem,a,-Int.natCast_add,d,e,BH,f];refine j ⟨.str (zA n),?_,aL rfl rfl⟩;rw[zA,ny,if_pos b];simp[ag,cG,f38,go_sem]
  have a:¬(n:Int)<10:=o_;have o:∀h,az C h (.func 38 []) (some [.int .i64 ((n/10:Nat):Int)])=some (.str (zA (n/10)),h):=λh=>ah rfl rfl s_ (m (n/10) o_ o_)
  have d:IntKind.i64.wrap (48+((n%10:Nat):Int))=((48+n%10:Nat):Int):=by rw[av o_];omega
  have e:=cvb (48+n%10) o_;have f:=Lv (48+n%10);have s:=zB (n/10);have l:=λx y=>xK x y (lH (n/10)) [UInt8.ofNat (48+n%10)] (by simp only[aF,aP];omega)
  have p:lH n=lH (n/10)++[UInt8.ofNat (48+n%10)]:=by rw[ny,if_neg b]
  rw[<-p]at l;generalize t:[UInt8.ofNat (48+n%10)]=B at *;simp[go_sem,a];refine xn 3 _ (by rw[fu];decide) k_ ?_;show MX C 38 _ 0 _ 0 _ _ _ _;generalize c:([]++List.replicate _ VObj.void:H)=H0;have q:Pl [] H0 11:=c▸Pl.mk' _ 11;clear c;have v:∀i,i<11->dX H0[0+i]?=true:=λi r=>q.isV r
  have u:∀(k:Int) i,(AV.int .i64 k).mv H0.length (0+i)=.int .i64 k:=λ_ _=>rfl
  refine bd (.int .i64 n) rfl rfl (v 0 d_) (by simp[opN,go_sem]) rfl ?_;refine bd (.int .i64 (n/10:Nat)) rfl rfl (v 1 d_) (by simp only[opN];simp[go_sem];exact T7 n g _ _) rfl ?_;refine Mv (args:=[.tmp 11]) [.int .i64 (n/10:Nat)] (.str (zA (n/10))) k_ (.inl rfl) g_ rfl (o _) (v 2 d_) ?_;refine bd (.int .i64 n) rfl rfl (v 3 d_) (by simp[opN,go_sem]) rfl ?_;refine bd (.int .i64 (n%10:Nat)) rfl rfl (v 4 d_) (by simp only[opN];simp[go_sem];exact T6 n g _ _) rfl ?_;refine bd (.int .i64 (48+n%10:Nat)) rfl rfl (v 5 d_) (by simp only[opN];simp[go_sem,-Int.natCast_add,-Int.natCast_emod];exact d) rfl ?_;refine bd (.int .u8 (48+n%10:Nat)) rfl rfl (v 6 d_) (by simp only[opN];simp[go_sem,-Int.natCast_add,-Int.natCast_emod];exact e) rfl ?_;refine vX (parts:=[(0,.tmp 16)]) [(0,.int .u8 (48+n%10:Nat))] (.isl [.int .u8 (48+n%10:Nat)] .full) (Ey g_ rfl) rfl (BH _ _) (v 7 d_) ?_;refine bd (.str (bs B)) rfl rfl (v 8 d_) (by simp only[opN];simp[go_sem,AV.mv,-Int.natCast_add,-Int.natCast_emod];exact f) rfl ?_;refine bd (.str (zA n)) rfl rfl (v 9 d_) (by simp only[opN];simp[go_sem,AV.mv];exact l _ _) rfl ?_;refine bd (.str (zA n)) rfl rfl (v 10 d_) (by simp[opN,go_sem]) rfl ?_;refine⟨k_,?_⟩;simp[go_sem];exact j ⟨.str (zA n),by simp[ag,cG,f38,go_sem],aL rfl rfl⟩
theorem zR(n:Nat) (hn:n<100000000) (h:H):az C h (.func 38 []) (some [.int .i64 n])=some (.str (zA n),h):=ah rfl rfl s_ (I7 n hn)
end Go.VZ
namespace Go.VZ
open Go Go.V Go.Proofs Tryz TL
attribute [go_sem] nq
theorem PR(n:ByteArray) (s:Int):fZ C.P 39 [(0,.int .i64 2),(1,.str n),(2,.int .i64 s)]=some (.agg [.int .i64 2,.str n,.int .i64 s,.isl [] .full]):=k_
theorem Sa(n:ByteArray) (s:Int):ay C 25 [.str n,.int .i64 s]=some (enc (.mk 2 n s [])):=by
 refine bD func25 rfl λR a=>?_
 simp[go_sem,lw,aa,PR];exact a ⟨.agg [.int .i64 2,.str n,.int .i64 s,.isl [] .full],by simp[ag,cG,f25,go_sem],sd _ 2 s n [] .full⟩
theorem Dz(n:ByteArray) (s:Int) (h:H):az C h (.func 25 []) (some [.str n,.int .i64 s])=some (enc (.mk 2 n s []),h):=ah rfl rfl s_ (Sa n s)
theorem MU(t:T) (hs:t.size<4000000):ay C 243 [enc t]=some (aQ (fh t)):=by
 refine bD func243 rfl λR a=>?_
 have b:=HE t 2 hs;simp[go_sem,aQ,b];exact a ⟨aQ (fh t),by simp[ag,cG,f243,go_sem,fh,aQ],aL rfl rfl⟩
theorem Dy(t:T) (hs:t.size<4000000) (h:H):az C h (.func 243 []) (some [enc t])=some (aQ (fh t),h):=ah (dC _) (by simp[aw]) s_ (MU t hs)
def kS(vars:Lq) (k:Nat) (s:Int):Nat:=((vars.take k).filter λv=>decide (v.sort=s)).length
def pD(vars:Lq) (i:Nat):T × T:=((vars.getD i zT),yV (kS vars i (vars.getD i zT).sort) (vars.getD i zT).sort)
def Cz(vars:Lq):Lb:=(List.range vars.length).map (pD vars)
def Vh(vars:Lq) (m:Nat) (st:PT) (h:H):Prop:=∃k:Nat,m=vars.length-k/\k<=vars.length/\st.get 0=aQ vars/\st.get 4=.int .i64 k/\OwnR 84 h (st.get 3) (((List.range k).map (pD vars)).map bN)
def St(vars:Lq) (k:Nat) (v3:AV) (h0:H) (m:Nat) (st:PT) (h:H):Prop:=∃j:Nat,m=k-j/\j<=k/\h=h0/\st.get 0=aQ vars/\st.get 3=v3/\st.get 4=.int .i64 k/\st.get 6=.int .i64 j/\st.get 5=.int .i64 (kS vars j (vars.getD k zT).sort)
theorem E3{vars:Lq}{k:Nat}(hk:k<vars.length) (s:Int):kS vars (k+1) s=kS vars k s+if vars[k].sort=s then 1 else 0:=by
 unfold kS;rw[aI hk,fi,aK];congr 1
 by_cases h:vars[k].sort=s<;>simp[h]
theorem DD(vars:Lq) (k:Nat) (s:Int):kS vars k s<=k:=by unfold kS;have:=cO (λv:T=>decide (v.sort=s)) (vars.take k);rw[ac]at this;omega
theorem UB(vars:Lq) (hl:vars.length<1000000):ay C 51 [aQ vars]=some (binds (Cz vars)):=by
 refine bD func51 rfl λR K=>?_
 simp[go_sem,UZ];refine bR (Vh vars) vars.length ⟨0,rfl,aO _,g_,g_,.inr ⟨1,g_,s_⟩⟩ ?_;rintro m L h ⟨k,rfl,hk,D,E,s⟩;obtain⟨M,t⟩:∃v,v=L.get 3:=⟨_,rfl⟩
 rw[<-t]at s;by_cases e:k<vars.length
 ·have n:(k:Int)<vars.length:=o_;have f:=hG vars k e;have a:vars.getD k zT=vars[k]:=by simp[e]
  have N:=wS k o_;simp[go_sem,D,E,n];refine bR (St vars k M h) k ⟨0,rfl,aO _,rfl,g_,by simp[go_sem,t],g_,g_,by simp[go_sem,kS]⟩ ?_;rintro m2 O Q ⟨j,rfl,hj,rfl,g,u,i,w,l⟩;by_cases o:j<k
  ·have c:(j:Int)<k:=o_;have d:=hG vars j o_;have F:=wS j o_;have p:=DD vars j (vars.getD k zT).sort;have b:=E3 (vars:=vars) (k:=j) o_ (vars.getD k zT).sort;rw[a]at b p l;have S:IntKind.i64.wrap ((kS vars j vars[k].sort:Int)+1)=((kS vars j vars[k].sort+1:Nat):Int):=by rw[av o_];omega
   by_cases q:vars[j].sort=vars[k].sort
   ·rw[if_pos q]at b;simp[go_sem,g,i,l,w,c,f,d,q,-Int.natCast_add,F,S];exact⟨k-(j+1),o_,j+1,rfl,o,rfl,by simp[go_sem,g],by simp[go_sem,u],by simp[go_sem,i],g_,by rw[a,b];simp[go_sem]⟩
   rw[if_neg q]at b;simp[go_sem,g,i,w,c,f,d,q,-Int.natCast_add,F];exact⟨k-(j+1),o_,j+1,rfl,o,rfl,by simp[go_sem,g],by simp[go_sem,u],by simp[go_sem,i],g_,by rw[a,b];simp[go_sem,l]⟩
  have:j=k:=o_;subst this;have p:=DD vars j (vars.getD j zT).sort;have z:=zR (kS vars j (vars.getD j zT).sort) o_;have G:=λx y=>xK x y [101,35] (lH (kS vars j (vars.getD j zT).sort)) (by have:=zB (kS vars j (vars.getD j zT).sort);simp only[aF,aP];omega)
  rw[a]at z G l;have U:(⟨#[101,35]⟩:ByteArray)=bs [101,35]:=rfl;have I:=Dz (bs ([101,35]++lH (kS vars j vars[j].sort))) vars[j].sort;have V:T.mk 2 (bs ([101,35]++lH (kS vars j vars[j].sort))) vars[j].sort []=yV (kS vars j vars[j].sort) vars[j].sort:=rfl;rw[V]at I;have⟨v',h',J,r,X,_⟩:=jb (ys:=[pD vars j]) (x:=.full) s (by simp;omega);have A:pD vars j=(vars[j],yV (kS vars j vars[j].sort) vars[j].sort):=by rw[pD,a]
  rw[show(List.range j).map (pD vars)++[pD vars j]=(List.range (j+1)).map (pD vars) by rw[List.range_succ,bY];rfl]at r;rw[aS,au,A]at J;have Y:=th vars[j] (yV (kS vars j vars[j].sort) vars[j].sort);have Z:=eV Q (vars[j],yV (kS vars j vars[j].sort) vars[j].sort);simp only[zA]at z;simp[go_sem,i,w];refine gJ 11 _ (by simp[fu]) rfl ?_;generalize ([101,35]++lH (kS vars j vars[j].sort))=B at *;simp[go_sem,g,u,i,l,f,z,U,G,I,Y,Z,J,-Int.natCast_add,N];refine⟨by simp[go_sem,ip,iF,iI,kK,er,dB];try trivial,vars.length-(j+1),o_,j+1,rfl,e,by simp[go_sem,g],g_,by simpa[go_sem]using r⟩
 have:k=vars.length:=o_;subst this;have⟨x,hx⟩:=s.isl;simp[go_sem,D,E,<-t,hx];exact K ⟨.isl ((Cz vars).map bN) x,by simp[ag,cG,f51,go_sem,Cz],aL rfl rfl⟩
theorem NB:C.P.underlying 197=some (.slice 9):=underlying197
theorem Ub:iG C.P 197=some 9:=k_
theorem b9:gl C.P 9=some 16:=k_
theorem z9:fe C.P 9=true:=k_
attribute [go_sem] Ub
def fS(l:List ByteArray):LA:=l.map AV.str
theorem AX(l:List ByteArray):iN 1 (fS l)=true:=by cases l<;>rfl
theorem BL{h:H}{v:AV}{xs ys:List ByteArray}{x:Ext}(o:OwnR 9 h v (fS xs)) (hl:xs.length+ys.length<=100000000000) :
  ∃v' h',cL C.P false h 197 v (.isl (fS ys) x)=some (v',h')/\OwnR 9 h' v' (fS (xs++ys))/\Keep h h' (bj v)/\(bj v'=bj v\/bj v=none/\bj v'=some h.length):=by
 have:=jS (x:=x) NB s9 b9 z9 rfl o (AX xs) (AX ys) (by simp only[fS,aU];omega);rwa[show fS xs++fS ys=fS (xs++ys) by simp[fS]]at this
theorem zV(h:H) (n:ByteArray):cQ C.P h 197 1 [(0,.str n)]=some (.isl [.str n] .full,h):=cW NB s9 z9 rfl o_ rfl rfl rfl s_ rfl
theorem Kx(l:List ByteArray) (x:Ext):fW C.P 197 (.isl (fS l) x)=some (.int .i64 l.length):=by simp[fW,NB,fS]
theorem LL(l:List ByteArray) (x:Ext) (k:Nat) (hk:k<l.length):bP C.P 197 (.isl (fS l) x) (.int .i64 k)=some (.iptr (.str l[k]) 0):=by have:(AV.str l[k]).cells.length=1:=rfl;simp[bP,NB,s9,fS,hk,this]
@[go_sem] theorem Yx (n:ByteArray) (h:H):aX C.P h 9 (.iptr (.str n) 0)=some (.str n):=by have:(AV.str n).cells=[.str n]:=rfl;simp[aX,ae,a9,s9,this]
theorem Xq(s:ByteArray):decide (s.extract 0 3=⟨#[118,35,35]⟩)=decide (s.data.toList.take 3=[118,35,35]):=by
 have:s.extract 0 3=⟨(s.data.toList.take 3).toArray⟩:=by apply ByteArray.ext;simp only[lp];apply Array.toList_inj.1;simp
 rw[this,eZ];simp
def uS(t:T) (j:Nat):List ByteArray:=(((fh t).take j).filter λa=>xP a.name).map T.name
theorem ES{ts:Lq}{k:Nat}(hk:k<ts.length):ji (ts.take (k+1))=ji (ts.take k)++uS ts[k] (fh ts[k]).length:=by rw[aI hk,ji,ji,ig];simp[uS]
theorem ET{t:T}{j:Nat}(hj:j<(fh t).length):uS t (j+1)=uS t j++if xP (fh t)[j].name=true then [(fh t)[j].name]else []:=by
 unfold uS;rw[aI hj,fi,bY];by_cases h:xP (fh t)[j].name=true
 ·simp[h]
 simp[h]
theorem Hc(t:T) (j:Nat):(uS t j).length<=j:=by unfold uS;rw[aU];have:=cO (λa:T=>xP a.name) ((fh t).take j);rw[ac]at this;omega
theorem BK(t:T):(fh t).length<=t.size:=by have a:=mq ((cU bS t).filter (isK 2));have b:=cO (isK 2) (cU bS t);have c:=kB bS jI t;unfold fh;omega
theorem vc:∀ts:Lq,(ji ts).length<=sizes ts
 |[]=>by simp[ji]
 |t::ts=>by have h1:=vc ts;have b:=cO (λa:T=>xP a.name) (fh t);have c:=BK t;rw[ji,cD,aK,aU,sizes];unfold ji at h1;omega
def Vj(ts:Lq) (c:Int) (m:Nat) (st:PT) (h:H):Prop:=∃k:Nat,m=ts.length-k/\k<=ts.length/\st.get 0=aQ ts/\st.get 1=.int .i64 c/\st.get 6=.int .i64 k/\OwnR 9 h (st.get 5) (fS (ji (ts.take k)))
def V1(ts:Lq) (c:Int) (k:Nat) (t:T) (m:Nat) (st:PT) (h:H):Prop:=∃j:Nat,m=(fh t).length-j/\j<=(fh t).length/\st.get 0=aQ ts/\st.get 1=.int .i64 c/\st.get 6=.int .i64 k/\st.get 7=aQ (fh t)/\st.get 8=.int .i64 j/\OwnR 9 h (st.get 5) (fS (ji (ts.take k)++uS t j))
def Vg(used:List ByteArray) (x5:Ext) (c F:Nat) (all:List Nat) (m:Nat) (st:PT) (h:H):Prop:=∃(n:Nat) (ns:List Nat),n+m=F/\all=ns++fb used m n (c-ns.length)/\ns.length<=c/\st.get 1=.int .i64 c/\st.get 5=.isl (fS used) x5/\st.get 10=.int .i64 n/\OwnR 9 h (st.get 9) (fS (ns.map λn=>(gx n).name))
def Ve(used:List ByteArray) (x5:Ext) (c n:Nat) (v9:AV) (nm:ByteArray) (h0:H) (m:Nat) (st:PT) (h:H):Prop:=∃j:Nat,m=used.length-j/\j<=used.length/\h=h0/\st.get 1=.int .i64 c/\st.get 5=.isl (fS used) x5/\st.get 9=v9/\st.get 10=.int .i64 n/\st.get 11=.str nm/\st.get 13=.int .i64 j/\st.get 12=.bool (!inN nm (used.take j))
theorem LG{l:List ByteArray}{j:Nat}(hj:j<l.length) (nm:ByteArray):inN nm (l.take (j+1))=(inN nm (l.take j)||decide (l[j]=nm)):=by rw[aI hj,inN,List.any_append];simp[inN]
theorem Hd(ts:Lq) (c:Nat) (hs:sizes ts<4000000) (hc:c<4000000):ay C 186 [aQ ts,.int .i64 c]=some (.isl (fS ((lM ts c).map λn=>(gx n).name)) .unk):=by
 refine gu rfl func186 rfl k_ (by simp[f186]) λR hR=>?_
 have q8:=len_sizes ts;simp[go_sem];refine bR (Vj ts c) ts.length ⟨0,rfl,aO _,g_,g_,g_,.inr ⟨1,by simp[go_sem,ji,fS],by simp[ji,fS]⟩⟩ ?_;rintro m st h ⟨k,rfl,hk,g0,Y,g6,i⟩;by_cases r:k<ts.length
 ·have e:(k:Int)<ts.length:=o_;have q':=hG ts k r;have I:=aG r;have q0:ts[k].size<4000000:=by have:=mR I;omega
  have Z:=wS k o_;have ca:=Dy ts[k] q0;have b:=BK ts[k];have q1:=vc (ts.take k);have q9:=take_sizes_le ts k;simp[go_sem,g0,g6,e,q',ca];refine bR (V1 ts c k ts[k]) (fh ts[k]).length ⟨0,rfl,aO _,g_,g_,g_,g_,g_,by simpa[go_sem,uS]using i⟩ ?_;rintro m2 J h2 ⟨j,rfl,hj,r0,w,r6,z,r8,i⟩;obtain⟨v5,K⟩:∃v,v=J.get 5:=⟨_,rfl⟩
  rw[<-K]at i;by_cases d:j<(fh ts[k]).length
  ·have f:(j:Int)<(fh ts[k]).length:=o_;have g:=hG (fh ts[k]) j d;have L:=wS j o_;have o:=ET d;have z':=Hc ts[k] j;generalize z0:(fh ts[k])[j]=a at *;have A:=mr a.name;by_cases q3:3<a.name.size
   ·have u:(3:Int)<a.name.size:=o_;have M:iO C.P 9 (.str a.name) none (some (.int .i64 3)) none=some (.str (a.name.extract 0 3)):=by have:(3:Int)<=a.name.size:=o_;simp[iO,show C.P.underlying 9=some .string from underlying9,nM,sS,this]
    have hx:=Xq a.name;have p:xP a.name=decide (a.name.extract 0 3=⟨#[118,35,35]⟩):=by rw[hx,xP,decide_eq_true q3];simp
    cases hb:decide (a.name.extract 0 3=⟨#[118,35,35]⟩)with
    |true=>rw[hb]at p;rw[if_pos p]at o;have⟨v',h',N,s,q2,_⟩:=BL (ys:=[a.name]) (x:=.full) i (by simp only[aK,aF,aP];omega);rw[dD,<-o]at s;simp only[fS,aS,au]at N;simp[go_sem,z,r8,f,g,A,u,M,fM,hb,<-K,zV,N,-Int.natCast_add,L];exact⟨(fh ts[k]).length-(j+1),o_,j+1,rfl,d,by simp[go_sem,r0],by simp[go_sem,w],by simp[go_sem,r6],by simp[go_sem,z],g_,by simpa[go_sem]using s⟩
    |false=>rw[hb]at p;rw[if_neg (by rw[p];simp),cC]at o;simp[go_sem,z,r8,f,g,A,u,M,fM,hb,-Int.natCast_add,L];exact⟨(fh ts[k]).length-(j+1),o_,j+1,rfl,d,by simp[go_sem,r0],by simp[go_sem,w],by simp[go_sem,r6],by simp[go_sem,z],g_,by rw[o];simpa[go_sem,<-K]using i⟩
   have u:¬(3:Int)<a.name.size:=o_;have p:xP a.name=false:=by rw[xP,decide_eq_false q3];rfl
   rw[if_neg (by rw[p];simp),cC]at o;simp[go_sem,z,r8,f,g,A,u,-Int.natCast_add,L];exact⟨(fh ts[k]).length-(j+1),o_,j+1,rfl,d,by simp[go_sem,r0],by simp[go_sem,w],by simp[go_sem,r6],by simp[go_sem,z],g_,by rw[o];simpa[go_sem,<-K]using i⟩
  have:j=(fh ts[k]).length:=o_;subst this;rw[<-ES r]at i;simp[go_sem,r6,z,r8,-Int.natCast_add,Z];exact⟨ts.length-(k+1),o_,k+1,rfl,r,by simp[go_sem,r0],by simp[go_sem,w],g_,by simpa[go_sem,<-K]using i⟩
 have:k=ts.length:=o_;subst this;rw[ao]at i;have⟨x5,O⟩:=i.isl;have q1:=vc ts;have Q:=oo (c+(ji ts).length+1) (ji ts) 0 c o_;have t:lM ts c=fb (ji ts) (c+(ji ts).length+1) 0 c:=rfl;rw[<-t]at Q;simp[go_sem,g0,g6];refine bR (Vg (ji ts) x5 c (c+(ji ts).length+1) (lM ts c)) (c+(ji ts).length+1) ⟨0,[],o_,by simp[t],s_,g_,by simp[go_sem,O],g_,.inr ⟨h.length,by simp[go_sem,fS],by simp[fS]⟩⟩ ?_;clear O i g0 Y g6 t;generalize lM ts c=all at *;generalize ji ts=used at *;rintro m st h ⟨n,l,z1,b,q4,Y,g5,q5,i⟩;obtain⟨v9,e9⟩:∃v,v=st.get 9:=⟨_,rfl⟩
 rw[<-e9]at i;have⟨x9,S⟩:=i.isl;have A:=Kx (l.map λn=>(gx n).name) x9;rw[aU]at A;have B:=congrArg List.length b;rw[aK]at B;by_cases r:l.length<c
 ·have e:(l.length:Int)<c:=o_;obtain⟨c',U⟩:∃c',c-l.length=c'+1:=⟨c-l.length-1,o_⟩
  rw[U]at b B;cases m with
  |zero=>simp[fb]at B;omega
  |succ m=>
   have cd:=zR n o_;have a1:=λx y=>xK x y [118,35,35] (lH n) (by have:=zB n;simp only[aF,aP];omega)
   have e3:(⟨#[118,35,35]⟩:ByteArray)=bs [118,35,35]:=rfl;have q6:bs ([118,35,35]++lH n)=(gx n).name:=rfl;rw[q6]at a1;simp only[zA]at cd;have Z:=wS n o_;simp[go_sem,Y,q5,<-e9,S,A,e,cd,e3,a1];refine bR (Ve used x5 c n v9 (gx n).name h) used.length ⟨0,rfl,aO _,rfl,g_,g_,by simp[go_sem,<-e9],g_,g_,g_,by simp[go_sem,inN]⟩ ?_;generalize V:(gx n).name=nm at *;rintro m2 J h2 ⟨j,rfl,hj,rfl,w,G,r9,D,E,F,q⟩;have lu:=Kx used x5;by_cases d:j<used.length
   ·have f:(j:Int)<used.length:=o_;have g:=LL used x5 j d;have L:=wS j o_;have q7:=LG d nm;simp +contextual [go_sem,G,E,q,F,lu,f,g,Bk,-Int.natCast_add,L];exact⟨used.length-(j+1),o_,j+1,rfl,d,rfl,by simp[go_sem,w],by simp[go_sem,G],by simp[go_sem,r9],by simp[go_sem,D],by simp[go_sem,E],g_,by rw[q7];simp[go_sem]⟩
   have:j=used.length:=o_;subst this;rw[ao]at q;rw[fb,V]at b;cases hq:inN nm used with
   |true=>rw[hq]at q b;rw[if_pos rfl]at b;simp[go_sem,G,D,q,F,lu,-Int.natCast_add,Z];exact⟨m,o_,n+1,l,o_,by rw[U];exact b,q4,by simp[go_sem,w],by simp[go_sem,G],g_,by simpa[go_sem,r9]using i⟩
   |false=>rw[hq]at q b;rw[if_neg s_]at b;have⟨v',h',N,s,q2,_⟩:=BL (ys:=[nm]) (x:=.full) i (by simp only[aU,aF,aP];omega);rw[show(l.map λn=>(gx n).name)++[nm]=(l++[n]).map λn=>(gx n).name by simp[V]]at s;simp only[fS,aS,au]at N;simp[go_sem,G,r9,D,E,q,F,lu,zV,N,-Int.natCast_add,Z];exact⟨m,o_,n+1,l++[n],o_,by rw[aK];simp only[aF,aP];rw[show c-(l.length+(0+1))=c' by omega,b];simp,by rw[aK];simp;omega,by simp[go_sem,w],by simp[go_sem,G],g_,by simpa[go_sem]using s⟩
 have e:¬(l.length:Int)<c:=o_;have hz:c-l.length=0:=o_;have X:all=l:=by
  rw[hz]at b;cases m with
  |zero=>simpa[fb]using b
  |succ m=>simpa[fb]using b
 simp[go_sem,Y,<-e9,S,A,e];rw[X]at hR;exact hR _ _ _ (.inr rfl) ⟨.isl (fS (l.map λn=>(gx n).name)) x9,by simp[ag,cG,f186,go_sem],aL rfl rfl⟩
def sJ(ns:List Nat):List ByteArray:=ns.map λn=>(gx n).name
theorem DV{vars:Lq}{ns:List Nat}(h:ns.length=vars.length):(iq vars ns).length=vars.length:=by rw[iq,List.length_zip,aU];omega
theorem LX{vars:Lq}{ns:List Nat}(h:ns.length=vars.length){k:Nat}(hk:k<vars.length):(iq vars ns)[k]'(by rw[DV h];exact hk)=(vars[k],gx ns[k]):=by simp[iq]
def Vi(vars:Lq) (ns:List Nat) (t:T) (m:Nat) (st:PT) (h:H):Prop:=∃k:Nat,m=vars.length-k/\k<=vars.length/\st.get 1=aQ vars/\st.get 2=.isl (fS (sJ ns)) .unk/\st.get 3=.ptr 0 0/\st.get 6=.ptr 1 0/\st.get 7=.int .i64 k/\h=[.cells (enc t).cells .live,.cells zc .live]/\eK ((iq vars ns).drop k) t=eK (iq vars ns) t/\(t.kind=1\/0<=k)
def Vk(vars:Lq) (ns:List Nat) (t:T) (m:Nat) (st:PT) (h:H):Prop:=∃(k:Nat) (v:AV),m=t.kids.length-k/\k<=t.kids.length/\st.get 1=aQ vars/\st.get 2=.isl (fS (sJ ns)) .unk/\st.get 3=.ptr 0 0/\st.get 6=.ptr 1 0/\st.get 8=.ptr 2 0/\st.get 9=.int .i64 k /\
 h[0]?=some (.cells (enc t).cells .live)/\h[1]?=some (.cells zc .live)/\h[2]?=some (.cells [.int .i64 t.kind,.str t.name,.int .i64 t.sort,v] .live)/\OwnR 39 h v (((t.kids.take k).map (cE (iq vars ns))).map enc)
theorem Qj(t:T) (h:H) (i:Nat) (l:LA) (x:Ext):stM C.P 37 (.isl l x) 3 h i (some (.cells (enc t).cells .live))=some (pt h i (.cells [.int .i64 t.kind,.str t.name,.int .i64 t.sort,.isl l x] .live)):=by rw[bB];exact uZ s23 h i 3 _ _ rfl s_
attribute [go_sem] Qj
theorem Iv(vars:Lq) (ns:List Nat) (t:T) (hv:sizes vars<4000000) (hk1:∀v∈vars,v.kind=1) (hl:ns.length=vars.length) (hs:t.size<4000000) (hlf:pF t)
  (hc:∀k∈t.kids,ay C 187 [enc k,aQ vars,.isl (fS (sJ ns)) .unk]=some (enc (cE (iq vars ns) k))):ay C 187 [enc t,aQ vars,.isl (fS (sJ ns)) .unk]=some (enc (cE (iq vars ns) t)):=by
 refine bD func187 rfl λR hR=>?_
 have w:=DV hl;have q2:=len_sizes vars;have q3:∀b∈iq vars ns,b.1.kind=1:=λb hb=>hk1 _ (dh hb).1
 simp[go_sem,lw];refine bR (Vi vars ns t) vars.length ⟨0,rfl,aO _,g_,g_,g_,g_,g_,by simp[bB,aa],rfl,.inr o_⟩ ?_;rintro m st h ⟨k,rfl,hk,y,J,l,s,z,rfl,c,-⟩;by_cases a:k<vars.length
 ·have d:(k:Int)<vars.length:=o_;have n:=hG vars k a;have A:vars[k].size<4000000:=by have:=mR (aG a);omega
  have L:=wS k o_;have c1:=lg t vars[k] hs A;have B:k<ns.length:=o_;have g:=LL (sJ ns) .unk k (by simpa[sJ]using B);rw[show(sJ ns)[k]'(by simpa[sJ]using B)=(gx ns[k]).name by simp[sJ]]at g;have c2:=Dz (gx ns[k]).name 0;rw[show T.mk 2 (gx ns[k]).name 0 []=gx ns[k]from rfl]at c2;rw[aH (by rw[w];exact a),LX hl a,eK]at c;simp[go_sem,y,l,z,d,n,c1];refine Ife_iff.2 ⟨λj=>?_,λj=>?_⟩
  ·rw[cmp_zero]at j;have M:t.kind=1:=by rw[j];exact hk1 _ (aG a)
   rw[if_pos (cmp_zero.2 j.symm)]at c;have e:cE (iq vars ns) t=gx ns[k]:=by rw[fk,if_pos M,<-c]
   simp[go_sem,J,s,z,g,c2];exact hR ⟨enc (gx ns[k]),by simp[ag,cG,f187,go_sem,s],by rw[e];exact aL (qL _) (aw _)⟩
  rw[if_neg λq=>j (cmp_zero.2 (cmp_zero.1 q).symm)]at c;simp[go_sem,z,-Int.natCast_add,L];exact⟨vars.length-(k+1),o_,k+1,rfl,a,g_,g_,g_,g_,g_,rfl,c,.inr o_⟩
 have:k=vars.length:=o_;subst this;rw[<-w,aj,eK]at c;have N:cE (iq vars ns) t=.mk t.kind t.name t.sort (t.kids.map (cE (iq vars ns))):=by
  rw[fk];by_cases q:t.kind=1
  ·rw[if_pos q,<-c];have:=pg t;rw[hlf t (eU t) q]at this ⊢;exact this.symm
  rw[if_neg q]
 have A:=size_kids t;have q1:=len_sizes t.kids;simp[go_sem,y,l,z,lw,aa];refine bR (Vk vars ns t) t.kids.length ⟨0,.isl [] .full,rfl,aO _,g_,g_,g_,g_,g_,g_,rfl,rfl,by simp[bB],.inl rfl⟩ ?_;clear y J l s z;rintro m st h ⟨k,v,rfl,hk,y,J,l,s,g8,O,D,K,E,u⟩;by_cases a:k<t.kids.length
 ·have d:(k:Int)<t.kids.length:=o_;have n:=fL t.kids k a;have L:=wS k o_;have ck:∀h,az C h (.func 187 []) (some [enc t.kids[k],aQ vars,.isl (fS (sJ ns)) .unk])=some (enc (cE (iq vars ns) t.kids[k]),h):=λh=>ah (args':=[enc t.kids[k],aQ vars,.isl (fS (sJ ns)) .unk]) (by rw[bJ];rfl) (by rw[bJ];rfl) s_ (hc _ (aG a))
  have⟨F,Q,ha,S,o,U⟩:=dz (ys:=[cE (iq vars ns) t.kids[k]]) (x:=.full) u (by simp only[aU,ac,aF,aP];omega);have V:(t.kids.take k).map (cE (iq vars ns))++[cE (iq vars ns) t.kids[k]]=(t.kids.take (k+1)).map (cE (iq vars ns)):=by rw[<-dQ a,bY];rfl
  rw[V]at S;simp only[aS,au]at ha;have f:∀i,bj v=some i->i≠0/\i≠1/\i≠2:=λi p=>by
   rcases u with rfl|⟨id,rfl,c⟩
   ·cases p
   simp only[bj,aA]at p;subst p;exact⟨λe=>by(rw[e,D]at c;cases c),λe=>by(rw[e,K]at c;cases c),λe=>by(rw[e,E]at c;cases c)⟩
  have X:=o.get D (λe=>(f _ e).1 rfl);have Y:=o.get K (λe=>(f _ e).2.1 rfl);have I:=o.get E (λe=>(f _ e).2.2 rfl);have r:=(aB.1 I).1;have Z:cr C.P Q 37 (.ptr 2 3) F=some (Q.set 2 (.cells [.int .i64 t.kind,.str t.name,.int .i64 t.sort,F] .live)):=by obtain⟨x,rfl⟩:=S.isl;simp[cr,I,s23]
  have q':OwnR 39 (Q.set 2 (.cells [.int .i64 t.kind,.str t.name,.int .i64 t.sort,F] .live)) F (((t.kids.take (k+1)).map (cE (iq vars ns))).map enc):=S.keep (Keep.set _ _ _) (λi p e=>by
   rcases U with j|⟨j,h2⟩
   ·exact(f i (j▸p)).2.2 (by simpa using e.symm)
   have:=(aB.1 E).1;rw[h2]at p;simp only[aA]at p e;omega)
  have l2:aX C.P h 37 (.ptr 2 3)=some v:=by obtain⟨x,rfl⟩:=u.isl;simp[aX,E,ae,a23,s23]
  simp[go_sem,l,O,G D,d,-Int.natCast_add];refine gJ 11 _ (by simp[fu]) rfl ?_;simp[go_sem,y,J,l,g8,O,G D,l2,n,ck,dm,ha,Z,-Int.natCast_add,L];refine⟨?_,t.kids.length-(k+1),o_,k+1,F,rfl,a,g_,g_,g_,g_,g_,g_,?_,?_,?_,q'⟩
  ·rcases u with rfl|⟨id,rfl,c⟩
   ·simp[go_sem,ip,iF,iI,kK,er,dB]
   have:=f id rfl;simp[go_sem,ip,iF,iI,kK,er,dB]
   (try omega)
  ·rw[aE o_];exact X
  ·rw[aE o_];exact Y
  rw[aJ r]
 have:k=t.kids.length:=o_;subst this;rw[ao]at u;obtain⟨x,rfl⟩:=u.isl;simp[go_sem,l,s,g8,O,G D,G K,G E];refine hR ⟨.agg [.int .i64 t.kind,.str t.name,.int .i64 t.sort,.isl ((t.kids.map (cE (iq vars ns))).map enc) x],?_,?_⟩
 ·have q0:=(aB.1 K).1;simp[ag,cG,f187,go_sem,s,q0]
 rw[N];exact sd _ _ _ _ _ _
theorem Iu(vars:Lq) (ns:List Nat) (hv:sizes vars<4000000) (hk1:∀v∈vars,v.kind=1) (hl:ns.length=vars.length):∀t:T,t.size<4000000->pF t->ay C 187 [enc t,aQ vars,.isl (fS (sJ ns)) .unk]=some (enc (cE (iq vars ns) t)):=by refine T.ind λt c d a=>Iv vars ns t hv hk1 hl d a λk b=>c k b (by have:=kid_size b;omega) (Ax a b)
theorem F7(vars:Lq) (ns:List Nat) (hv:sizes vars<4000000) (hk1:∀v∈vars,v.kind=1) (hl:ns.length=vars.length) (t:T) (hs:t.size<4000000) (hlf:pF t) (h:H):az C h (.func 187 []) (some [enc t,aQ vars,.isl (fS (sJ ns)) .unk])=some (enc (cE (iq vars ns) t),h):=
 ah (args':=[enc t,aQ vars,.isl (fS (sJ ns)) .unk]) (by rw[bJ];rfl) (by rw[bJ];rfl) s_ (Iu vars ns hv hk1 hl t hs hlf)
theorem lT{n:Nat}:∀ {l:Lq},(∀t∈l,t.size<=n)->sizes l<=n*l.length
 |[],_=>by simp[sizes]
 |a::l,h=>by
  have h1:=h a s_;have c:=lT (l:=l) λt b=>h t (by simp[b])
  rw[sizes,aF,pU];omega
theorem AR{l:Lq}{v:T}(h:v∈cR l):v.kind=1:=by have⟨t,_,a⟩:=bh.1 (mem_setS.1 h);have:=(bm.1 (mem_setS.1 a)).2;simpa[isK]using this
theorem xq(l:Lq):(cR l).length<=sizes l:=cM (mq _) (lJ l)
theorem vY{l:Lq}{n:Nat}(h:∀x∈l,x.size<n):∀y∈cR l,y.size<n:=λy b=>by have⟨a,c,d⟩:=bh.1 (mem_setS.1 b);exact ol (h a c) y d
theorem rz{t:T}(h:bc t=0):pF t:=λy a k=>qE (ee (kE t (cT h).1 y a)) (.inl k)
structure Bnd (l:List Dm):Prop where
 len:l.length<=40
 dem:∀d∈l,lS d/\d.knows.length<=40
 size:∀t∈bE l,t.size<=60
 ok:∀t∈bE l,okT t
 tlen:(bE l).length<=1640
 vlen:(cR (bE l)).length<=98400
 vsz:sizes (cR (bE l))<4000000
theorem oa{l:List Dm}(hv:bp l=0):Bnd l:=by
 have c:=λd c=>oQ (rW hv (d:=d) c)
 have g:=pV hv;have b:∀t∈bE l,t.size<=60:=λt f=>(jJ (g t f)).2.2.2
 have o:=(nZ hv).1;have i:(bE l).length<=1640:=by
  have e:∀(m:List Dm),(∀d∈m,d.knows.length<=40)->(bE m).length<=41*m.length:=by
   intro m;induction m with
   |nil=>simp[bE]
   |cons a m p=>
    intro h;have o:=h a s_;have i:=p λd c=>h d (by simp[c])
    simp only[bE,cD,aK,aF,aP]at i ⊢;omega
  have:=e l λd j=>(c d j).1
  omega
 have A:=lT b;have B:=xq (bE l);have D:=lT (n:=61) (l:=cR (bE l)) λy k=>by have:=vY (n:=61) (λx q=>by have:=b x q;omega) y k;omega
 refine⟨o,λd j=>?_,b,λt f=>sf (g t f),i,o_,?_⟩
 ·have⟨r,s,u⟩:=c d j;refine⟨⟨λt f=>?_,?_,o_⟩,r⟩
  ·have:=(jJ (s t f)).2.2.2;omega
  have:=(jJ u).2.2.2;omega
 have:61*(cR (bE l)).length<=61*(60*1640):=kN _ o_;have:(cR (bE l)).length<=60*1640:=o_;have:∀y∈cR (bE l),y.size<=1:=λy k=>by have⟨a,v,hv⟩:=bh.1 (mem_setS.1 k);have⟨w,z⟩:=bm.1 (mem_setS.1 hv);have:=rz (sf (g a v)).1 y w (by simpa[isK]using z);rw[size_kids,this];simp[sizes]
 have:=lT this;omega
theorem qH{l:List Dm}{d:Dm}(hd:d∈l):∀t∈d.knows,t∈bE l:=λ_t a=>bh.2 ⟨d,hd,dP _ a⟩
theorem lO{l:List Dm}{d:Dm}(hd:d∈l):d.term∈bE l:=bh.2 ⟨d,hd,s_⟩
theorem Fx(ts:Lq) (x:Ext) (c:Nat) (hs:sizes ts<4000000) (hc:c<4000000) (h:H):az C h (.func 186 []) (some [.isl (ts.map enc) x,.int .i64 c])=some (.isl (fS (sJ (lM ts c))) .unk,h):=ah (args':=[aQ ts,.int .i64 c]) rfl rfl s_ (Hd ts c hs hc)
def tN(l:List Dm) (i:Nat):Lq:=((l.take i).filter λe=>decide (e.term.kind=1)).map Dm.term
theorem Ha{l:List Dm}{j:Nat}(hj:j<l.length):tN l (j+1)=tN l j++if l[j].term.kind=1 then [l[j].term]else []:=by unfold tN;rw[aI hj,fi,bY];by_cases h:l[j].term.kind=1<;>simp[h]
theorem CZ(l:List Dm) (j:Nat):(tN l j).length<=j:=by unfold tN;rw[aU];have:=cO (λe:Dm=>decide (e.term.kind=1)) (l.take j);rw[ac]at this;omega
theorem CY{l:List Dm}{i:Nat}{t:T}(h:t∈tN l i):t∈bE l:=by obtain⟨d,a,rfl⟩:=bA.1 h;exact lO (bX (bm.1 a).1)
theorem J0(l:List Dm) (i:Nat) (d:Dm):J1 l i d=(d.knows++tN l i).map (cE (ot l)):=by rw[J1,tN,bY,iK];rfl
theorem Up(e:AV):bH C.P 39 (.iptr e 1) 0=some (.iptr e 1):=k_
attribute [go_sem] Up
def YA(l:List Dm) (i:Nat) (d:Dm) (vars:Lq) (ns:List Nat) (m:Nat) (st:PT) (h:H):Prop:=∃k:Nat,m=d.knows.length-k/\k<=d.knows.length/\st.get 0=bF l/\st.get 1=.int .i64 i/\st.get 7=aQ vars/\st.get 8=.isl (fS (sJ ns)) .unk/\st.get 10=.int .i64 k/\OwnR 39 h (st.get 9) (((d.knows.take k).map (cE (iq vars ns))).map enc)
def X6(l:List Dm) (i:Nat) (d:Dm) (vars:Lq) (ns:List Nat) (m:Nat) (st:PT) (h:H):Prop:=∃k:Nat,m=i-k/\k<=i/\st.get 0=bF l/\st.get 1=.int .i64 i/\st.get 7=aQ vars/\st.get 8=.isl (fS (sJ ns)) .unk/\st.get 11=.int .i64 k/\OwnR 39 h (st.get 9) (((d.knows++tN l k).map (cE (iq vars ns))).map enc)
theorem EW(l:List Dm) (i:Nat) (hv:bp l=0) (hi:i<l.length):ay C 132 [bF l,.int .i64 i]=some (.tuple [.bool (pv l i l[i]).1,.int .i64 (pv l i l[i]).2]):=by
 refine bD func132 rfl λR hR=>?_
 have⟨b1,Z,b3,b4,b5,b6,b7⟩:=oa hv;have F:=aG hi;have q1:(i:Int)<l.length:=o_;have q':¬(l.length:Int)<=i:=o_;have q0:¬(i:Int)<0:=o_;have c1:=sR l .unk (λd F=>(Z d F).1) o_;have c2:=qN l .unk (λd F=>by have:=(Z d F).2;omega) o_;have c3:=zS (bE l) .unk (λt a=>by have:=b3 t a;omega) (by have:=lT b3;omega);have⟨u1,u2⟩:=AT (bE l) (cR (bE l)).length;have c4:=Fx (bE l) .unk (cR (bE l)).length (by have:=lT b3;omega) o_;have c5:=F7 (cR (bE l)) (lM (bE l) (cR (bE l)).length) b7 (λv hv=>AR hv) u2;have hZ:ot l=iq (cR (bE l)) (lM (bE l) (cR (bE l)).length):=rfl;have s:∀t∈bE l,(cE (ot l) t).size<=24000:=λt a=>by
  have:=qA (ot l) (λb hb=>by have⟨n,_,e⟩:=bA.1 (dh hb).2;rw[<-e,gx,size_kids];simp[T.kids,sizes]) t
  have:=b3 t a;omega
 have u:∀t∈bE l,nf gF (cE (ot l) t):=λt a=>vr (λb hb=>by
   have⟨n,_,e⟩:=bA.1 (dh hb).2;rw[<-e];intro y hy k;rcases mem_walk.1 hy with rfl|⟨k,hk,_⟩
   ·cases k
   cases hk) t (b4 t a).2
 have w:=(Z _ F).2;have G:=qH F;have z:=lO F;have q:pv l i l[i]=rU ((l[i].knows++tN l i).map (cE (ot l))) (cE (ot l) l[i].term):=by rw[pv,J0]
 have M:=λx=>G9 ((l[i].knows++tN l i).map (cE (ot l))) x (cE (ot l) l[i].term) (by
  have h1:∀x∈(l[i].knows++tN l i).map (cE (ot l))++[cE (ot l) l[i].term],x.size<=24000:=λx o=>by
   rcases aZ.1 o with o|o
   ·obtain⟨t,a,rfl⟩:=bA.1 o;rcases aZ.1 a with a|a
    ·exact s t (G t a)
    exact s t (CY a)
   rw[bL.1 o];exact s _ z
  have h2:=lT h1;have:=CZ l i;simp only[aK,aU,aF,aP]at h2;omega) (λx o=>by
   rcases aZ.1 o with o|o
   ·obtain⟨t,a,rfl⟩:=bA.1 o;rcases aZ.1 a with a|a
    ·exact u t (G t a)
    exact u t (CY a)
   rw[bL.1 o];exact u _ z)
 have c:∀t∈bE l,t.size<4000000/\pF t:=λt a=>⟨by have:=b3 t a;omega,rz (b4 t a).1⟩
 rw[hZ]at q M;have A:=sH l i hi;have N:=qo l;simp only[aQ,bF]at c1 c2 c3 c4 A N;simp[go_sem,bF,c1,hv,q',q0,c2,c3,c4,N];clear s u hZ c1 c2 c3 c4 b3 b4 u1 b5;generalize lM (bE l) (cR (bE l)).length=ns at *;generalize cR (bE l)=vars at *;generalize hD:l[i]=d at *;refine bR (YA l i d vars ns) d.knows.length ⟨0,rfl,aO _,by simp[go_sem,bF],g_,by simp[go_sem,aQ],g_,g_,.inr ⟨0,g_,s_⟩⟩ ?_;rintro m st h ⟨k,rfl,hk,p,I,O,Q,J,r⟩;obtain⟨v9,B⟩:∃v,v=st.get 9:=⟨_,rfl⟩
 rw[<-B]at r;simp only[bF]at p;by_cases g:k<d.knows.length
 ·have j:(k:Int)<d.knows.length:=o_;have f:=fL d.knows k g;have Y:=wS k o_;have S:=G _ (aG g);have U:=c5 d.knows[k] (c _ S).1 (c _ S).2;have⟨v',h',V,X,_,_⟩:=dz (ys:=[cE (iq vars ns) d.knows[k]]) (x:=.full) r (by simp only[aU,ac,aF,aP];omega);rw[show(d.knows.take k).map (cE (iq vars ns))++[cE (iq vars ns) d.knows[k]]=(d.knows.take (k+1)).map (cE (iq vars ns)) by rw[aI g,bY];rfl]at X;simp only[aS,au]at V;simp[go_sem,p,I,O,Q,J,<-B,A,uw,j,f,U,dm,V,-Int.natCast_add,Y];exact⟨d.knows.length-(k+1),o_,k+1,rfl,g,by simp[go_sem,p,bF],g_,g_,g_,g_,by simpa[go_sem]using X⟩
 have:k=d.knows.length:=o_;subst this;rw[ao]at r;simp[go_sem,p,I,J,A,uw];refine bR (X6 l i d vars ns) i ⟨0,rfl,aO _,by simp[go_sem,p,bF],g_,g_,g_,g_,by simpa[go_sem,<-B,tN]using r⟩ ?_;clear p I O Q J r B;rintro m st h ⟨k,rfl,hk,p,I,O,Q,L,r⟩;obtain⟨v9,B⟩:∃v,v=st.get 9:=⟨_,rfl⟩
 rw[<-B]at r;simp only[bF]at p;have q2:=CZ l k;by_cases g:k<i
 ·have j:(k:Int)<i:=o_;have w:k<l.length:=o_;have f:=sH l k w;simp only[bF]at f;have Y:=wS k o_;have S:=lO (aG w);have U:=c5 l[k].term (c _ S).1 (c _ S).2;have D:=Ha w;by_cases E:l[k].term.kind=1
  ·rw[if_pos E]at D;have⟨v',h',V,X,_,_⟩:=dz (ys:=[cE (iq vars ns) l[k].term]) (x:=.full) r (by simp only[aU,aK,aF,aP];omega);rw[show(d.knows++tN l k).map (cE (iq vars ns))++[cE (iq vars ns) l[k].term]=(d.knows++tN l (k+1)).map (cE (iq vars ns)) by rw[D];simp]at X;simp only[aS,au]at V;simp[go_sem,p,I,O,Q,L,<-B,f,Bp,Az,E,j,U,dm,V,-Int.natCast_add,Y];exact⟨i-(k+1),o_,k+1,rfl,g,by simp[go_sem,p,bF],g_,g_,g_,g_,by simpa[go_sem]using X⟩
  rw[if_neg E,cC]at D;simp[go_sem,p,I,L,f,Bp,E,j,-Int.natCast_add,Y];exact⟨i-(k+1),o_,k+1,rfl,g,by simp[go_sem,p,bF],g_,g_,g_,g_,by rw[D];simpa[go_sem,<-B]using r⟩
 have:k=i:=o_;subst this;have⟨x,o⟩:=r.isl;have U:=c5 d.term (c _ z).1 (c _ z).2;have M:=M x;rw[<-q]at M;clear q;generalize (d.knows++tN l k).map (cE (iq vars ns))=K at *;simp[go_sem,p,I,O,Q,L,<-B,o,A,Az,U,M];exact hR ⟨.tuple [.bool (pv l k d).1,.int .i64 (pv l k d).2],by simp[ag,df,cG,f132,go_sem],cw rfl rfl s_⟩
theorem MB(l:List Dm) (x:Ext) (i:Nat) (hv:bp l=0) (hi:i<l.length) (h:H):az C h (.func 132 []) (some [.isl (l.map cz) x,.int .i64 i])=some (.tuple [.bool (pv l i l[i]).1,.int .i64 (pv l i l[i]).2],h):=ah (args':=[bF l,.int .i64 i]) rfl rfl s_ (EW l i hv hi)
theorem Pb(b:T × T) (h1:b.1.size<4000000) (h2:b.2.size<4000000):ay C 106 [bN b]=some (.int .i64 (sT b)):=by
 refine bD func106 rfl λR c=>?_
 have g:=kq b.1 h1;have h:=kq b.2 h2;have c3:=lg b.1 b.2 h1 h2;have i:=PD b.1 b.2 h1 h2;simp +contextual [go_sem,MP,Rp,g];refine Ife_iff.2 ⟨λa=>?_,λa=>?_⟩
 ·simp[go_sem];refine c ⟨_,rfl,?_⟩;simp[go_sem,sT,thn,a];exact aL rfl rfl
 simp only[Decidable.not_not]at a;simp +contextual [go_sem,Rp,Ro,Xc,c3];refine Ife_iff.2 ⟨λd=>?_,λd=>?_⟩
 ·simp[go_sem];refine c ⟨_,rfl,?_⟩;simp[go_sem,sT,thn,a];rw[if_pos (by simpa using d)];exact aL rfl rfl
 simp +contextual [go_sem,Ro,h];refine Ife_iff.2 ⟨λe=>?_,λe=>?_⟩
 ·simp[go_sem];refine c ⟨_,rfl,?_⟩;simp[go_sem,sT,thn,a,e];rw[if_neg (by simpa using d)];exact aL rfl rfl
 simp only[Decidable.not_not]at e;simp +contextual [go_sem,Rp,Ro,i];refine Ife_iff.2 ⟨λf=>?_,λf=>?_⟩
 ·simp[go_sem];refine c ⟨_,rfl,?_⟩;simp[go_sem,sT,thn,a,e];rw[if_neg (by simpa using d),if_neg (by simpa using f)];exact aL rfl rfl
 simp[go_sem];refine c ⟨_,rfl,?_⟩;simp[go_sem,sT,thn,a,e];rw[if_neg (by simpa using d),if_pos (by simpa using f)];exact aL rfl rfl
theorem PN(b:T × T) (h1:b.1.size<4000000) (h2:b.2.size<4000000) (h:H):az C h (.func 106 []) (some [bN b])=some (.int .i64 (sT b),h):=ah (Lu _) (by simp[Ei]) s_ (Pb b h1 h2)
theorem M6(l:Lb) (hs:small l):ay C 67 [binds l]=some (.int .i64 (kJ l)):=by
 refine bD func67 rfl λR n=>?_
 simp +contextual [go_sem,binds,nT];refine Ife_iff.2 ⟨λw=>?_,λw=>?_⟩
 ·simp[go_sem];refine n ⟨_,rfl,?_⟩;simp[go_sem,kJ,show 200<l.length by omega];exact aL rfl rfl
 have o:kJ l=oy none l:=by simp[kJ,show ¬200<l.length by omega]
 simp +contextual [go_sem];refine bR (YP l) l.length ⟨0,rfl,aO _,rfl,by simp[go_sem,binds],g_,rfl⟩ ?_;rintro m s h ⟨k,rfl,A,rfl,e,i,a⟩;simp only[binds]at e;by_cases b:k<l.length
 ·have c:(k:Int)<l.length:=o_;have f:=pH l k b .unk;have g:=hs _ (aG b);have p:=PN l[k] g.1 g.2;have v:=wS k o_;rw[aH b,oy]at a;by_cases j:sT l[k]=0
  ·rw[j]at a;by_cases q:k=0
   ·have x:later (prev l k) l[k].1=false:=by simp[prev,q,later]
    have a:oy (some l[k].1) (l.drop (k+1))=oy none l:=by simpa[thn,x]using a
    simp[go_sem,nT,e,i,c,f,E9,p,j,-Int.natCast_add,v,show ¬0<k by omega];exact⟨l.length-(k+1),o_,k+1,rfl,b,rfl,by simp[go_sem,e,binds],g_,by rw[Ah b];exact a⟩
   have d:k-1<l.length:=o_;have r:=pH l (k-1) d .unk;have y:IntKind.i64.wrap ((k:Int)-1)=((k-1:Nat):Int):=by rw[av o_];omega
   have t:=hs _ (aG d);have z:=rG l[k-1].1 l[k].1 t.1 g.1;simp[go_sem,nT,e,i,c,f,E9,p,j,-Int.natCast_add,show 0<k by omega,y,r,z,jf];refine Ife_iff.2 ⟨λu=>?_,λu=>?_⟩
   ·have a:5=oy none l:=by simpa[thn,prev,q,d,later,u]using a
    simp[go_sem];refine n ⟨_,rfl,?_⟩;simp[go_sem,o,<-a];exact aL rfl rfl
   have a:oy (some l[k].1) (l.drop (k+1))=oy none l:=by simpa[thn,prev,q,d,later,u]using a
   simp[go_sem,i,-Int.natCast_add,v];exact⟨l.length-(k+1),o_,k+1,rfl,b,rfl,by simp[go_sem,e,binds],g_,by rw[Ah b];exact a⟩
  simp[go_sem,nT,e,i,c,f,E9,p,j];refine n ⟨_,rfl,?_⟩;simp[thn,j]at a;simp[go_sem,o,<-a];exact aL rfl rfl
 have:k=l.length:=o_;subst this;rw[aj,oy]at a;simp[go_sem,nT,e,i];refine n ⟨_,rfl,?_⟩;simp[go_sem,o,<-a];exact aL rfl rfl
theorem zU(l:Lb) (hs:small l) (h:H):az C h (.func 67 []) (some [binds l])=some (.int .i64 (kJ l),h):=ah (JD _) (by simp[mo]) s_ (M6 l hs)
theorem Pf(l:Lb) (t:T) (hs:small l) (hv:t.size<4000000) (hl:l.length<1000000):ay C 71 [binds l,enc t]=some (gX (fB l t)):=by
 refine bD func71 rfl λR n=>?_
 have p:=zU l hs;have q:=kq t hv;have c3:=F8 l t hs hv o_;have g:∀(s:PT) (h:H) (e:Int),s.get 4=.ptr 1 0->s.get 5=.int .i64 e->h[1]?=some (.cells zc .live)->fB l t=(zT,e)->R .ret s h:=λs h e a i j k=>by refine n ⟨_,?_,(vk _ e).trans (by rw[k])⟩;simp[ag,cG,df,f71,a,i,aX,j,ae,a25,s25,zc]
 have fin:∀(s:PT) (h:H) (c:T),s.get 4=.ptr 1 0->s.get 5=.int .i64 0->h[1]?=some (.cells (enc c).cells .live)->fB l t=(c,0)->R .ret s h:=λs h c a i j k=>by refine n ⟨gX (c,0),?_,(qZ _ c 0).trans (by rw[k])⟩;simp[ag,cG,df,f71,a,i,aX,j,ae,a25,s25,bB,gX];rw[bJ]
 have r:mX C.P [] 39 (enc t)=some (.ptr 0 0,[.cells (enc t).cells .live]):=by rw[nA,bB];rfl
 have o:∀(l:List VObj),aX C.P (.cells (enc t).cells .live::l) 39 (.ptr 0 0)=some (enc t):=λl=>by rw[bB];exact wl t l
 simp[go_sem,r,p];refine Ife_iff.2 ⟨λd=>?_,λd=>?_⟩
 ·simp[go_sem,za,J9];exact g _ _ (kJ l) g_ g_ rfl (by unfold fB;rw[if_pos d])
 simp only[Decidable.not_not]at d;simp[go_sem,o,q];refine Ife_iff.2 ⟨λf=>?_,λf=>?_⟩
 ·simp[go_sem,za,J9];exact g _ _ (bc t) g_ g_ rfl (by unfold fB;rw[if_neg o_,if_pos f])
 simp only[Decidable.not_not]at f;have⟨y,u,a⟩:=rg d;have v:=qA l (λb w=>(a b w).2) t;have:=cT f;have x:=kq (cE l t) o_;simp[go_sem,o,c3,x,QA,QJ];refine Ife_iff.2 ⟨λm=>?_,λm=>?_⟩
 ·simp[go_sem,za,J9];exact g _ _ (bc (cE l t)) g_ g_ rfl (by unfold fB;rw[if_neg o_,if_neg o_,if_pos m])
 simp only[Decidable.not_not]at m;simp[go_sem,QJ,Tt];exact fin _ _ (cE l t) g_ g_ s_ (by unfold fB;rw[if_neg o_,if_neg o_,if_neg o_])
theorem F9(l:Lb) (t:T) (hs:small l) (hv:t.size<4000000) (hl:l.length<1000000) (h:H):az C h (.func 71 []) (some [binds l,enc t])=some (gX (fB l t),h):=ah (qw _ _) (by simp[mo,aw]) s_ (Pf l t hs hv hl)
def zd:LA:=[.isl [] .full,.int .i64 0,.str ⟨#[]⟩,.int .i64 0,.isl [] .full]
theorem EN:gy C.P 41=some (.agg zd):=k_
theorem PU:fZ C.P 41 []=some (.agg zd):=k_
theorem K3(a b c d e:AV):ldM C.P 41 0 (some (.cells [a,b,c,d,e] .live))=some (.agg [a,b,c,d,e]):=by simp[ldM,ae,a41,s41]
theorem Rj(a:AV) (l:LA):ldM C.P 37 0 (some (.cells (a::l) .live))=some a:=by simp[ldM,ae,a23,s23]
theorem uE(d:Dm):ldM C.P 37 0 (some (.cells (dc d) .live))=some (aQ d.knows):=by simp[ldM,ae,a23,s23,dc]
theorem K2(d:Dm):ldM C.P 39 1 (some (.cells (dc d) .live))=some (enc d.term):=by simp[ldM,ae,a25,s25,dc];rw[bJ]
theorem UQ(d:Dm):ldM C.P 41 0 (some (.cells (dc d) .live))=some (cz d):=by simp[ldM,ae,a41,s41,dc,cz]
theorem Qq(t:T) (h:H) (i:Nat) (a b c d e:AV):stM C.P 39 (enc t) 1 h i (some (.cells [a,b,c,d,e] .live))=some (pt h i (.cells [a,.int .i64 t.kind,.str t.name,.int .i64 t.sort,aQ t.kids] .live)):=by rw[bJ];unfold stM;rw[s25];rfl
theorem Qr(h:H) (i:Nat) (l:LA) (x:Ext) (a b c d e:AV):stM C.P 37 (.isl l x) 0 h i (some (.cells [a,b,c,d,e] .live))=some (pt h i (.cells [.isl l x,b,c,d,e] .live)):=uZ s23 h i 0 _ _ rfl s_
theorem Ri:ldM C.P 41 0 (some (.cells zd .live))=some (.agg zd):=by simp[ldM,ae,a41,s41,zd]
theorem Qp(h:H) (i:Nat):stM C.P 41 (.agg zd) 0 h i (some (.cells zd .live))=some (pt h i (.cells zd .live)):=rh s41 h i _ _ rfl rfl
theorem J7(h:H) (i:Nat) (a' b' c' d' e':AV):stM C.P 41 (.agg [a',b',c',d',e']) 0 h i (some (.cells zd .live))=some (pt h i (.cells [a',b',c',d',e'] .live)):=rh s41 h i _ _ rfl rfl
def po(s:Lb) (d:Dm):Dm × Int:=if lf s d.knows≠0 then(⟨[],zT⟩,lf s d.knows)else(⟨d.knows.map (cE s),(fB s d.term).1⟩,(fB s d.term).2)
theorem rH(s:Lb) (d:Dm):(po s d).2=tT s d:=by unfold po tT;split<;>rfl
theorem xG{s:Lb}{d:Dm}(h:tT s d=0):po s d=(iR s d,0):=by
 have e:=rH s d;rw[h]at e;unfold tT at h;unfold po at e ⊢;split at h
 ·rename_i q;exact absurd h q
 rename_i q;rw[if_neg q]at e ⊢;have h:(fB s d.term).2=0:=h;unfold fB at h ⊢;split at h
 ·rename_i q;exact absurd h q
 rename_i a;rw[if_neg a];split at h
 ·rename_i q;exact absurd h q
 rename_i b;rw[if_neg b];split at h
 ·rename_i q;exact absurd h q
 rename_i c;rw[if_neg c];rfl
theorem Ma{s:Lb}{t:T}(h:(fB s t).2=0):(fB s t)=(cE s t,0):=by
 unfold fB at h ⊢;split at h
 ·rename_i q;exact absurd h q
 rename_i a;rw[if_neg a];split at h
 ·rename_i q;exact absurd h q
 rename_i b;rw[if_neg b];split at h
 ·rename_i q;exact absurd h q
 rename_i c;rw[if_neg c]
def Cu(r:Dm × Int):AV:=.tuple [cz r.1,.int .i64 r.2]
theorem Aa(h:H) (k l:Lq) (x y:Ext) (a c:Int) (b:ByteArray) (e:Int) (t:T) (ht:t=.mk a b c l):gE h dH (.tuple [.agg [.isl (k.map enc) x,.int .i64 a,.str b,.int .i64 c,.isl (l.map enc) y],.int .i64 e])=some (Cu (⟨k,t⟩,e)):=by subst ht;exact cw rfl rfl s_
def YM(s:Lb) (d:Dm) (m:Nat) (st:PT) (h:H):Prop:=∃(k:Nat) (v:AV),m=d.knows.length-k/\k<=d.knows.length/\st.get 1=binds s/\st.get 2=.ptr 0 0/\st.get 4=.ptr 1 0/\st.get 6=.ptr 2 0/\st.get 7=.int .i64 k /\
 h[0]?=some (.cells (dc d) .live)/\h[1]?=some (.cells zd .live)/\h[2]?=some (.cells [v,.int .i64 0,.str ⟨#[]⟩,.int .i64 0,.isl [] .full] .live)/\OwnR 39 h v (((d.knows.take k).map (cE s)).map enc)/\lf s (d.knows.drop k)=lf s d.knows
theorem Pg(s:Lb) (d:Dm) (hs:small s) (hl:s.length<1000000) (hd:lS d):ay C 36 [cz d,binds s]=some (Cu (po s d)):=by
 refine bD func36 rfl λR X=>?_
 have⟨B,D,q'⟩:=hd;simp[go_sem,D3,EN];refine bR (YM s d) d.knows.length ⟨0,.isl [] .full,rfl,aO _,g_,g_,g_,g_,g_,rfl,rfl,rfl,.inl rfl,rfl⟩ ?_;rintro m st h ⟨k,v,rfl,hk,E,F,y,I,J,t,j,r,z,b⟩;have c:∀i,bj v=some i->i≠0/\i≠1/\i≠2:=λi l=>by
  rcases z with rfl|⟨id,rfl,hd⟩
  ·cases l
  simp only[bj,aA]at l;subst l;exact⟨λe=>by(rw[e,t]at hd;cases hd),λe=>by(rw[e,j]at hd;cases hd),λe=>by(rw[e,r]at hd;cases hd)⟩
 by_cases a:k<d.knows.length
 ·have g:(k:Int)<d.knows.length:=o_;have u:=fL d.knows k a;have w2:=wS k o_;have K:=F9 s d.knows[k] hs (B _ (aG a)) hl;rw[aH a,lf]at b;by_cases q:(fB s d.knows[k]).2=0
  ·have L:=Ma q;rw[if_neg (by simp[AM,q])]at b;rw[L]at K;have⟨Y,h',Z,M,n,N⟩:=dz (ys:=[cE s d.knows[k]]) (x:=.full) (OwnR.app z [.cells (enc (cE s d.knows[k])).cells .live]) (by simp only[aU,ac,aF,aP];omega);have O:(d.knows.take k).map (cE s)++[cE s d.knows[k]]=(d.knows.take (k+1)).map (cE s):=by rw[<-dQ a,bY];rfl
   rw[O]at M;simp only[aS,au]at Z;have Q:=n.get (ga t) (λe=>(c _ e).1 rfl);have S:=n.get (ga j) (λe=>(c _ e).2.1 rfl);have w:=n.get (ga r) (λe=>(c _ e).2.2 rfl);have o:=(aB.1 w).1;have p:=(aB.1 r).1;have U:OwnR 39 (h'.set 2 (.cells [Y,.int .i64 0,.str ⟨#[]⟩,.int .i64 0,.isl [] .full] .live)) Y (((d.knows.take (k+1)).map (cE s)).map enc):=M.keep (Keep.set _ _ _) (λi l e=>by
    rcases N with h1|⟨h1,h2⟩
    ·exact(c i (h1▸l)).2.2 (by simpa using e.symm)
    rw[h2]at l;simp only[aA,aK,aF,aP]at l e;omega)
   generalize V:(d.knows.take (k+1)).map (cE s)=A at *;obtain⟨x',rfl⟩:=M.isl;simp[go_sem,E,F,I,J,G t,uE,g,u,K,gX,lw,aa,G (ga r),Rj,dm,Z,G w,Qr,-Int.natCast_add,w2];exact⟨d.knows.length-(k+1),o_,k+1,_,rfl,a,g_,g_,g_,g_,g_,by rw[pt,aE o_];exact Q,by rw[pt,aE o_];exact S,by rw[pt,aJ o],by rw[V];exact U,b⟩
  rw[if_pos (by simpa[AM]using q)]at b;simp only[AM]at b;have f:=(aB.1 j).1;simp[go_sem,E,F,y,J,G t,uE,g,u,K,gX,q,lw,aa,PU,G (ga j),Qp];refine X ⟨.tuple [.agg zd,.int .i64 (fB s d.knows[k]).2],?_,?_⟩
  ·simp[ag,df,cG,f36,go_sem,y,f,xe,Ri]
  have:po s d=(⟨[],zT⟩,(fB s d.knows[k]).2):=by rw[po,if_pos (by rw[<-b];exact q),b]
  rw[this];exact Aa _ [] [] .full .full 0 0 ⟨#[]⟩ _ zT rfl
 have:k=d.knows.length:=o_;subst this;rw[ao]at z;rw[aj,lf]at b;obtain⟨x,rfl⟩:=z.isl;have ct:=F9 s d.term hs D hl;generalize V:d.knows.map (cE s)=A at *;have f:=(aB.1 j).1;have p:=(aB.1 r).1;simp[go_sem,E,F,y,I,J,G t,uE,K2,ct,gX,lw,aa,G (ga r),Qq,J7,K3,f,p,xe,G j];refine X ⟨.tuple [.agg [.isl (A.map enc) x,.int .i64 (fB s d.term).1.kind,.str (fB s d.term).1.name,.int .i64 (fB s d.term).1.sort,aQ (fB s d.term).1.kids],.int .i64 (fB s d.term).2],?_,?_⟩
 ·simp[ag,df,cG,f36,go_sem,y,f,xe,K3]
 have:po s d=(⟨d.knows.map (cE s),(fB s d.term).1⟩,(fB s d.term).2):=by rw[po,if_neg (by simp[<-b])]
 rw[this,V];exact Aa _ _ _ x .unk _ _ _ _ _ (pg _).symm
theorem xE(s:Lb) (d:Dm) (x:Ext) (hs:small s) (hl:s.length<1000000) (hd:lS d) (h:H):az C h (.func 36 []) (some [cz d,.isl (s.map bN) x])=some (Cu (po s d),h):=ah (args':=[cz d,binds s]) rfl rfl s_ (Pg s d hs hl hd)
def Vb(_l:List Dm) (s:Lb) (vars:Lq) (m:Nat) (st:PT) (h:H):Prop:=∃k:Nat,m=vars.length-k/\k<=vars.length/\h=[]/\st.get 1=binds s/\st.get 6=aQ vars/\st.get 7=.int .i64 k/\((vars.drop k).all λv=>s.any λb=>decide (b.1.cmp v=0))=vars.all λv=>s.any λb=>decide (b.1.cmp v=0)
def WH(s:Lb) (vars:Lq) (k:Nat) (v:T) (m:Nat) (st:PT) (h:H):Prop:=∃j:Nat,m=s.length-j/\j<=s.length/\h=[]/\st.get 1=binds s/\st.get 6=aQ vars/\st.get 7=.int .i64 k/\st.get 9=.int .i64 j/\st.get 8=.bool ((s.take j).any λb=>decide (b.1.cmp v=0))
def WG(s:Lb) (m:Nat) (st:PT) (h:H):Prop:=∃k:Nat,m=s.length-k/\k<=s.length/\h=[]/\st.get 1=binds s/\st.get 10=.int .i64 k/\((s.drop k).all λb=>decide (fI b.2=[]))=s.all λb=>decide (fI b.2=[])
def Vf(s:Lb) (m:Nat) (st:PT) (h:H):Prop:=∃k:Nat,m=s.length-k/\k<=s.length/\h=[]/\st.get 1=binds s/\st.get 11=.int .i64 k/\((s.drop k).all λb=>decide (dW b.2=0))=s.all λb=>decide (dW b.2=0)
theorem AN{α:Type}{l:List α}{j:Nat}(hj:j<l.length) (p:α->Bool):(l.take (j+1)).any p=((l.take j).any p||p l[j]):=by rw[aI hj,List.any_append];simp
theorem Ee(l:List Dm) (s:Lb) (hv:bp l=0) (hs:small s) (hl:s.length<1000000) (hn:∀b∈s,nf gF b.2):ay C 35 [bF l,binds s]=some (.int .i64 (BR l s)):=by
 refine bD func35 rfl λR y=>?_
 have⟨b1,Y,b3,b4,b5,b6,Z⟩:=oa hv;have F:=zU s hs;have I:=qN l .unk (λd c=>by have:=(Y d c).2;omega) o_;have c3:=zS (bE l) .unk (λt J=>by have:=b3 t J;omega) (by have:=lT b3;omega);simp only[aQ]at I c3;have i:fW C.P 45 (.isl (s.map bN) .unk)=some (.int .i64 s.length):=by rw[nT,aU]
 simp only[binds]at F;by_cases q:kJ s=0
 ·have r:BR l s=if((cR (bE l)).all λv=>s.any λb=>decide (b.1.cmp v=0))=false then 13 else if(s.all λb=>decide (fI b.2=[]))=false then 13 else if(s.all λb=>decide (dW b.2=0))=false then 10 else 0:=by rw[BR,if_neg (by simp[q])]
  have K:=λv (hv:v∈cR (bE l))=>vY (n:=4000000) (λt J=>by have:=b3 t J;omega) v hv
  simp[go_sem,bF,binds,F,q,I,c3];clear F I c3 Z;generalize cR (bE l)=vars at *;refine bR (Vb l s vars) vars.length ⟨0,rfl,aO _,rfl,by simp[go_sem,binds],by simp[go_sem,aQ],g_,rfl⟩ ?_;rintro m V h ⟨k,rfl,G,rfl,f,L,M,c⟩;simp only[binds]at f;by_cases a:k<vars.length
  ·have e:(k:Int)<vars.length:=o_;have g:=hG vars k a;have A:=wS k o_;have N:=K _ (aG a);rw[aH a,dp]at c;generalize hV:vars[k]=v at *;simp[go_sem,L,M,e];refine bR (WH s vars k v) s.length ⟨0,rfl,aO _,rfl,by simp[go_sem,f,binds],g_,g_,g_,g_⟩ ?_;rintro m2 q' h2 ⟨j,rfl,hj,rfl,w,O,Q,S,x⟩;simp only[binds]at w;by_cases o:j<s.length
   ·have B:(j:Int)<s.length:=o_;have D:=pH s j o .unk;have w3:=wS j o_;have U:=AN o λb=>decide (b.1.cmp v=0)
    have cs:=lg s[j].1 v (hs _ (aG o)).1 N;simp +contextual [go_sem,w,O,Q,x,S,i,B,D,g,cs,jf,-Int.natCast_add,w3];exact⟨s.length-(j+1),o_,j+1,rfl,o,rfl,by simp[go_sem,w,binds],by simp[go_sem,O],by simp[go_sem,Q],g_,by rw[U];simp[go_sem]⟩
   have:j=s.length:=o_;subst this;rw[ao]at x;cases X:s.any λb=>decide (b.1.cmp v=0)with
   |true=>rw[X]at x c;simp[go_sem,w,Q,x,S,i,-Int.natCast_add,A];exact⟨vars.length-(k+1),o_,k+1,rfl,a,rfl,by simp[go_sem,w,binds],by simp[go_sem,O],g_,by simpa using c⟩
   |false=>rw[X]at x c;simp[go_sem,w,x,S,i];refine y ⟨.int .i64 13,by simp[ag,cG,f35,go_sem],?_⟩;rw[r,if_pos (by rw[<-c];simp)];exact aL rfl rfl
  have:k=vars.length:=o_;subst this;rw[aj]at c;rw[if_neg (by rw[<-c];simp)]at r;simp[go_sem,L,M];refine bR (WG s) s.length ⟨0,rfl,aO _,rfl,by simp[go_sem,f,binds],g_,rfl⟩ ?_;clear f L M c G a;rintro m V h ⟨k,rfl,G,rfl,f,p,c⟩;simp only[binds]at f;by_cases a:k<s.length
  ·have e:(k:Int)<s.length:=o_;have g:=pH s k a .unk;have A:=wS k o_;have E:=zQ s[k].2 (hs _ (aG a)).2;rw[aH a,dp]at c;by_cases z:fI s[k].2=[]
   ·simp[go_sem,f,p,i,e,g,kL,E,z,-Int.natCast_add,A];exact⟨s.length-(k+1),o_,k+1,rfl,a,rfl,by simp[go_sem,f,binds],g_,by rw[<-c];simp[z]⟩
   simp[go_sem,f,p,i,e,g,kL,E,z];refine y ⟨.int .i64 13,by simp[ag,cG,f35,go_sem],?_⟩;rw[r,if_pos (by rw[<-c];simp[z])];exact aL rfl rfl
  have:k=s.length:=o_;subst this;rw[aj]at c;rw[if_neg (by rw[<-c];simp)]at r;simp[go_sem,f,p,i];refine bR (Vf s) s.length ⟨0,rfl,aO _,rfl,by simp[go_sem,f,binds],g_,rfl⟩ ?_;clear f p c G a;rintro m V h ⟨k,rfl,G,rfl,f,u,c⟩;simp only[binds]at f;by_cases a:k<s.length
  ·have e:(k:Int)<s.length:=o_;have g:=pH s k a .unk;have A:=wS k o_;have E:=BE s[k].2 (hs _ (aG a)).2 (hn _ (aG a));rw[aH a,dp]at c;by_cases z:dW s[k].2=0
   ·simp[go_sem,f,u,i,e,g,kL,E,z,-Int.natCast_add,A];exact⟨s.length-(k+1),o_,k+1,rfl,a,rfl,by simp[go_sem,f,binds],g_,by rw[<-c];simp[z]⟩
   simp[go_sem,f,u,i,e,g,kL,E,z];refine y ⟨.int .i64 10,by simp[ag,cG,f35,go_sem],?_⟩;rw[r,if_pos (by rw[<-c];simp[z])];exact aL rfl rfl
  have:k=s.length:=o_;subst this;rw[aj]at c;rw[if_neg (by rw[<-c];simp)]at r;simp[go_sem,f,u,i];refine y ⟨.int .i64 0,by simp[ag,cG,f35,go_sem],?_⟩;rw[r];exact aL rfl rfl
 simp[go_sem,bF,binds,F,q];refine y ⟨.int .i64 (kJ s),by simp[ag,cG,f35,go_sem],?_⟩;rw[BR,if_pos q];exact aL rfl rfl
theorem Ot(l:List Dm) (s:Lb) (x y:Ext) (hv:bp l=0) (hs:small s) (hl:s.length<1000000) (hn:∀b∈s,nf gF b.2) (h:H):az C h (.func 35 []) (some [.isl (l.map cz) x,.isl (s.map bN) y])=some (.int .i64 (BR l s),h):=ah (args':=[bF l,binds s]) rfl rfl s_ (Ee l s hv hs hl hn)
theorem Qm(d:Dm) (h:H) (i:Nat):stM C.P 41 (cz d) 0 h i (some (.cells zd .live))=some (pt h i (.cells (dc d) .live)):=rh s41 h i _ _ rfl rfl
attribute [go_sem] uE K2 UQ Qm uw Az Rn Bp
theorem qP{h:H}{v:AV}{x:Ext}{xs ys:List Dm}(o:OwnR 41 h v (xs.map cz)) (hl:xs.length+ys.length<=100000000) :
  ∃v' h',cL C.P false h 22 v (.isl (ys.map cz) x)=some (v',h')/\OwnR 41 h' v' ((xs++ys).map cz)/\Keep h h' (bj v)/\(bj v'=bj v\/bj v=none/\bj v'=some h.length):=by
 have b:∀l:List Dm,iN 5 (l.map cz)=true:=λl=>by
  cases l with
  |nil=>rfl
  |cons a l=>simp[iN,cz,aa]
 have:=jS (x:=x) u22 s41 b41 z41 rfl o (b xs) (b ys) (by simp only[aU];omega);rwa[<-bY]at this
theorem BI(h:H) (d:Dm):cQ C.P h 22 1 [(0,cz d)]=some (.isl [cz d] .full,h):=cW u22 s41 z41 rfl o_ rfl rfl rfl (by simp[cz]) rfl
@[go_sem] theorem Yw (d:Dm):bV (cz d)=true:=(rfl)
theorem Db{s:Lb}{d:Dm}(h:tT s d=0):(∀t∈(iR s d).knows,t.size<=400)/\(iR s d).term.size<=400:=by
 have e:=rH s d;unfold tT at h;split at h
 ·rename_i q;exact absurd h q
 rename_i q;refine⟨λt a=>?_,?_⟩
 ·obtain⟨k,b,rfl⟩:=bA.1 a;exact(cT (tJ (uI (by simpa using q) k b)).1).2.1
 exact(cT (tJ h).1).2.1
def Sx(l:List Dm) (s:Lb) (m:Nat) (st:PT) (_h:H):Prop:=∃k:Nat,m=l.length-k/\k<=l.length/\st.get 0=bF l/\st.get 1=binds s/\st.get 8=.int .i64 k/\ph s (l.drop k)=ph s l
theorem N5(l:List Dm) (s:Lb) (hv:bp l=0) (hs:small s) (hl:s.length<1000000) (hn:∀b∈s,nf gF b.2):ay C 13 [bF l,binds s]=some (.tuple [.bool (nK l s).1,.int .i64 (nK l s).2]):=by
 refine bD func13 rfl λR S=>?_
 have fin:∀(v:PT) (h:H) (b:Bool) (e:Int),v.get 4=.bool b->v.get 5=.int .i64 e->nK l s=(b,e)->R .ret v h:=λv h b e U V X=>S ⟨.tuple [.bool b,.int .i64 e],by
  simp[ag,df,cG,f13,U,V],by rw[X];exact cw rfl rfl s_⟩
 have⟨b1,D,b3,b4,b5,b6,b7⟩:=oa hv;have M:=sR l .unk (λd c=>(D d c).1) o_;have N:=Ot l s .unk .unk hv hs hl hn;have f:=qo l;simp only[bF]at f;by_cases q:BR l s=0
 ·have y:nK l s=ph s l:=by rw[nK,if_neg (by simp[hv]),if_neg (by simp[q])]
  simp[go_sem,bF,binds,M,hv,N,q];refine bR (Sx l s) l.length ⟨0,rfl,aO _,by simp[go_sem,bF],by simp[go_sem,binds],g_,rfl⟩ ?_;rintro m v h ⟨k,rfl,hk,o,w,A,c⟩;simp only[binds]at w;simp only[bF]at o;by_cases j:k<l.length
  ·have g:(k:Int)<l.length:=o_;have n:=A5 l k j .unk;have Y:=wS k o_;have a:=aG j;have B:=xE s l[k] .unk hs hl (D _ a).1;rw[aH j,ph]at c;have E:=qH a;have F:=lO a;have G:=(D _ a).2;generalize I:l[k]=d at *;by_cases z:tT s d=0
   ·have J:=xG z;have⟨Z,z2⟩:=Db z;rw[if_neg (by simp[z])]at c;have O:(iR s d).knows.length<=40:=by simpa[iR]using G
    have Q:=G9 (iR s d).knows .unk (iR s d).term (by
     have h1:∀x∈(iR s d).knows++[(iR s d).term],x.size<=400:=λx i=>by
      rcases aZ.1 i with i|i
      ·exact Z x i
      rw[bL.1 i];exact z2
     have h2:=lT h1;simp only[aK,aF,aP]at h2;omega) (λx i=>by
     rcases aZ.1 i with i|i
     ·obtain⟨t,ht,rfl⟩:=bA.1 i;exact vr hn t (b4 t (E t ht)).2
     rw[bL.1 i];exact vr hn _ (b4 _ F).2)
    rw[J]at B;generalize iR s d=p at *;generalize hr:rU p.knows p.term=r at *;have K:=uE p;simp only[aQ]at K;by_cases z3:r.2≠0\/r.1=false
    ·rw[if_pos z3]at c;simp[go_sem,o,w,A,f,g,n,B,Cu,EN,aa,K,Q];by_cases u:r.2=0
     ·have z5:r.1=false:=by rcases z3 with z3|z3;exact absurd u z3;exact z3
      simp[u,z5,go_sem];exact fin _ _ false 0 g_ g_ (by rw[y,<-c,u])
     simp[u,go_sem];exact fin _ _ false r.2 g_ g_ (by rw[y,<-c])
    rw[if_neg z3]at c;simp only[not_or,ne_eq,Decidable.not_not,gK]at z3;have⟨z3,u⟩:=z3;simp[go_sem,o,w,A,f,g,n,B,Cu,EN,aa,K,Q,z3,u,-Int.natCast_add,Y];exact⟨l.length-(k+1),o_,k+1,rfl,j,by simp[go_sem,o,bF],by simp[go_sem,w,binds],g_,c⟩
   rw[if_pos z]at c;have L:=rH s d;simp[go_sem,o,w,A,f,g,n,B,Cu,EN,aa,L,z];exact fin _ _ false (tT s d) g_ g_ (by rw[y,<-c])
  have:k=l.length:=o_;subst this;rw[aj,ph]at c;simp[go_sem,o,A,f];exact fin _ _ true 0 g_ g_ (by rw[y,<-c])
 simp[go_sem,bF,binds,M,hv,N,q];exact fin _ _ false (BR l s) g_ g_ (by rw[nK,if_neg (by simp[hv]),if_pos q])
end Go.VZ
