/- A part of the proof. -/
import Derived.Test.YtbcnnpkfkopoeaaGreatDoorSd
import Derived.Test.YtbcnnpkfkopoeaaGreatDoorV35
set_option maxHeartbeats 16000000
set_option maxRecDepth 8000
namespace Go.V
open Go
theorem UB(a b:ByteArray):(a==b)=decide (a=b):=by
 cases a with|mk a=>cases b with|mk b=>
 show(a==b)=_;rw[fc];simp
mutual
theorem AV.same_refl:∀a:AV,AV.same a a=true
 |.bool b=>by simp[AV.same]
 |.int k n=>by simp[AV.same]
 |.str s=>by simp[AV.same]
 |.nilptr=>rfl
 |.ptr a b=>by simp[AV.same]
 |.iptr e o=>by simp[AV.same,AV.same_refl e]
 |.isl es x=>by simp[AV.same,AV.sames_refl es]
 |.msl a b c d e=>by simp[AV.same]
 |.nilmap=>rfl
 |.nilFunc=>rfl
 |.func f cs=>by simp[AV.same,AV.sames_refl cs]
 |.nilIface=>rfl
 |.iface t v=>by simp[AV.same,AV.same_refl v]
 |.agg cs=>by simp[AV.same,AV.sames_refl cs]
 |.tuple cs=>by simp[AV.same,AV.sames_refl cs]
 |.yield i=>by simp[AV.same]
 |.mp i=>by simp[AV.same]
theorem AV.sames_refl:∀l:LA,AV.sames l l=true
 |[]=>rfl
 |a::l=>by simp[AV.sames,AV.same_refl a,AV.sames_refl l]
end
theorem IR:∀h g:H,nlB h (h++g)=true
 |[],g=>by cases g<;>rfl
 |o::h,g=>by have:=IR h g;cases o<;>simp[nlB,AV.sames_refl,this]
theorem qo:∀(h:H) (j:Nat),(bo h)[j]?=(match h[j]? with|some (.cells cs .live)=>some (.cells cs .frozen)|x=>x)
 |[],j=>by simp[bo]
 |o::h,0=>by
  cases o with
  |cells cs st=>cases st<;>rfl
  |_=>rfl
 |o::h,j+1=>by
  have:=qo h j;cases o with
  |cells cs st=>cases st<;>simpa[bo]using this
  |_=>simpa[bo]using this
theorem E2(h g:H):freeze (h++g) (news h (h++g))=h++bo g:=by
 apply dB;intro j;rw[mZ];by_cases b:j<h.length
 ·have a:j∉news h (h++g):=by simp[news];omega
  rw[aH b,aH b];cases e:h[j]? with
  |none=>rfl
  |some o=>cases o with
   |cells c st=>cases st<;>simp[a]
   |_=>rfl
 rw[ap o_,ap o_,qo];cases e:g[j-h.length]? with
 |none=>rfl
 |some o=>
  have d:=(aB.1 e).1;have a:j∈news h (h++g):=by simp[news];omega
  cases o with
  |cells c st=>cases st<;>simp[a]
  |_=>rfl
end Go.V
namespace Go.VZ
open Go Go.V Go.Proofs Tryz TL
theorem QW{f:FuncId}{args:LA}{h g:H}{r v:AV}(hb:dl C.P f=true) (hm:C.mode f=.openF) (hc:Go.V.Call C f args h=some (r,h++g)) (hs:eW (h++bo g) cM r=some v):aj C h (.func f []) (some args)=some (v,h++bo g):=by simp only[aj,hb,if_true,br];unfold dJ;rw[hm];dsimp only;rw[hc];simp only[IR,if_true,E2,hs]
def Pre(h0 h:H):Prop:=∃g,h=h0++g
theorem Pre.refl(h:H):Pre h h:=⟨[],s_⟩
theorem Pre.app{h0 h:H}(p:Pre h0 h) (g:H):Pre h0 (h++g):=by obtain⟨a,rfl⟩:=p;exact⟨a++g,s_⟩
theorem Pre.set{h0 h:H}(p:Pre h0 h){i:Nat}(hi:h0.length<=i) (o:VObj):Pre h0 (h.set i o):=by obtain⟨a,rfl⟩:=p;exact⟨a.set (i-h0.length) o,by rw[List.set_append];simp[show ¬i<h0.length by omega]⟩
theorem Pre.get{h0 h:H}(p:Pre h0 h){j:Nat}{o:VObj}(e:h0[j]?=some o):h[j]?=some o:=by obtain⟨a,rfl⟩:=p;exact ga e
theorem Pre.trans{a b c:H}(p:Pre a b) (q:Pre b c):Pre a c:=by obtain⟨g,rfl⟩:=p;obtain⟨k,rfl⟩:=q;exact⟨g++k,s_⟩
theorem Pre.len{h0 h:H}(p:Pre h0 h):h0.length<=h.length:=by obtain⟨a,rfl⟩:=p;simp
theorem O6(a b:T) (hs:a.size<4000000) (hs2:b.size<4000000):az C 206 [enc a,enc b]=some (.bool (decide (a.cmp b=0))):=by
 refine bL func206 rfl λR c=>?_
 have d:=uj a b hs hs2;simp[go_sem,dP,terms,vD,Ia,d];refine c ⟨.bool (decide (a.cmp b=0)),by simp[ag,cO,f206,go_sem],aU rfl rfl⟩
theorem I9(a b:T) (hs:a.size<4000000) (hs2:b.size<4000000) (h:H):aj C h (.func 206 []) (some [enc a,enc b])=some (.bool (decide (a.cmp b=0)),h):=an (fA _ _) (by simp[bF]) s_ (O6 a b hs hs2)
theorem Mr(a:T):az C 208 [enc a]=some (.bool (iv a)):=by
 refine bL func208 rfl λR b=>?_
 simp[go_sem,dP,gx];refine b ⟨.bool (iv a),by simp[ag,cO,f208,go_sem,iv],aU rfl rfl⟩
theorem DY(a:T) (h:H):aj C h (.func 208 []) (some [enc a])=some (.bool (iv a),h):=an (fv _) (by simp[bF]) s_ (Mr a)
def po(x:T):AV:=.agg [.str x.name,.int .i64 x.sort]
theorem S3(x:T):az C 226 [enc x]=some (po x):=by
 refine bL func226 rfl λR d=>?_
 have f:aJ C.P [.cells (enc x).cells .live,.cells [.str ⟨#[]⟩,.int .i64 0] .live] 9 (.ptr 0 1)=some (.str x.name):=by simp[aJ,aY,a9,s9,aq]
 have g:aJ C.P [.cells (enc x).cells .live,.cells [.str ⟨#[]⟩,.int .i64 0] .live] 3 (.ptr 0 2)=some (.int .i64 x.sort):=by simp[aJ,aY,a3,s3,aq]
 have z:iV C.P 249=some (.agg [.str ⟨#[]⟩,.int .i64 0]):=k_;have b:fV C.P 249 [(0,.str x.name),(1,.int .i64 x.sort)]=some (po x):=by
  have e:∀(n:ByteArray) (s:Int),fV C.P 249 [(0,.str n),(1,.int .i64 s)]=some (.agg [.str n,.int .i64 s]):=λn s=>k_
  exact e _ _
 have a:cw C.P 249=some 2:=k_;have c:gW C.P 249=some true:=k_;have st:ah C.P [.cells (enc x).cells .live,.cells [.str ⟨#[]⟩,.int .i64 0] .live] 249 (.ptr 1 0) (po x)=some [.cells (enc x).cells .live,.cells [.str x.name,.int .i64 x.sort] .live]:=by simp[ah,a,po]
 simp[go_sem,gx,z,am];rw[<-aq];simp[go_sem,f,b,st,au];refine d ⟨po x,by simp[ag,cO,f226,go_sem,aJ,aY,a,c,po],aU rfl rfl⟩
theorem I7(x:T) (h:H):aj C h (.func 226 []) (some [enc x])=some (po x,h):=an (fv _) (by simp[bF]) s_ (S3 x)
theorem IF:dA prog program=some prog:=rfl
theorem rD{t:TypeId}{d:TypeDesc}(h:prog.underlying t=some d):dA prog (underlying t)=some d:=by unfold underlying;rw[eE,IF,cZ,h];rfl
theorem eqS(n:Nat) (a b:ByteArray):dA prog (Op.equalIn (n+1) 9 (.string a) (.string b))=some (a==b):=by rw[Op.equalIn,eE,rD underlying9];rfl
theorem eqI(n:Nat) (a b:Int):dA prog (Op.equalIn (n+1) 3 (.int .i64 a) (.int .i64 b))=some (a==b):=by rw[Op.equalIn,eE,rD underlying3];rfl
theorem pt9(a:ByteArray) (s:Int):dA prog (part 9 #[.string a,.int .i64 s] 0)=some (.string a):=k_
theorem pt3(a:ByteArray) (s:Int):dA prog (part 3 #[.string a,.int .i64 s] 1)=some (.int .i64 s):=k_
theorem eqK(n:Nat) (a b:ByteArray) (s r:Int):dA prog (Op.equalIn (n+2) 249 (.agg #[.string a,.int .i64 s]) (.agg #[.string b,.int .i64 r]))=some ((a==b)&&(s==r)):=by have c:prog.stoodInHeld 249=false:=k_;rw[Op.equalIn,eE,rD underlying249];simp only[cZ];cases d:(a==b)<;>cases e:(s==r)<;>simp[eE,IF,c,pt9,pt3,eqS,eqI,d,e,gy]
theorem Nn(a:ByteArray) (s:Int):dA prog (Instr.checkKey false 10000 249 (.agg #[.string a,.int .i64 s]))=some ():=k_
theorem P5(a b:ByteArray) (s r:Int) (v:AV):qV prog false 249 (.agg [.str a,.int .i64 s]) [(.agg [.str b,.int .i64 r],v)]=some (if(a==b&&s==r)=true then some 0 else none):=by have c:fI (.agg [.str a,.int .i64 s])=some (.agg #[.string a,.int .i64 s]):=rfl;have d:ju [(.agg [.str b,.int .i64 r],v)] 0=some [{key:=.agg #[.string b,.int .i64 r],val:=.int .i64 0,born:=0}]:=rfl;unfold qV;rw[c,d];dsimp only;unfold Fh;rw[eE,Nn];simp only[cZ];unfold Instr.findKey;rw[eE,rD underlying249];simp only[cZ,Instr.findNow,Instr.sameNow];unfold Instr.findAsking;rw[eE];have:dA prog (Op.equal 249 (.agg #[.string a,.int .i64 s]) (.agg #[.string b,.int .i64 r]))=some ((a==b)&&(s==r)):=eqK 9998 a b s r;rw[this];cases h:(a==b&&s==r)<;>simp[gy,Instr.findAsking]
theorem M9(a:ByteArray) (s:Int):qV prog false 249 (.agg [.str a,.int .i64 s]) []=some none:=by have b:fI (.agg [.str a,.int .i64 s])=some (.agg #[.string a,.int .i64 s]):=rfl;unfold qV;rw[b];dsimp only[ju];unfold Fh;rw[eE,Nn];simp only[cZ];unfold Instr.findKey;rw[eE,rD underlying249];rfl
theorem U8:C.P.underlying 251=some (.map 249 41):=underlying251
def uF(h:H) (q:Nat) (x y:T):Prop:=h[q]?=some (.map [(po x,enc y)])
theorem Vc{h:H}{q:Nat}{x y:T}(t:T) (hq:uF h q x y):mH C.P h 251 (.mp q) (po t) true=some (if t.name=x.name/\t.sort=x.sort then .tuple [enc y,.bool true]else .tuple [.agg zc,.bool false]):=by
 have a:=P5 t.name x.name t.sort x.sort (enc y);have b:iV C.P 41=some (.agg zc):=zV;unfold mH;rw[U8];dsimp only;rw[show h[q]?=some (.map [(po x,enc y)])from hq];dsimp only;rw[show qV C.P (List.isEmpty [(po x,enc y)]) 249 (po t) [(po x,enc y)]=_ from a];rw[UB];by_cases e:t.name=x.name/\t.sort=x.sort
 ·rw[if_pos e,if_pos (by simp[e.1,e.2])];rfl
 rw[if_neg e,if_neg (by simpa using e)];dsimp only;rw[b];rfl
theorem TB{h:H}{q:Nat}(x y:T) (hq:h[q]?=some (.map [])):er C.P h 251 (.mp q) (po x) (enc y)=some (h.set q (.map [(po x,enc y)])):=by have a:=M9 x.name x.sort;unfold er;rw[U8];dsimp only;rw[hq];dsimp only;rw[show qV C.P false 249 (po x) []=_ from a];rw[show au (enc y)=true from dZ y,if_neg s_];dsimp only;rw[if_pos (show(fI (po x)).isSome=true from rfl)];rfl
end Go.VZ
namespace Go.VZ
open Go Go.V Go.Proofs Tryz TL
mutual
def gl(x y:T):T->T
 |.mk k n s l=>if k=1 then(if n=x.name/\s=x.sort then y else .mk k n s l)else .mk k n s (IH x y l)
def IH(x y:T):Lq->Lq
 |[]=>[]
 |t::l=>gl x y t::IH x y l
end
theorem Bk(x y:T):∀l,IH x y l=l.map (gl x y)
 |[]=>rfl
 |t::l=>by rw[IH,Bk x y l];rfl
theorem Ck(x y t:T):gl x y t=if t.kind=1 then(if t.name=x.name/\t.sort=x.sort then y else t)else .mk t.kind t.name t.sort (t.kids.map (gl x y)):=by cases t;rw[gl,Bk];rfl
theorem T.ext{a b:T}(h1:a.kind=b.kind) (h2:a.name=b.name) (h3:a.sort=b.sort) (h4:a.kids=b.kids):a=b:=by cases a;cases b;simp only[T.kind,T.name,T.sort,T.kids]at h1 h2 h3 h4;subst h1;subst h2;subst h3;subst h4;rfl
theorem Bl{x y:T}(hx:x.kind=1) (hk:x.kids=[]):∀t:T,jI t->gl x y t=iL x y t:=by
 refine T.ind λt f d=>?_
 rw[Ck,uT];by_cases a:t.kind=1
 ·rw[if_pos a];have b:=d t (dD t) a;by_cases c:t.name=x.name/\t.sort=x.sort
  ·rw[if_pos c,if_pos (cmp_zero.2 (T.ext (a.trans hx.symm) c.1 c.2 (b.trans hk.symm)))]
  rw[if_neg c,if_neg (λe=>c (by rw[cmp_zero.1 e];exact⟨rfl,rfl⟩))];exact T.ext rfl rfl rfl (by rw[b];rfl)
 rw[if_neg a,if_neg (λe=>a (by rw[cmp_zero.1 e];exact hx))];congr 1
 exact bf λk hk=>f k hk (kI d hk)
theorem O3{hf:H}{id:Nat}{l:Lq}{cap:Option Nat}(hid:hf[id]?=some (.cells (bZ l) .frozen)) (n:Nat) (hn:900000+(bZ l).length+3<=n):eW hf (n+1) (.msl id 0 4 l.length cap)=some (terms l):=by have a:=(dM (h:=hf) (tj l) (rX l) n hn).1;have b:=fU l;simp only[eW,hid,a];rw[if_pos o_,eH,xB];rfl
theorem O2{hf:H}{v:AV}{l:Lq}(k s:Int) (nm:ByteArray) (n:Nat) (e1:eW hf (n+1) v=some (terms l)):eW hf (n+6) (.agg [.int .i64 k,.str nm,.int .i64 s,v])=some (.agg [.int .i64 k,.str nm,.int .i64 s,terms l]):=by
 have a:∀(m:Nat) (z:Int),eW hf (m+1) (.int .i64 z)=some (.int .i64 z):=λ_ _=>rfl
 have b:∀(m:Nat) (z:ByteArray),eW hf (m+1) (.str z)=some (.str z):=λ_ _=>rfl
 have c:fJ hf (n+5) [.int .i64 k,.str nm,.int .i64 s,v]=some [.int .i64 k,.str nm,.int .i64 s,terms l]:=by simp only[fJ,e1,a,b]
 have d:eW hf (n+6) (.agg [.int .i64 k,.str nm,.int .i64 s,v])=(match fJ hf (n+5) [.int .i64 k,.str nm,.int .i64 s,v]with
  |some l=>some (.agg l)
  |none=>none):=rfl
 rw[d,c]
theorem VK{hf:H}{id:Nat}{l:Lq}{cap:Option Nat}(hid:hf[id]?=some (.cells (bZ l) .frozen)) (hl:l.length<=20000) (k s:Int) (nm:ByteArray):eW hf cM (.agg [.int .i64 k,.str nm,.int .i64 s,.msl id 0 4 l.length cap])=some (.agg [.int .i64 k,.str nm,.int .i64 s,terms l]):=by have a:=fU l;exact O2 k s nm 999994 (O3 hid 999994 o_)
def zs(n:Nat):LA:=(List.replicate n zc).flatten
theorem Hw(n:Nat):zs (n+1)=zc++zs n:=by rw[zs,List.replicate_succ,List.flatten_cons];rfl
theorem Yn(wr:Bool) (h:H) (n:Nat) (h0:0<n) (hn:n<=1000000):iY C.P wr h 32 (.int .i64 n) (.int .i64 n)=some (.msl h.length 0 4 n (some n),h++[.cells (zs n) .live]):=by have a:(n:Int)<=1073741824:=o_;have b:¬n=0:=o_;simp[iY,u23,s25,b25,zV,z25,a,b,am,zs,zc]
theorem stZ{h:H}{id:Nat}{l:Lq}{rest:LA}(t:T) (hid:h[id]?=some (.cells (bZ l++(zc++rest)) .live)):ah C.P h 41 (.ptr id (4*l.length)) (enc t)=some (h.set id (.cells (bZ (l++[t])++rest) .live)):=by
 have a:=fU l;have b:bZ (l++[t])=bZ l++(enc t).cells:=by simp[bZ]
 have c:(enc t).cells.length=4:=by rw[aq];rfl
 have ev:enc t=.agg (enc t).cells:=by rw[aq,bV]
 have d:(bZ l++(zc++rest)).take (4*l.length)=bZ l:=by rw[bq o_,bJ o_]
 have e:(bZ l++(zc++rest)).drop (4*l.length+4)=rest:=by rw[<-List.append_assoc,jC (by simp[zc,a])]
 rw[b];generalize f:(enc t).cells=cc at *;rw[ev];simp only[ah,hid,s25];rw[if_pos ⟨c,by simp only[List.length_append,a,zc,aL,bB];omega⟩,d,e]
theorem ZH{id n k:Nat}{c:Option Nat}(hk:k<n):aZ C.P 32 (.msl id 0 4 n c) (.int .i64 k)=some (.ptr id (4*k)):=by simp[aZ,u23,s25,hk,hJ]
def zA{α:Type}(p:α->Bool):List α->Nat->Int
 |[],_=>-1
 |a::l,k=>if p a=true then k else zA p l (k+1)
theorem Eu{α:Type}(p:α->Bool):∀(l:List α) (k:Nat),decide (0<=zA p l k)=l.any p
 |[],k=>by simp[zA]
 |a::l,k=>by
  rw[zA,mD];by_cases h:p a=true
  ·rw[if_pos h,h,Bool.true_or,decide_eq_true o_]
  rw[if_neg h,Eu p l (k+1)];simp[h]
def XC(l:Lq) (g:FuncId) (caps:LA) (p:T->Bool) (h0:H) (m:Nat) (st:PT) (h:H):Prop:=∃k:Nat,m=l.length-k/\k<=l.length/\h=h0/\st.get 0=terms l/\st.get 1=.func g caps/\st.get 7=.int .i64 l.length/\st.get 8=.int .i64 k/\zA p l 0=zA p (l.drop k) k
theorem Ka(l:Lq) (g:FuncId) (caps:LA) (p:T->Bool) (hl:l.length<4000000) (hp:∀k∈l,∀h,aj C h (.func g caps) (some [enc k])=some (.bool (p k),h)) (h0:H):Go.V.Call C 85 [terms l,.func g caps] h0=some (.int .i64 (zA p l 0),h0):=by
 suffices hh:∃r j,Go.V.Call C 85 [terms l,.func g caps] h0=some (r,j)/\(r=.int .i64 (zA p l 0)/\j=h0) by
  obtain⟨r,j,a,rfl,rfl⟩:=hh;exact a
 refine kA rfl func85 rfl k_ (by simp[f85]) λR t=>?_
 have n:=dX l;simp[go_sem,n];refine bX (XC l g caps p h0) l.length ⟨0,rfl,aO _,rfl,g_,g_,g_,g_,rfl⟩ ?_;rintro m st h ⟨k,rfl,x,rfl,u,v,o,q,d⟩;by_cases b:k<l.length
 ·have c:(k:Int)<l.length:=o_;have e:=dh l k b;have f:=hp l[k] (aG b);have w:=wS k o_;rw[aI b,zA]at d;by_cases i:p l[k]=true
  ·rw[if_pos i]at d;rw[i]at f;simp[go_sem,u,v,o,q,c,e,ee,f];refine t _ _ _ (.inr rfl) ⟨.int .i64 k,by simp[ag,cO,f85,go_sem],by rw[d],rfl⟩
  rw[if_neg i]at d;have s:p l[k]=false:=by simpa using i
  rw[s]at f;simp[go_sem,u,v,o,q,c,e,ee,f,-Int.natCast_add,w];exact⟨l.length-(k+1),o_,k+1,rfl,b,rfl,g_,g_,g_,g_,d⟩
 have:k=l.length:=o_;subst this;rw[bH,zA]at d;simp[go_sem,o,q];refine t _ _ _ (.inr rfl) ⟨.int .i64 (-1),by simp[ag,cO,f85,go_sem],by rw[d],rfl⟩
theorem FL(l:Lq) (g:FuncId) (caps:LA) (p:T->Bool) (hl:l.length<4000000) (hp:∀k∈l,∀h,aj C h (.func g caps) (some [enc k])=some (.bool (p k),h)):az C 224 [terms l,.func g caps]=some (.bool (l.any p)):=by
 refine bL func224 rfl λR a=>?_
 have b:∀h,aj C h (.func 85 []) (some [terms l,.func g caps])=some (.int .i64 (zA p l 0),h):=λh=>(eT k_ rfl).trans (Ka l g caps p hl hp h)
 have c:=Eu p l 0;simp[go_sem,dP,b];refine a ⟨.bool (decide (0<=zA p l 0)),by simp[ag,cO,f224,go_sem],by rw[c];exact aU rfl rfl⟩
theorem Sm(x t:T):occ x t=(decide (x.cmp t=0)||t.kids.any (occ x)):=by rw[fc];simp only[occ,bz,decide_eq_true_eq,dT];rw[mem_walk,cmp_zero]
theorem Vk(x:T) (h:H):aJ C.P h 41 (.iptr (.agg (enc x).cells) 0)=some (enc x):=by rw[show AV.agg (enc x).cells=enc x by rw[aq,bV]];exact ee x h
theorem Ti(x t:T) (hc:az C 210 [enc x,enc t]=some (.bool (occ x t))) (h:H):aj C h (.func 225 [.iptr (.agg (enc x).cells) 0]) (some [enc t])=some (.bool (occ x t),h):=by
 refine sU k_ rfl (l':=[enc t,.iptr (.agg (enc x).cells) 0]) (by rw[bV,aq];rfl) (by simp[bF];rfl) s_ ?_ h;refine bL func225 rfl λR a=>?_
 have b:∀h,aj C h (.func 210 []) (some [enc x,enc t])=some (.bool (occ x t),h):=λh=>an (fA _ _) (by simp[bF]) s_ hc
 have c:aJ C.P [.cells (enc t).cells .live] 41 (.ptr 0 0)=some (enc t):=by rw[aq];exact Er t
 simp[go_sem,gx];rw[<-aq];simp[go_sem,c,Vk,b];refine a ⟨.bool (occ x t),by simp[ag,cO,f225,go_sem],aU rfl rfl⟩
theorem KG(x t:T) (hx:x.size<4000000) (ht:t.size<4000000) (hc:∀k∈t.kids,az C 210 [enc x,enc k]=some (.bool (occ x k))):az C 210 [enc x,enc t]=some (.bool (occ x t)):=by
 refine bL func210 rfl λR n=>?_
 have fin:∀(st:PT) (h:H) (e:Bool),st.get 4=.bool e->occ x t=e->R .ret st h:=λst h e o r=>n ⟨.bool e,by simp[ag,cO,f210,o],by rw[r];exact aU rfl rfl⟩
 obtain⟨b,a⟩:∃g:H,g=two x t:=⟨_,rfl⟩
 have d:aJ C.P b 41 (.ptr 0 0)=some (enc x):=by rw[a];exact pZ x t
 have f:aJ C.P b 41 (.ptr 1 0)=some (enc t):=by rw[a];exact pX x t
 have s:aJ C.P b 32 (.ptr 1 3)=some (terms t.kids):=by rw[a];exact oo x t
 have i:=I9 x t hx ht;have j:=len_sizes t.kids;have u:=size_kids t;have v:aj C b (.func 224 []) (some [terms t.kids,.func 225 [.ptr 0 0]])=some (.bool (t.kids.any (occ x)),b):=by refine yL (l:=[(0,(enc x).cells)]) k_ rfl (a':=terms t.kids) rfl rfl ?_ s_ (FL t.kids 225 [.iptr (.agg (enc x).cells) 0] (occ x) o_ λk w h=>Ti x k (hc k w) h) rfl;intro p m;simp only[aS]at m;subst m;refine⟨by rw[a,aq];rfl,by rw[aq];rfl,by rw[aq];rfl,by rw[aq];simp⟩
 have c:=Sm x t;unfold two at a;simp[go_sem,gx];rw[<-a];by_cases q:x.cmp t=0
 ·rw[decide_eq_true q,Bool.true_or]at c;simp[go_sem,d,f,i,q];exact fin _ _ true g_ c
 rw[decide_eq_false q,gQ]at c;simp[go_sem,d,f,s,i,q,v];exact fin _ _ (t.kids.any (occ x)) g_ c
theorem BJ(x:T) (hx:x.size<4000000):∀t:T,t.size<4000000->az C 210 [enc x,enc t]=some (.bool (occ x t)):=by refine T.ind λt b c=>KG x t hx c λk a=>b k a (by have:=kid_size a;omega)
theorem I8(x t:T) (hx:x.size<4000000) (ht:t.size<4000000) (h:H):aj C h (.func 210 []) (some [enc x,enc t])=some (.bool (occ x t),h):=an (fA _ _) (by simp[bF]) s_ (BJ x hx t ht)
def XF(l:Lq) (x:T) (m:Nat) (st:PT) (h:H):Prop:=∃k:Nat,m=l.length-k/\k<=l.length/\h[0]?=some (.cells (enc x).cells .live)/\st.get 0=terms l/\st.get 3=.ptr 0 0/\st.get 5=.int .i64 k/\decide (x∈l)=decide (x∈l.drop k)
theorem eY{h:H}{i:Nat}{t:T}(hi:h[i]?=some (.cells (enc t).cells .live)):aJ C.P h 41 (.ptr i 0)=some (enc t):=sg t hi
theorem M2(l:Lq) (x:T) (hs:∀t∈l,t.size<4000000) (hx:x.size<4000000) (hl:l.length<4000000):az C 101 [terms l,enc x]=some (.bool (decide (x∈l))):=by
 refine bL func101 rfl λR u=>?_
 have fin:∀(st:PT) (h:H) (e:Bool),st.get 4=.bool e->decide (x∈l)=e->R .ret st h:=λst h e v i=>u ⟨.bool e,by simp[ag,cO,f101,v],by rw[i];exact aU rfl rfl⟩
 have c:=dX l;simp[go_sem,gx];rw[<-aq];refine bX (XF l x) l.length ⟨0,rfl,aO _,rfl,g_,g_,g_,rfl⟩ ?_;rintro m st h ⟨k,rfl,y,p,j,q,n,d⟩;have r:=eY p;by_cases a:k<l.length
 ·have b:(k:Int)<l.length:=o_;have f:=dh l k a;have w:=wS k o_;have s:=nH l[k] x (hs _ (aG a)) hx;rw[aI a]at d;by_cases g:l[k].cmp x=0
  ·have i:=cmp_zero.1 g;simp[go_sem,j,q,n,c,b,f,ee,r,s,g];exact fin _ _ true g_ (by rw[d];simp[i])
  have o:¬x=l[k]:=λe=>g (cmp_zero.2 e.symm)
  simp[go_sem,j,q,n,c,b,f,ee,r,s,g,-Int.natCast_add,w];exact⟨l.length-(k+1),o_,k+1,rfl,a,p,g_,g_,g_,by rw[d];simp only[aV,o,false_or]⟩
 have:k=l.length:=o_;subst this;rw[bH]at d;simp[go_sem,j,n,c];exact fin _ _ false g_ (by rw[d];simp)
theorem KH(x t:T) (hx:x.size<4000000) (ht:t.size<4000000):az C 178 [enc x,enc t]=some (.bool (occ x t)):=by
 refine bL func178 rfl λR c=>?_
 obtain⟨b,a⟩:∃g:H,g=two x t:=⟨_,rfl⟩
 have d:aJ C.P b 41 (.ptr 0 0)=some (enc x):=by rw[a];exact pZ x t
 have e:aJ C.P b 41 (.ptr 1 0)=some (enc t):=by rw[a];exact pX x t
 have f:=Dc t ht;have j:=qw bD kd t;have i:∀h,aj C h (.func 101 []) (some [terms (bm bD t),enc x])=some (.bool (occ x t),h):=λh=>an (args':=[terms (bm bD t),enc x]) (by rw[bV];rfl) (by simp[bF];rfl) s_ (M2 _ x (pU rW t ht) hx o_)
 unfold two at a;simp[go_sem,gx];rw[<-a];simp[go_sem,d,e,f,i];refine c ⟨.bool (occ x t),by simp[ag,cO,f178,go_sem],aU rfl rfl⟩
theorem JC(x t:T) (hx:x.size<4000000) (ht:t.size<4000000) (h:H):aj C h (.func 178 []) (some [enc x,enc t])=some (.bool (occ x t),h):=an (fA _ _) (by simp[bF]) s_ (KH x t hx ht)
theorem J3{x y:T}(n:Nat) (hy:y.size<=n) (h0:0<n) (t:T):(iL x y t).size<=n*t.size:=by
 induction t using T.ind with
 |_ t c=>
  have d:=size_kids t;rw[uT];split
  ·have:=size_pos t;exact cJ hy (Nat.le_mul_of_pos_right _ this)
  rw[size_kids];show sizes (t.kids.map (iL x y))+1<=_;have:∀m:Lq,(∀k∈m,(iL x y k).size<=n*k.size)->sizes (m.map (iL x y))<=n*sizes m:=by
   intro m;induction m with
   |nil=>intro _;simp[sizes]
   |cons a m e=>
    intro b;have g:=b a s_;have h:=e λk f=>b k (by simp[f])
    simp only[aM,sizes,qd];omega
  have:=this t.kids c;rw[d,qd];omega
def XG(x y t:T) (m:Nat) (st:PT) (h:H):Prop:=∃(k:Nat) (v:AV),m=t.kids.length-k/\k<=t.kids.length/\h[0]?=some (.cells (enc t).cells .live)/\h[1]?=some (.cells (enc x).cells .live)/\h[2]?=some (.cells (enc y).cells .live)/\h[3]?=some (.cells zc .live) /\
 st.get 3=.ptr 0 0/\st.get 4=.ptr 1 0/\st.get 5=.ptr 2 0/\st.get 6=.ptr 3 0/\st.get 7=v/\st.get 8=.int .i64 k/\OwnR 41 h v (((t.kids.take k).map (iL x y)).map enc)
theorem px(a b c:T):iT [enc a,enc b,enc c]=some [enc a,enc b,enc c]:=by rw[bV a,bV b,bV c];rfl
theorem kM{h:H}{i:Nat}(t:T) (hi:h[i]?=some (.cells zc .live)):ah C.P h 41 (.ptr i 0) (enc t)=some (h.set i (.cells (enc t).cells .live)):=GD t hi
theorem Sf(x y t:T) (hx:x.size<4000000) (_hy:y.size<4000000) (ht:t.size<4000000) (hc:∀k∈t.kids,az C 179 [enc k,enc x,enc y]=some (enc (iL x y k))):az C 179 [enc t,enc x,enc y]=some (enc (iL x y t)):=by
 refine oV rfl func179 rfl k_ (by simp[f179]) λR J=>?_
 have fin:∀(s:PT) (b:T) (h:H),s.get 6=.ptr 3 0->h[3]?=some (.cells (enc b).cells .live)->b=iL x y t->R .ret s h:=λs b h K L ht=>by
  refine J _ _ _ (.inr rfl) ⟨enc b,?_,?_⟩
  ·simp[ag,cO,f179,K,eY L]
  rw[<-ht];exact aU (oh b) (bF b)
 have q':∀(s:PT) (b:T) (h:H),s.get 6=.ptr 3 0->h[3]?=some (.cells (enc b).cells .live)->b=iL x y t->R .normal s h:=λs b h K L ht=>by
  refine J _ _ _ (.inl rfl) ⟨enc b,?_,?_⟩
  ·simp[ag,cO,f179,K,eY L]
  rw[<-ht];exact aU (oh b) (bF b)
 have d:=uT x y t;have q2:=size_kids t;have q1:=len_sizes t.kids;have r:=dX t.kids;obtain⟨p,a⟩:∃g:H,g=[.cells (enc t).cells .live,.cells (enc x).cells .live,.cells (enc y).cells .live,.cells zc .live]:=⟨_,rfl⟩
 have c:p[0]?=some (.cells (enc t).cells .live):=by rw[a];rfl
 have n:p[1]?=some (.cells (enc x).cells .live):=by rw[a];rfl
 have o:p[2]?=some (.cells (enc y).cells .live):=by rw[a];rfl
 have l:p[3]?=some (.cells zc .live):=by rw[a];rfl
 have M:=eY c;have u:=eY n;have I:=eY o;have c1:=nH t x ht hx;have e3:=kM y l;have w:=(aB.1 l).1;simp[go_sem,gx,zV,am];rw[<-aq t,<-aq x,<-aq y];unfold zc at a;rw[<-a];by_cases q:t.cmp x=0
 ·rw[if_pos q]at d;simp[go_sem,M,u,I,c1,q,e3];exact fin _ y _ g_ (aD w) d.symm
 rw[if_neg q]at d;simp[go_sem,M,u,c1,q];have z:p.length=4:=by rw[a];rfl
 refine bX (XG x y t) t.kids.length ⟨0,.isl [] (.tok 4),rfl,aO _,ga c,ga n,ga o,ga l,g_,g_,g_,g_,by simp[go_sem,z],g_,.inr ⟨4,rfl,by rw[a];rfl⟩⟩ ?_;clear z e3 w M u I c n o l a p;rintro m s h ⟨k,v,rfl,hk,c,n,o,l,N,O,Q,g6,g7,S,e⟩;have U:=wh c;have u:=eY n;have I:=eY o;by_cases f:k<t.kids.length
 ·have A:(k:Int)<t.kids.length:=o_;have V:=dh t.kids k f;have w2:=wS k o_;have ck:∀h,aj C h (.func 179 []) (some [enc t.kids[k],enc x,enc y])=some (enc (iL x y t.kids[k]),h):=λh=>an (px _ _ _) (by simp[bF]) s_ (hc _ (aG f))
  have⟨v',h',ha,ho,i,q3⟩:=jN (ys:=[iL x y t.kids[k]]) (x:=.full) e (by simp only[ax,bU,aL,bB];omega);have X:(t.kids.take k).map (iL x y)++[iL x y t.kids[k]]=(t.kids.take (k+1)).map (iL x y):=by rw[<-aW f,List.map_append];rfl
  rw[X]at ho;simp only[aM,bM]at ha;have B:=bn e c;have D:=bn e n;have E:=bn e o;simp[go_sem,N,S,U,r,A];refine eQ 7 _ (by simp[gM]) rfl ?_;simp[go_sem,N,O,Q,g7,S,U,V,ee,u,I,ck,fO,ha,-Int.natCast_add,w2];refine⟨?_,t.kids.length-(k+1),o_,k+1,v',rfl,f,i.get c B,i.get n D,i.get o E,i.get l (bn e l),g_,g_,g_,g_,g_,g_,ho⟩;rcases e with rfl|⟨id,rfl,hd⟩
  ·simp[go_sem,O,Q,ff,fL,fP,iC,dy,cF]
  simp only[cG,ne_eq,aA]at B D E;simp[go_sem,O,Q,ff,fL,fP,iC,dy,cF]
  (try omega)
 have:k=t.kids.length:=o_;subst this;rw[ak]at e;generalize Y:(t.kids.map (iL x y)).map enc=es at e;obtain⟨j,rfl⟩:=e.isl;have F:ah C.P h 32 (.ptr 0 3) (.isl es j)=some (h.set 0 (.cells [.int .i64 t.kind,.str t.name,.int .i64 t.sort,.isl es j] .live)):=by rw[aq]at c;simp[ah,c,s23]
 have Z:=(aB.1 c).1;have e5:aJ C.P (h.set 0 (.cells [.int .i64 t.kind,.str t.name,.int .i64 t.sort,.isl es j] .live)) 41 (.ptr 0 0)=some (.agg [.int .i64 t.kind,.str t.name,.int .i64 t.sort,.isl es j]):=by simp[aJ,aD Z,aY,a25,s25]
 have n3:(h.set 0 (.cells [.int .i64 t.kind,.str t.name,.int .i64 t.sort,.isl es j] .live))[3]?=some (.cells zc .live):=by rw[aC o_];exact l
 generalize h.set 0 (.cells [.int .i64 t.kind,.str t.name,.int .i64 t.sort,.isl es j] .live)=h2 at F e5 n3;have e6:ah C.P h2 41 (.ptr 3 0) (.agg [.int .i64 t.kind,.str t.name,.int .i64 t.sort,.isl es j])=some (h2.set 3 (.cells [.int .i64 t.kind,.str t.name,.int .i64 t.sort,.isl es j] .live)):=by simp[ah,n3,s25,zc]
 have e7:=(aB.1 n3).1;generalize G:AV.agg [.int .i64 t.kind,.str t.name,.int .i64 t.sort,.isl es j]=zz at e5 e6;simp[go_sem,N,g6,g7,S,U,r,F,e5,e6];refine J _ _ _ (.inr rfl) ⟨zz,?_,?_⟩
 ·simp[ag,cO,f179,go_sem,g6,aJ,aD e7,aY,a25,s25,<-G]
 rw[d,bV,<-G,<-Y];exact aU rfl rfl
theorem Ga(x y:T) (hx:x.size<4000000) (hy:y.size<4000000) (t:T):t.size<4000000->az C 179 [enc t,enc x,enc y]=some (enc (iL x y t)):=by
 induction t using T.ind with
 |_ t b=>exact λc=>Sf x y t hx hy c (λk a=>b k a (by have:=kid_size a;omega))
theorem Db(x y t:T) (hx:x.size<4000000) (hy:y.size<4000000) (ht:t.size<4000000) (h:H):aj C h (.func 179 []) (some [enc t,enc x,enc y])=some (enc (iL x y t),h):=an (px _ _ _) (by simp[bF]) s_ (Ga x y hx hy t ht)
theorem DK(x y:Operand) (a b:ByteArray):jU C.P .eql 9 x y (.str a) (.str b)=some (.bool (decide (a=b))):=by rw[zQ]
theorem OH(a b:T) (_ha:a.kids.length<4000000) (_hb:b.kids.length<4000000):az C 207 [enc a,enc b]=some (.bool (fH a b)):=by
 refine bL func207 rfl λR n=>?_
 have fin:∀(st:PT) (h:H) (e:Bool),st.get 4=.bool e->fH a b=e->R .ret st h:=λst h e o p=>n ⟨.bool e,by simp[ag,cO,f207,o],by rw[p];exact aU rfl rfl⟩
 obtain⟨d,c⟩:∃g:H,g=two a b:=⟨_,rfl⟩
 have s:aJ C.P d 3 (.ptr 0 0)=some (.int .i64 a.kind):=by rw[c];exact pY a b
 have k:aJ C.P d 3 (.ptr 1 0)=some (.int .i64 b.kind):=by rw[c];exact pW a b
 have l:aJ C.P d 9 (.ptr 0 1)=some (.str a.name):=by rw[c];exact qg a b
 have m:aJ C.P d 9 (.ptr 1 1)=some (.str b.name):=by rw[c];exact qf a b
 have a3:aJ C.P d 32 (.ptr 0 3)=some (terms a.kids):=by rw[c];exact ml a b
 have b3:aJ C.P d 32 (.ptr 1 3)=some (terms b.kids):=by rw[c];exact oo a b
 have q:=dX a.kids;have r:=dX b.kids;unfold two at c;simp[go_sem,gx];rw[<-c];by_cases f:a.kind=3
 rotate_left
 ·simp[go_sem,f];exact fin _ _ false g_ (by simp[fH,f])
 by_cases i:b.kind=3
 rotate_left
 ·simp[go_sem,k,f,i];exact fin _ _ false g_ (by simp[fH,i])
 by_cases j:a.name=b.name
 rotate_left
 ·simp[go_sem,k,l,m,DK,f,i,j];exact fin _ _ false g_ (by simp[fH,j])
 simp[go_sem,k,l,m,a3,b3,q,r,DK,f,i,j];exact fin _ _ (decide (a.kids.length=b.kids.length)) (by simp[go_sem];omega) (by simp[fH,f,i,j])
theorem Qe(a b:T) (ha:a.kids.length<4000000) (hb:b.kids.length<4000000) (h:H):aj C h (.func 207 []) (some [enc a,enc b])=some (.bool (fH a b),h):=an (fA _ _) (by simp[bF]) s_ (OH a b ha hb)
theorem OI(a b:T) (_ha:a.kids.length<4000000) (_hb:b.kids.length<4000000):az C 144 [enc a,enc b]=some (.bool (fH a b)):=by
 refine bL func144 rfl λR n=>?_
 have fin:∀(st:PT) (h:H) (e:Bool),st.get 4=.bool e->fH a b=e->R .ret st h:=λst h e o p=>n ⟨.bool e,by simp[ag,cO,f144,o],by rw[p];exact aU rfl rfl⟩
 obtain⟨d,c⟩:∃g:H,g=two a b:=⟨_,rfl⟩
 have s:aJ C.P d 3 (.ptr 0 0)=some (.int .i64 a.kind):=by rw[c];exact pY a b
 have k:aJ C.P d 3 (.ptr 1 0)=some (.int .i64 b.kind):=by rw[c];exact pW a b
 have l:aJ C.P d 9 (.ptr 0 1)=some (.str a.name):=by rw[c];exact qg a b
 have m:aJ C.P d 9 (.ptr 1 1)=some (.str b.name):=by rw[c];exact qf a b
 have a3:aJ C.P d 32 (.ptr 0 3)=some (terms a.kids):=by rw[c];exact ml a b
 have b3:aJ C.P d 32 (.ptr 1 3)=some (terms b.kids):=by rw[c];exact oo a b
 have q:=dX a.kids;have r:=dX b.kids;unfold two at c;simp[go_sem,gx];rw[<-c];by_cases f:a.kind=3
 rotate_left
 ·simp[go_sem,f];exact fin _ _ false g_ (by simp[fH,f])
 by_cases i:b.kind=3
 rotate_left
 ·simp[go_sem,k,f,i];exact fin _ _ false g_ (by simp[fH,i])
 by_cases j:a.name=b.name
 rotate_left
 ·simp[go_sem,k,l,m,DK,f,i,j];exact fin _ _ false g_ (by simp[fH,j])
 simp[go_sem,k,l,m,a3,b3,q,r,DK,f,i,j];exact fin _ _ (decide (a.kids.length=b.kids.length)) (by simp[go_sem];omega) (by simp[fH,f,i,j])
theorem JD(a b:T) (ha:a.kids.length<4000000) (hb:b.kids.length<4000000) (h:H):aj C h (.func 144 []) (some [enc a,enc b])=some (.bool (fH a b),h):=an (fA _ _) (by simp[bF]) s_ (OI a b ha hb)
def yi(p q:T):T × T × Int:=if p.sort≠q.sort/\p.sort≠0 then(p,q,11)else(p,q,0)
def kZ(p q:T):T × T × Int:=
 if p.kind≠1 then(p,q,11)
 else if q.kind=1 then(if(p.sort=q.sort/\p.cmp q<0)\/(p.sort≠q.sort/\q.sort=0)then yi q p else yi p q)
 else if p.sort≠0/\(q.kind≠2\/q.sort≠p.sort)then(p,q,11)
 else if occ p q=true then(p,q,12)else(p,q,0)
def jx(a b:T):T × T × Int:=if a.kind≠1 then kZ b a else kZ a b
theorem FQ(a b:T):match fB a b with
  |.bad e=>(jx a b).2.2=e/\e≠0
  |.ok x y=>jx a b=(x,y,0):=by
 unfold fB jx kZ yi Ai;by_cases f:a.kind=1<;>by_cases g:b.kind=1<;>simp only[ne_eq,f,g,not_true_eq_false,not_false_eq_true,if_false,if_true]
 ·by_cases c:(a.sort=b.sort/\a.cmp b<0)\/(¬a.sort=b.sort/\b.sort=0)
  ·rw[if_pos c,if_pos c,if_neg o_]
  rw[if_neg c,if_neg c];by_cases d:¬a.sort=b.sort/\¬a.sort=0
  ·rw[if_pos d,if_pos d];exact⟨rfl,o_⟩
  rw[if_neg d,if_neg d]
 ·by_cases c:¬a.sort=0/\(¬b.kind=2\/¬b.sort=a.sort)
  ·rw[if_pos c,if_pos c];exact⟨rfl,o_⟩
  rw[if_neg c,if_neg c];by_cases d:occ a b=true
  ·rw[if_pos d,if_pos d];exact⟨rfl,o_⟩
  rw[if_neg d,if_neg d]
 ·by_cases c:¬b.sort=0/\(¬a.kind=2\/¬a.sort=b.sort)
  ·rw[if_pos c,if_pos c];exact⟨rfl,o_⟩
  rw[if_neg c,if_neg c];by_cases d:occ b a=true
  ·rw[if_pos d,if_pos d];exact⟨rfl,o_⟩
  rw[if_neg d,if_neg d]
 exact⟨trivial,o_⟩
theorem ox(t:PT) (n m:Nat) (v:AV) (h:m≠n):(t.set n v).get m=t.get m:=by rw[PT.get_set,if_neg h]
theorem HA(t:PT) (n:Nat) (v:AV):(t.set n v).get n=v:=by rw[PT.get_set,if_pos rfl]
theorem nJ(t:T) (h:H):mg C.P h 41 (enc t)=some (.ptr h.length 0,h++[.cells (enc t).cells .live]):=by rw[gx,aq]
theorem mV:iV C.P 41=some (.agg zc):=zV
theorem kO{R:Ex->PT->H->Prop}{k:List It}{s:PT}{p q:T}(id:Nat) (d1 d2:Nat) (e:Int){p0 p1 p2 p3 p4:String}{a0 a1 a2 a3 a4:Array Edge}{n0 n1 n2 n3 n4:TypeId}
  (hm:C.mix 145 id=true) (g2:s.get 2=.ptr 0 0) (g3:s.get 3=.ptr 1 0) (g4:s.get 4=.ptr 2 0) (g5:s.get 5=.ptr 3 0) (hd:d1≠d2/\6<d1/\6<d2)
  (ht:zY #[⟨some d1,.load 41 (.tmp 2),n0,p0,a0,none⟩,⟨some d2,.load 41 (.tmp 3),n1,p1,a1,none⟩,⟨none,.store 41 (.tmp 4) (.tmp d1),n2,p2,a2,none⟩,⟨none,.store 41 (.tmp 5) (.tmp d2),n3,p3,a3,none⟩,⟨some 6,.assign (.const (.int .i64 e)),n4,p4,a4,none⟩]=true)
  (hf:sq #[⟨some d1,.load 41 (.tmp 2),n0,p0,a0,none⟩,⟨some d2,.load 41 (.tmp 3),n1,p1,a1,none⟩,⟨none,.store 41 (.tmp 4) (.tmp d1),n2,p2,a2,none⟩,⟨none,.store 41 (.tmp 5) (.tmp d2),n3,p3,a3,none⟩,⟨some 6,.assign (.const (.int .i64 e)),n4,p4,a4,none⟩] [([0],[]),([1],[]),([6,2],[6,2]),([7,3],[7,3]),([],[])]=true)
  (hk:∀(s':PT) (h':H),s'.get 4=.ptr 2 0->s'.get 5=.ptr 3 0->s'.get 6=.int .i64 e->h'[2]?=some (.cells (enc p).cells .live)->h'[3]?=some (.cells (enc q).cells .live)->N C 145 R k s' h') :
  W C 145 R (.region id #[⟨some d1,.load 41 (.tmp 2),n0,p0,a0,none⟩,⟨some d2,.load 41 (.tmp 3),n1,p1,a1,none⟩,⟨none,.store 41 (.tmp 4) (.tmp d1),n2,p2,a2,none⟩,⟨none,.store 41 (.tmp 5) (.tmp d2),n3,p3,a3,none⟩,⟨some 6,.assign (.const (.int .i64 e)),n4,p4,a4,none⟩] true) k s ([.cells (enc p).cells .live,.cells (enc q).cells .live,.cells zc .live,.cells zc .live]:H):=by
 refine xQ id _ hm ht ?_;show MX C 145 _ 4 _ 0 _ _ _ _;generalize b:([.cells (enc p).cells .live,.cells (enc q).cells .live,.cells zc .live,.cells zc .live]:H)++List.replicate _ VObj.void=H0;have a:Pl ([.cells (enc p).cells .live,.cells (enc q).cells .live,.cells zc .live,.cells zc .live]:H) H0 5:=b▸Pl.mk' _ 5;have c:H0.length=9:=a.len;clear b;have d:H0[0]?=some (.cells (enc p).cells .live):=a.get rfl;have f:H0[1]?=some (.cells (enc q).cells .live):=a.get rfl;have g:H0[2]?=some (.cells zc .live):=a.get rfl;have h:H0[3]?=some (.cells zc .live):=a.get rfl;have j:dE H0[4+0]?=true:=a.isV (i:=0) d_;have l:dE H0[4+1]?=true:=a.isV (i:=1) d_;have m:dE H0[4+2]?=true:=a.isV (i:=2) d_;have n:dE H0[4+3]?=true:=a.isV (i:=3) d_;have o:dE H0[4+4]?=true:=a.isV (i:=4) d_;refine cR (.ptr 0 0) (enc p) g_ (eY d) (dW o_) j (eN _ _ _) ?_;refine cR (.ptr 1 0) (enc q) (by simp only[ev];rw[ox _ _ _ _ o_,g3]) (eY f) (dW o_) l (eN _ _ _) ?_;refine iA 2 0 (enc p) (.cells (enc p).cells .live) ?_ ?_ (kM p g) o_ m ?_
 ·simp only[ev];rw[ox _ _ _ _ o_,ox _ _ _ _ o_,g4]
 ·simp only[ev];rw[ox _ _ _ _ o_,HA]
 rw[pR];have r:dE (H0.set 2 (.cells (enc p).cells .live))[4+3]?=true:=dg n o_;have t:dE (H0.set 2 (.cells (enc p).cells .live))[4+4]?=true:=dg o o_;have u:(H0.set 2 (.cells (enc p).cells .live))[3]?=some (.cells zc .live):=by rw[aC o_];exact h
 refine iA 3 0 (enc q) (.cells (enc q).cells .live) ?_ ?_ (kM q u) o_ r ?_
 ·simp only[ev];rw[ox _ _ _ _ o_,ox _ _ _ _ o_,g5]
 ·simp only[ev];rw[HA]
 rw[pR];refine bE (.int .i64 e) rfl rfl (dg t o_) rfl rfl ?_;refine⟨hf,hk _ _ ?_ ?_ ?_ ?_ ?_⟩
 ·rw[ox _ _ _ _ o_,ox _ _ _ _ o_,ox _ _ _ _ o_,g4]
 ·rw[ox _ _ _ _ o_,ox _ _ _ _ o_,ox _ _ _ _ o_,g5]
 ·rw[HA]
 ·rw[aC o_,aD o_]
 rw[aD (by simp;omega)]
theorem tZ(p q:T):aJ C.P ([.cells (enc p).cells .live,.cells (enc q).cells .live,.cells zc .live,.cells zc .live]:H) 41 (.ptr 0 0)=some (enc p):=eY rfl
theorem tY(p q:T):aJ C.P ([.cells (enc p).cells .live,.cells (enc q).cells .live,.cells zc .live,.cells zc .live]:H) 41 (.ptr 1 0)=some (enc q):=eY rfl
theorem DB(p q:T):aJ C.P ([.cells (enc p).cells .live,.cells (enc q).cells .live,.cells zc .live,.cells zc .live]:H) 3 (.ptr 0 0)=some (.int .i64 p.kind):=by simp[aJ,aY,a3,s3,aq]
theorem Ik(p q:T):aJ C.P ([.cells (enc p).cells .live,.cells (enc q).cells .live,.cells zc .live,.cells zc .live]:H) 3 (.ptr 1 0)=some (.int .i64 q.kind):=by simp[aJ,aY,a3,s3,aq]
theorem zO(p q:T):aJ C.P ([.cells (enc p).cells .live,.cells (enc q).cells .live,.cells zc .live,.cells zc .live]:H) 3 (.ptr 0 2)=some (.int .i64 p.sort):=by simp[aJ,aY,a3,s3,aq]
theorem zN(p q:T):aJ C.P ([.cells (enc p).cells .live,.cells (enc q).cells .live,.cells zc .live,.cells zc .live]:H) 3 (.ptr 1 2)=some (.int .i64 q.sort):=by simp[aJ,aY,a3,s3,aq]
theorem DA(p q:T):∃g,ah C.P ([.cells (enc p).cells .live,.cells (enc q).cells .live,.cells zc .live,.cells zc .live]:H) 41 (.ptr 0 0) (enc q)=some g/\ah C.P g 41 (.ptr 1 0) (enc p)=some ([.cells (enc q).cells .live,.cells (enc p).cells .live,.cells zc .live,.cells zc .live]:H):=by
 refine⟨[.cells (enc q).cells .live,.cells (enc q).cells .live,.cells zc .live,.cells zc .live],?_,?_⟩
 ·simp[ah,s25,aq];rw[bV];rfl
 simp[ah,s25,aq];rw[bV];rfl
theorem K3(a b:T) (ha:a.size<4000000) (hb:b.size<4000000):az C 145 [enc a,enc b]=some (.tuple [enc (jx a b).1,enc (jx a b).2.1,.int .i64 (jx a b).2.2]):=by
 refine oV rfl func145 rfl k_ (by simp[f145]) λR V=>?_
 have fin:∀(u v:T) (e:Int),(u,v,e)=jx a b->∀(x:Ex),(x=.normal\/x=.ret)->∀(s:PT) (h:H),s.get 4=.ptr 2 0->s.get 5=.ptr 3 0->s.get 6=.int .i64 e->h[2]?=some (.cells (enc u).cells .live)->h[3]?=some (.cells (enc v).cells .live)->R x s h:=λu v e X x Y s h g i j k l=>by
  refine V _ _ _ Y ⟨.tuple [enc u,enc v,.int .i64 e],?_,?_⟩
  ·simp[ag,cO,gk,f145,g,i,j,eY k,eY l]
  rw[<-X];exact du (by rw[bV,bV];rfl) (by simp[bF,xZ]) s_
 have⟨g1,G,I⟩:=DA a b;have J:=DB a b;have K:=tZ a b;have L:=tY a b;simp[go_sem,nJ,mV,am];by_cases r:a.kind=1
 ·have _:=r;have t:=DB a b;have w:=Ik a b;have y:=zO a b;have E:=zN a b;have B:=tZ a b;have D:=tY a b;have Z:=tZ b a;have z1:=tY b a;have N:=zO b a;have z3:=zN b a;have O:=sX a b ha hb;have F:=JC a b ha hb;have⟨g2,Q,S⟩:=DA a b;have d:jx a b=kZ a b:=by unfold jx;simp[r]
  have m:a.kind=1:=r;by_cases q:b.kind=1
  ·have _:=q;by_cases c:a.sort=b.sort
   ·have _:=c;by_cases f:a.cmp b<0
    ·have _:=f;simp[go_sem,r,t,w,y,E,B,D,O,Q,S,N,z3,q,c,f];refine kO 10 57 58 0 (by rw[gM];decide) g_ g_ g_ g_ d_ k_ k_ ?_;intro z A g i j k l;simp[go_sem];exact fin b a 0 (by rw[d];unfold kZ yi;simp[m,q,c,f]) _ (.inr rfl) _ _ g i j k l
    have _:=f;simp[go_sem,r,t,w,y,E,B,D,O,q,c,f];refine kO 10 57 58 0 (by rw[gM];decide) g_ g_ g_ g_ d_ k_ k_ ?_;intro z A g i j k l;simp[go_sem];exact fin a b 0 (by rw[d];unfold kZ yi;simp[m,q,c,f]) _ (.inr rfl) _ _ g i j k l
   have _:=c;have q':¬b.sort=a.sort:=λe=>c e.symm
   by_cases f:b.sort=0
   ·have _:=f;have U:¬a.sort=0:=λe=>c (e.trans f.symm)
    have M:¬0=a.sort:=λe=>U e.symm
    simp[go_sem,r,t,w,y,E,B,D,Q,S,N,z3,q,f,U,M];refine kO 10 57 58 0 (by rw[gM];decide) g_ g_ g_ g_ d_ k_ k_ ?_;intro z A g i j k l;simp[go_sem];exact fin b a 0 (by rw[d];unfold kZ yi;simp[m,q,f,U]) _ (.inr rfl) _ _ g i j k l
   have _:=f;by_cases n:a.sort=0
   ·have _:=n;have M:¬0=b.sort:=λe=>f e.symm
    simp[go_sem,r,t,w,y,E,B,D,q,f,n,M];refine kO 10 57 58 0 (by rw[gM];decide) g_ g_ g_ g_ d_ k_ k_ ?_;intro z A g i j k l;simp[go_sem];exact fin a b 0 (by rw[d];unfold kZ yi;simp[m,q,f,n,M]) _ (.inr rfl) _ _ g i j k l
   have _:=n;simp[go_sem,r,t,w,y,E,B,D,q,c,f,n];refine kO 9 55 56 11 (by rw[gM];decide) g_ g_ g_ g_ d_ k_ k_ ?_;intro z A g i j k l;simp[go_sem];exact fin a b 11 (by rw[d];unfold kZ yi;simp[m,q,c,f,n]) _ (.inr rfl) _ _ g i j k l
  have _:=q;by_cases c:a.sort=0
  ·have _:=c;by_cases o:occ a b=true
   ·have _:=o;simp[go_sem,r,t,w,y,B,D,F,q,o,c];refine kO 14 79 80 12 (by rw[gM];decide) g_ g_ g_ g_ d_ k_ k_ ?_;intro z A g i j k l;simp[go_sem];exact fin a b 12 (by rw[d];unfold kZ;simp[m,q,o,c]) _ (.inr rfl) _ _ g i j k l
   have _:=o;have p:occ a b=false:=by simpa using o
   simp[go_sem,r,t,w,y,B,D,F,q,p,c];refine kO 15 81 82 0 (by rw[gM];decide) g_ g_ g_ g_ d_ k_ k_ ?_;intro z A g i j k l;simp[go_sem];exact fin a b 0 (by rw[d];unfold kZ;simp[m,q,p,c]) _ (.inr rfl) _ _ g i j k l
  have _:=c;by_cases f:b.kind=2
  ·have _:=f;by_cases n:b.sort=a.sort
   ·have _:=n;by_cases o:occ a b=true
    ·have _:=o;simp[go_sem,r,t,w,y,E,B,D,F,o,c,f,n];refine kO 14 79 80 12 (by rw[gM];decide) g_ g_ g_ g_ d_ k_ k_ ?_;intro z A g i j k l;simp[go_sem];exact fin a b 12 (by rw[d];unfold kZ;simp[m,o,c,f,n]) _ (.inr rfl) _ _ g i j k l
    have _:=o;have p:occ a b=false:=by simpa using o
    simp[go_sem,r,t,w,y,E,B,D,F,p,c,f,n];refine kO 15 81 82 0 (by rw[gM];decide) g_ g_ g_ g_ d_ k_ k_ ?_;intro z A g i j k l;simp[go_sem];exact fin a b 0 (by rw[d];unfold kZ;simp[m,p,c,f,n]) _ (.inr rfl) _ _ g i j k l
   have _:=n;simp[go_sem,r,t,w,y,E,c,f,n];refine kO 12 74 75 11 (by rw[gM];decide) g_ g_ g_ g_ d_ k_ k_ ?_;intro z A g i j k l;simp[go_sem];exact fin a b 11 (by rw[d];unfold kZ;simp[m,c,f,n]) _ (.inr rfl) _ _ g i j k l
  have _:=f;simp[go_sem,r,t,w,y,q,c,f];refine kO 12 74 75 11 (by rw[gM];decide) g_ g_ g_ g_ d_ k_ k_ ?_;intro z A g i j k l;simp[go_sem];exact fin a b 11 (by rw[d];unfold kZ;simp[m,q,c,f]) _ (.inr rfl) _ _ g i j k l
 have _:=r;have t:=DB b a;have w:=Ik b a;have y:=zO b a;have E:=zN b a;have B:=tZ b a;have D:=tY b a;have Z:=tZ a b;have z1:=tY a b;have N:=zO a b;have z3:=zN a b;have O:=sX b a hb ha;have F:=JC b a hb ha;have⟨g2,Q,S⟩:=DA b a;have d:jx a b=kZ b a:=by unfold jx;simp[r]
 by_cases m:b.kind=1
 ·have _:=m;have q:¬a.kind=1:=r;by_cases c:b.sort=0
  ·have _:=c;by_cases o:occ b a=true
   ·have _:=o;simp[go_sem,J,K,L,G,I,r,t,w,y,B,D,F,m,o,c];refine kO 14 79 80 12 (by rw[gM];decide) g_ g_ g_ g_ d_ k_ k_ ?_;intro z A g i j k l;simp[go_sem];exact fin b a 12 (by rw[d];unfold kZ;simp[m,q,o,c]) _ (.inr rfl) _ _ g i j k l
   have _:=o;have p:occ b a=false:=by simpa using o
   simp[go_sem,J,K,L,G,I,r,t,w,y,B,D,F,m,p,c];refine kO 15 81 82 0 (by rw[gM];decide) g_ g_ g_ g_ d_ k_ k_ ?_;intro z A g i j k l;simp[go_sem];exact fin b a 0 (by rw[d];unfold kZ;simp[m,q,p,c]) _ (.inr rfl) _ _ g i j k l
  have _:=c;by_cases f:a.kind=2
  ·have _:=f;by_cases n:a.sort=b.sort
   ·have _:=n;by_cases o:occ b a=true
    ·have _:=o;simp[go_sem,J,K,L,G,I,t,w,y,E,B,D,F,m,o,c,f,n];refine kO 14 79 80 12 (by rw[gM];decide) g_ g_ g_ g_ d_ k_ k_ ?_;intro z A g i j k l;simp[go_sem];exact fin b a 12 (by rw[d];unfold kZ;simp[m,o,c,f,n]) _ (.inr rfl) _ _ g i j k l
    have _:=o;have p:occ b a=false:=by simpa using o
    simp[go_sem,J,K,L,G,I,t,w,y,E,B,D,F,m,p,c,f,n];refine kO 15 81 82 0 (by rw[gM];decide) g_ g_ g_ g_ d_ k_ k_ ?_;intro z A g i j k l;simp[go_sem];exact fin b a 0 (by rw[d];unfold kZ;simp[m,p,c,f,n]) _ (.inr rfl) _ _ g i j k l
   have _:=n;simp[go_sem,J,K,L,G,I,t,w,y,E,m,c,f,n];refine kO 12 74 75 11 (by rw[gM];decide) g_ g_ g_ g_ d_ k_ k_ ?_;intro z A g i j k l;simp[go_sem];exact fin b a 11 (by rw[d];unfold kZ;simp[m,c,f,n]) _ (.inr rfl) _ _ g i j k l
  have _:=f;simp[go_sem,J,K,L,G,I,r,t,w,y,m,c,f];refine kO 12 74 75 11 (by rw[gM];decide) g_ g_ g_ g_ d_ k_ k_ ?_;intro z A g i j k l;simp[go_sem];exact fin b a 11 (by rw[d];unfold kZ;simp[m,q,c,f]) _ (.inr rfl) _ _ g i j k l
 have _:=m;simp[go_sem,J,K,L,G,I,r,t,m];refine kO 4 15 16 11 (by rw[gM];decide) g_ g_ g_ g_ d_ k_ k_ ?_;intro z A g i j k l;simp[go_sem];exact fin b a 11 (by rw[d];unfold kZ;simp[m]) _ (.inr rfl) _ _ g i j k l
theorem Qk(a b:T) (ha:a.size<4000000) (hb:b.size<4000000) (h:H):aj C h (.func 145 []) (some [enc a,enc b])=some (.tuple [enc (jx a b).1,enc (jx a b).2.1,.int .i64 (jx a b).2.2],h):=an (fA _ _) (by simp[bF]) s_ (K3 a b ha hb)
theorem Jc:C.P.underlying 153=some (.slice 152):=underlying153
theorem GM:cw C.P 152=some 8:=k_
theorem Wn:gW C.P 152=some true:=k_
theorem ZP:jy C.P 152=some 112:=k_
theorem U4:ip C.P 152=true:=k_
theorem Vx:ja C.P 153=some 152:=k_
theorem b86:jy C.P 121=some 112:=k_
theorem z86:ip C.P 121=true:=k_
theorem ZC:ja C.P 81=some 121:=k_
attribute [go_sem] Jc GM Wn Vx ZC
def z8:LA:=zc++zc
theorem U1:iV C.P 152=some (.agg z8):=k_
theorem LO:iV C.P 121=some (.agg z8):=k_
theorem Ha(b:T × T):(bT b).cells=(enc b.1).cells++(enc b.2).cells:=by rw[aq,aq];rfl
theorem mL(l:Lb):iN 8 (l.map bT)=true:=by cases l<;>simp[iN,bT,am]
theorem pu(e:AV):bp C.P 152 (.iptr e 0) 0=some (.iptr e 0):=k_
theorem rR(e:AV):bp C.P 152 (.iptr e 0) 1=some (.iptr e 4):=k_
theorem QB(i:Nat):bp C.P 152 (.ptr i 0) 0=some (.ptr i 0):=k_
theorem QA(i:Nat):bp C.P 152 (.ptr i 0) 1=some (.ptr i 4):=k_
attribute [go_sem] pu rR QB QA
theorem G1(l:Lb) (x:Ext):fG C.P 153 (.isl (l.map bT) x)=some (.int .i64 l.length):=by simp[fG,Jc]
theorem Pf(l:Lb):fG C.P 153 (binds l)=some (.int .i64 l.length):=G1 l _
theorem xy(l:Lb) (k:Nat) (hk:k<l.length) (x:Ext):aZ C.P 153 (.isl (l.map bT) x) (.int .i64 k)=some (.iptr (bT l[k]) 0):=by simp[aZ,Jc,GM,hk,bT,am]
theorem Vm{h:H}{i:Nat}{b:T × T}(hi:h[i]?=some (.cells (bT b).cells .live)):aJ C.P h 152 (.ptr i 0)=some (bT b):=by simp[aJ,hi,aY,Wn,GM,bT,am]
theorem VJ{h:H}{i:Nat}(b:T × T) (hi:h[i]?=some (.cells z8 .live)):ah C.P h 152 (.ptr i 0) (bT b)=some (h.set i (.cells (bT b).cells .live)):=by simp[ah,hi,GM,bT,z8,zc,am]
theorem Ld{h:H}{i:Nat}(b:T × T) (hi:h[i]?=some (.cells z8 .live)):ah C.P h 121 (.ptr i 0) (bT b)=some (h.set i (.cells (bT b).cells .live)):=by simp[ah,hi,s86,bT,z8,zc,am]
theorem Dj(a b:T):fV C.P 152 [(0,enc a),(1,enc b)]=some (bT (a,b)):=by
 rw[bV a,bV b];have e:∀(k s c d:Int) (n f:ByteArray) (l g:LA),fV C.P 152 [(0,.agg [.int .i64 k,.str n,.int .i64 s,.isl l .unk]),(1,.agg [.int .i64 c,.str f,.int .i64 d,.isl g .unk])]=some (.agg [.int .i64 k,.str n,.int .i64 s,.isl l .unk,.int .i64 c,.str f,.int .i64 d,.isl g .unk]):=λk s c d n f l g=>k_
 exact e _ _ _ _ _ _ _ _
theorem tz(a b:T):fV C.P 121 [(0,enc a),(1,enc b)]=some (bT (a,b)):=by
 rw[bV a,bV b];have e:∀(k s c d:Int) (n f:ByteArray) (l g:LA),fV C.P 121 [(0,.agg [.int .i64 k,.str n,.int .i64 s,.isl l .unk]),(1,.agg [.int .i64 c,.str f,.int .i64 d,.isl g .unk])]=some (.agg [.int .i64 k,.str n,.int .i64 s,.isl l .unk,.int .i64 c,.str f,.int .i64 d,.isl g .unk]):=λk s c d n f l g=>k_
 exact e _ _ _ _ _ _ _ _
theorem nr(b:T × T):au (bT b)=true:=rfl
theorem mP(h:H) (b:T × T):cQ C.P h 153 1 [(0,bT b)]=some (.isl [bT b] .full,h):=cY Jc GM U4 rfl o_ rfl rfl rfl s_ rfl
theorem fN(h:H) (b:T × T):cQ C.P h 81 1 [(0,bT b)]=some (.isl [bT b] .full,h):=cY u46 s86 z86 rfl o_ rfl rfl rfl s_ rfl
theorem un{h:H}{v:AV}{xs ys:Lb}{x:Ext}(o:OwnR 152 h v (xs.map bT)) (hl:xs.length+ys.length<=100000000000) :
  ∃v' h',bi C.P false h 153 v (.isl (ys.map bT) x)=some (v',h')/\OwnR 152 h' v' ((xs++ys).map bT)/\Keep h h' (cG v)/\(cG v'=cG v\/cG v=none/\cG v'=some h.length):=by
 have:=mQ (x:=x) Jc GM ZP U4 rfl o (mL xs) (mL ys) (by simp only[ax];omega);rwa[<-List.map_append]at this
theorem jd{h:H}{v:AV}{xs ys:Lb}{x:Ext}(o:OwnR 121 h v (xs.map bT)) (hl:xs.length+ys.length<=100000000000) :
  ∃v' h',bi C.P false h 81 v (.isl (ys.map bT) x)=some (v',h')/\OwnR 121 h' v' ((xs++ys).map bT)/\Keep h h' (cG v)/\(cG v'=cG v\/cG v=none/\cG v'=some h.length):=by
 have:=mQ (x:=x) u46 s86 b86 z86 rfl o (mL xs) (mL ys) (by simp only[ax];omega);rwa[<-List.map_append]at this
theorem VW(i k:Nat) (b:T × T):(bT b).mv i k=bT b:=rfl
theorem uW(i k:Nat) (b:T × T):VObj.mv i k (.cells (bT b).cells .live)=.cells (bT b).cells .live:=rfl
theorem MW(i k:Nat) (l:Lb):(binds l).mv i k=binds l:=rfl
theorem IT(i k:Nat):VObj.mv i k (.cells z8 .live)=.cells z8 .live:=rfl
theorem zI{e e':TypeId}(hne:e≠e'){h:H}{v w:AV}{xs ys:LA}(o:OwnR e h v xs) (p:OwnR e' h w ys):∀i,cG v=some i->cG w≠some i:=by
 intro i c d;rcases o with rfl|⟨a,rfl,g⟩
 ·cases c
 rcases p with rfl|⟨b,rfl,f⟩
 ·cases d
 simp only[cG,aA]at c d;subst c;subst d;rw[g]at f;simp only[aA,VObj.tok.injEq]at f;exact hne f.2
theorem MI{x y:T}{ps:Lb}{k:Nat}(hk:k<ps.length):okP x y (ps.take (k+1))=(okP x y (ps.take k)&&(decide (bA (iL x y ps[k].1)=0)&&decide (bA (iL x y ps[k].2)=0))):=by rw[<-aW hk,okP,eM,okP];simp
theorem MG{x y:T}{s:Lb}{k:Nat}(hk:k<s.length):okS x y (s.take (k+1))=(okS x y (s.take k)&&decide (bA (iL x y s[k].2)=0)):=by rw[<-aW hk,okS,eM,okS];simp
theorem J0{x y:T}{ps:Lb}{k:Nat}(hk:k<ps.length):mw x y (ps.take k)++[(iL x y ps[k].1,iL x y ps[k].2)]=mw x y (ps.take (k+1)):=by rw[<-aW hk,mw,mw,List.map_append];rfl
def Xo(x y:T) (ps s:Lb) (m:Nat) (st:PT) (h:H):Prop:=∃(k:Nat) (v:AV),m=ps.length-k/\k<=ps.length/\h[0]?=some (.cells (enc x).cells .live)/\h[1]?=some (.cells (enc y).cells .live)/\st.get 2=binds ps/\st.get 3=binds s/\st.get 4=.ptr 0 0/\st.get 5=.ptr 1 0/\st.get 11=v/\st.get 12=.bool (okP x y (ps.take k))/\st.get 13=.int .i64 k /\
 OwnR 152 h v ((mw x y (ps.take k)).map bT)
def Xf(x y:T) (ps s:Lb) (m:Nat) (st:PT) (h:H):Prop:=∃(k:Nat) (w v:AV) (o:Lb) (d:Bool),m=s.length-k/\k<=s.length/\o.length<=k+(if d=true then 1 else 0)/\h[0]?=some (.cells (enc x).cells .live)/\h[1]?=some (.cells (enc y).cells .live)/\st.get 3=binds s/\st.get 4=.ptr 0 0/\st.get 5=.ptr 1 0/\st.get 11=w/\st.get 12=.bool (okP x y ps&&okS x y (s.take k))/\st.get 15=v/\st.get 16=.bool d/\st.get 17=.int .i64 k /\
 OwnR 152 h w ((mw x y ps).map bT)/\OwnR 121 h v (o.map bT)/\lJ (x,y) (ke x y s)=(if d=true then o++(ke x y s).drop k else o++lJ (x,y) ((ke x y s).drop k))
def B1(l:Lb):Prop:=∀p∈l,p.1.size<=400/\p.2.size<=400
theorem xn{x y t:T}(hy:y.size<=400) (ht:t.size<=400):(iL x y t).size<4000000:=by have:=J3 (x:=x) 400 hy o_ t;have:400*t.size<=400*400:=jX _ ht;omega
theorem RD(x y:T) (ps s:Lb) (hx:x.size<=400) (hy:y.size<=400) (hp:B1 ps) (hs:B1 s) (hpl:ps.length<4000000) (hsl:s.length<4000000) :
  az C 146 [enc x,enc y,binds ps,binds s]=some (.tuple [binds (mw x y ps),binds (lJ (x,y) (ke x y s)),.bool (okU x y ps s)]):=by
 refine bL func146 rfl λR hR=>?_
 have y3:=Pf ps;simp[go_sem,nJ];refine bX (Xo x y ps s) ps.length ⟨0,.isl [] (.tok 4),rfl,aO _,rfl,rfl,g_,g_,g_,g_,g_,by simp[go_sem,okP],g_,.inr ⟨4,rfl,rfl⟩⟩ ?_;rintro m st h ⟨k,v,rfl,hk,m0,m1,g2,g3,g4,g5,L,e,X,go⟩;have z6:0<h.length:=(aB.1 m0).1;have z7:1<h.length:=(aB.1 m1).1;by_cases E:k<ps.length
 ·have q3:(k:Int)<ps.length:=o_;have K:aZ C.P 153 (binds ps) (.int .i64 k)=some (.iptr (bT ps[k]) 0):=xy ps k E .unk;have w2:=wS k o_;have y0:=hp _ (aG E);have t:=MI (x:=x) (y:=y) E;have z0:=J0 (x:=x) (y:=y) E;generalize ps[k]=p at K y0 t z0;obtain⟨A,eA⟩:∃A,A=iL x y p.1:=⟨_,rfl⟩
  obtain⟨B,eB⟩:∃B,B=iL x y p.2:=⟨_,rfl⟩
  have sA:A.size<4000000:=by rw[eA];exact xn hy y0.1
  have sB:B.size<4000000:=by rw[eB];exact xn hy y0.2
  have cA:=Db x y p.1 o_ o_ o_;have cB:=Db x y p.2 o_ o_ o_;rw[<-eA]at cA t z0;rw[<-eB]at cB t z0;simp[go_sem,g2,X,y3,q3];refine ic 6 _ (λc h'=>c.get 2=binds ps/\c.get 3=binds s/\c.get 4=.ptr 0 0/\c.get 5=.ptr 1 0/\c.get 11=v/\c.get 12=.bool (okP x y (ps.take k))/\c.get 13=.int .i64 k/\c.get 14=.ptr (h.length+17) 0/\h'[h.length+17]?=some (.cells (bT (A,B)).cells .live)/\Keep h h' none) (by rw[gM];decide) k_ ?_ ?_
  ·generalize M:h++List.replicate _ VObj.void=H0;have a:Pl h H0 19:=M▸Pl.mk' h 19;have z3:=a.len;clear M;have p0:=eY (a.get m0);have p1:=eY (a.get m1);have q7:cP H0 cM [enc p.1,enc x,enc y]=[]:=(dM (h:=H0) (px _ _ _) (by simp[bF]) cM (by simp[cM])).2;have y6:cP H0 cM [enc p.2,enc x,enc y]=[]:=(dM (h:=H0) (px _ _ _) (by simp[bF]) cM (by simp[cM])).2;refine bE (binds ps) rfl rfl (a.isV (i:=0) d_) (by simp[opN,go_sem,g2]) rfl ?_;refine bE (.int .i64 k) rfl rfl (a.isV (i:=1) d_) (by simp[opN,go_sem,X]) rfl ?_;refine bE (.iptr (bT p) 0) rfl rfl (a.isV (i:=2) d_) (by simp[opN,go_sem,K]) rfl ?_;refine bE (.iptr (bT p) 0) rfl rfl (a.isV (i:=3) d_) (by simp[opN,go_sem]) rfl ?_;refine cR (.iptr (bT p) 0) (enc p.1) g_ (ki p H0) (by simp[it]) (a.isV (i:=4) d_) (eN _ _ _) ?_;refine cR (.ptr 0 0) (enc x) g_ p0 (dW o_) (a.isV (i:=5) d_) (eN _ _ _) ?_;refine cR (.ptr 1 0) (enc y) g_ p1 (dW o_) (a.isV (i:=6) d_) (eN _ _ _) ?_;refine qc (args:=[.tmp 29,.tmp 30,.tmp 31]) [enc p.1,enc x,enc y] (enc A) k_ rfl g_ q7 (cA _) (a.isV (i:=7) d_) (eN _ _ _) ?_;refine bE (binds ps) rfl rfl (a.isV (i:=8) d_) (by simp[opN,go_sem,g2]) rfl ?_;refine bE (.int .i64 k) rfl rfl (a.isV (i:=9) d_) (by simp[opN,go_sem,X]) rfl ?_;refine bE (.iptr (bT p) 0) rfl rfl (a.isV (i:=10) d_) (by simp[opN,go_sem,K]) rfl ?_;refine bE (.iptr (bT p) 4) rfl rfl (a.isV (i:=11) d_) (by simp[opN,go_sem]) rfl ?_;refine cR (.iptr (bT p) 4) (enc p.2) g_ (nC p H0) (by simp[it]) (a.isV (i:=12) d_) (eN _ _ _) ?_;refine cR (.ptr 0 0) (enc x) g_ p0 (dW o_) (a.isV (i:=13) d_) (eN _ _ _) ?_;refine cR (.ptr 1 0) (enc y) g_ p1 (dW o_) (a.isV (i:=14) d_) (eN _ _ _) ?_;refine qc (args:=[.tmp 37,.tmp 38,.tmp 39]) [enc p.2,enc x,enc y] (enc B) k_ rfl g_ y6 (cB _) (a.isV (i:=15) d_) (eN _ _ _) ?_;refine bE (bT (A,B)) rfl rfl (a.isV (i:=16) d_) (by simp[opN,go_sem,fT,dZ,Dj]) rfl ?_;refine je _ U1 (a.isV (i:=17) d_) ?_;simp only[am,IT];have F:h.length+17<H0.length:=o_;obtain⟨H1,n⟩:∃g,g=H0.set (h.length+17) (.cells z8 .live):=⟨_,rfl⟩
   have q8:H1[h.length+17]?=some (.cells z8 .live):=by rw[n];exact aD F
   have y4:dE H1[h.length+18]?=true:=by rw[n];exact dg (a.isV (i:=18) d_) o_
   rw[<-n];refine iA (h.length+17) 0 (bT (A,B)) _ g_ g_ (VJ (A,B) q8) o_ y4 ?_;rw[uW];refine⟨?_,?_⟩
   ·unfold sq;generalize hb:Region.before _=b;have q9:(b.getD 18 0).testBit 17=true:=by rw[<-hb];kernel_rfl
    clear hb;have o1:0≠h.length+7:=o_;have o2:0≠h.length+15:=o_;have o3:0≠h.length+17:=o_;have o4:0≠h.length+18:=o_;have o5:1≠h.length+7:=o_;have o6:1≠h.length+15:=o_;have o7:1≠h.length+17:=o_;have o8:1≠h.length+18:=o_;simp[it,qm,List.range,List.range.loop];simpa[ar]using q9
   have N:h.length+17<H1.length:=by rw[n];simpa using F
   refine⟨g_,g_,g_,g_,g_,g_,g_,g_,aD N,?_⟩;exact⟨by rw[n];simp;omega,λj hj _=>by rw[aC o_,n,aC o_,a.old j hj]⟩
  rintro c h' ⟨g2,g3,g4,g5,L,e,X,z9,mp,kp⟩;have u:=kp.get m0 s_;have z:=kp.get m1 s_;have q':=go.keep kp s_;have lA:=Mj mp;have lB:=Mi mp;have lP:=Vm mp;have vA:=oF A sA;have vB:=oF B sB;have⟨v',h2,ha,ho,f,y1⟩:=un (ys:=[(A,B)]) (x:=.full) q' (by simp only[mw,ax,bU,aL,bB];omega);rw[z0]at ho;simp only[aM,bM]at ha;cases V:okP x y (ps.take k)
  ·rw[V,jf]at t;rw[V]at e;simp[go_sem,L,e,X,z9,lP,nr,mP,ha,-Int.natCast_add,w2];exact⟨ps.length-(k+1),o_,k+1,v',rfl,E,f.get u (bn q' u),f.get z (bn q' z),g_,g_,g_,g_,g_,by simp[go_sem,t],g_,ho⟩
  rw[V,kL]at t;rw[V]at e;by_cases q1:bA A=0
  ·rw[decide_eq_true q1,kL]at t;by_cases q2:bA B=0
   ·rw[decide_eq_true q2]at t;simp[go_sem,L,e,X,z9,lA,lB,vA,vB,q1,q2,lP,nr,mP,ha,-Int.natCast_add,w2];exact⟨ps.length-(k+1),o_,k+1,v',rfl,E,f.get u (bn q' u),f.get z (bn q' z),g_,g_,g_,g_,g_,by simp[go_sem,t],g_,ho⟩
   rw[decide_eq_false q2]at t;simp[go_sem,L,e,X,z9,lA,lB,vA,vB,q1,q2,lP,nr,mP,ha,-Int.natCast_add,w2];exact⟨ps.length-(k+1),o_,k+1,v',rfl,E,f.get u (bn q' u),f.get z (bn q' z),g_,g_,g_,g_,g_,by simp[go_sem,t],g_,ho⟩
  rw[decide_eq_false q1,jf]at t;simp[go_sem,L,e,X,z9,lA,vA,q1,lP,nr,mP,ha,-Int.natCast_add,w2];exact⟨ps.length-(k+1),o_,k+1,v',rfl,E,f.get u (bn q' u),f.get z (bn q' z),g_,g_,g_,g_,g_,by simp[go_sem,t],g_,ho⟩
 have:k=ps.length:=o_;subst this;rw[ak]at go e;simp[go_sem,g2,X,y3];have z4:=sF s;refine bX (Xf x y ps s) s.length ⟨0,v,.isl [] (.tok h.length),[],false,rfl,aO _,s_,ga m0,ga m1,g_,g_,g_,g_,by simp[go_sem,e,okS],g_,g_,g_,go.keep (Keep.append _ _ none) s_,.inr ⟨h.length,rfl,s_⟩,s_⟩ ?_;clear z6 z7 go X e L g5 g4 g3 g2 m0 m1 st h v;rintro m st h ⟨k,w,v,o,d,rfl,hk,Y,m0,m1,g3,g4,g5,L,e,I,q4,D,gw,gv,z2⟩;have lx:=eY m0;have ly:=eY m1;have y9:o.length<=k+1:=by split at Y<;>omega
 by_cases E:k<s.length
 ·have q3:(k:Int)<s.length:=o_;have K:aZ C.P 81 (binds s) (.int .i64 k)=some (.iptr (bT s[k]) 0):=yk s k E .unk;have w2:=wS k o_;have y5:=hs _ (aG E);have t:=MG (x:=x) (y:=y) E;have z':(ke x y s).drop k=(s[k].1,iL x y s[k].2)::(ke x y s).drop (k+1):=by
   rw[aI (by simpa[ke]using E)];congr 1
   simp[ke]
  generalize s[k]=b at K y5 t z';obtain⟨B,eB⟩:∃B,B=iL x y b.2:=⟨_,rfl⟩
  have sB:B.size<4000000:=by rw[eB];exact xn hy y5.2
  have cB:=Db x y b.2 o_ o_ o_;rw[<-eB]at cB t z';have lb:=ki b;have y':=sX x b.1 o_ o_;cases d
  ·by_cases q:x.cmp b.1<0
   ·have⟨v1,Z,z5,y2,z1,_⟩:=jd (ys:=[(x,y)]) (x:=.full) gv (by simp only[aL,bB];omega);simp only[aM,bM]at z5;have y7:=gw.keep z1 (zI d_ gw gv);have n0:=z1.get m0 (bn gv m0);have n1:=z1.get m1 (bn gv m1);simp[go_sem,g3,g4,g5,I,q4,D,z4,q3,K,oQ,lb,lx,ly,y',q,tz,nr,dZ,fN,z5];refine ic 17 _ (λc h'=>c.get 3=binds s/\c.get 4=.ptr 0 0/\c.get 5=.ptr 1 0/\c.get 11=w/\c.get 12=.bool (okP x y ps&&okS x y (s.take k))/\c.get 15=v1/\c.get 16=.bool true/\c.get 17=.int .i64 k/\c.get 18=.ptr (Z.length+14) 0/\h'[Z.length+14]?=some (.cells (bT (b.1,B)).cells .live)/\Keep Z h' none) (by rw[gM];decide) k_ ?_ ?_
    ·have z6:0<Z.length:=(aB.1 n0).1;have z7:1<Z.length:=(aB.1 n1).1;generalize M:Z++List.replicate _ VObj.void=H0;have a:Pl Z H0 16:=M▸Pl.mk' Z 16;have z3:=a.len;clear M;have p0:=eY (a.get n0);have p1:=eY (a.get n1);have q7:cP H0 cM [enc b.2,enc x,enc y]=[]:=(dM (h:=H0) (px _ _ _) (by simp[bF]) cM (by simp[cM])).2;refine bE (binds s) rfl rfl (a.isV (i:=0) d_) (by simp[opN,go_sem,g3]) rfl ?_;refine bE (.int .i64 k) rfl rfl (a.isV (i:=1) d_) (by simp[opN,go_sem,D]) rfl ?_;refine bE (.iptr (bT b) 0) rfl rfl (a.isV (i:=2) d_) (by simp[opN,go_sem,K]) rfl ?_;refine bE (.iptr (bT b) 0) rfl rfl (a.isV (i:=3) d_) (by simp[opN,go_sem,oQ]) rfl ?_;refine cR (.iptr (bT b) 0) (enc b.1) g_ (ki b H0) (by simp[it]) (a.isV (i:=4) d_) (eN _ _ _) ?_;refine bE (binds s) rfl rfl (a.isV (i:=5) d_) (by simp[opN,go_sem,g3]) rfl ?_;refine bE (.int .i64 k) rfl rfl (a.isV (i:=6) d_) (by simp[opN,go_sem,D]) rfl ?_;refine bE (.iptr (bT b) 0) rfl rfl (a.isV (i:=7) d_) (by simp[opN,go_sem,K]) rfl ?_;refine bE (.iptr (bT b) 4) rfl rfl (a.isV (i:=8) d_) (by simp[opN,go_sem,ww]) rfl ?_;refine cR (.iptr (bT b) 4) (enc b.2) g_ (nC b H0) (by simp[it]) (a.isV (i:=9) d_) (eN _ _ _) ?_;refine cR (.ptr 0 0) (enc x) g_ p0 (dW o_) (a.isV (i:=10) d_) (eN _ _ _) ?_;refine cR (.ptr 1 0) (enc y) g_ p1 (dW o_) (a.isV (i:=11) d_) (eN _ _ _) ?_;refine qc (args:=[.tmp 92,.tmp 93,.tmp 94]) [enc b.2,enc x,enc y] (enc B) k_ rfl g_ q7 (cB _) (a.isV (i:=12) d_) (eN _ _ _) ?_;refine bE (bT (b.1,B)) rfl rfl (a.isV (i:=13) d_) (by simp[opN,go_sem,fT,dZ,tz]) rfl ?_;refine je _ LO (a.isV (i:=14) d_) ?_;simp only[am,IT];have F:Z.length+14<H0.length:=o_;obtain⟨H1,n⟩:∃g,g=H0.set (Z.length+14) (.cells z8 .live):=⟨_,rfl⟩
     have q8:H1[Z.length+14]?=some (.cells z8 .live):=by rw[n];exact aD F
     have q5:dE H1[Z.length+15]?=true:=by rw[n];exact dg (a.isV (i:=15) d_) o_
     rw[<-n];refine iA (Z.length+14) 0 (bT (b.1,B)) _ g_ g_ (Ld (b.1,B) q8) o_ q5 ?_;rw[uW];refine⟨?_,?_⟩
     ·unfold sq;generalize hb:Region.before _=bb;have q9:(bb.getD 15 0).testBit 14=true:=by rw[<-hb];kernel_rfl
      clear hb;have o1:0≠Z.length+12:=o_;have o2:0≠Z.length+14:=o_;have o3:0≠Z.length+15:=o_;have o4:1≠Z.length+12:=o_;have o5:1≠Z.length+14:=o_;have o6:1≠Z.length+15:=o_;simp[it,qm,List.range,List.range.loop];simpa[ar]using q9
     have N:Z.length+14<H1.length:=by rw[n];simpa using F
     refine⟨g_,g_,g_,g_,g_,g_,g_,g_,g_,aD N,?_⟩;exact⟨by rw[n];simp;omega,λj hj _=>by rw[aC o_,n,aC o_,a.old j hj]⟩
    rintro c h' ⟨g3,g4,g5,L,e,I,q4,D,O,mp,kp⟩;have u:=kp.get n0 s_;have z:=kp.get n1 s_;have q6:=y7.keep kp s_;have J:=y2.keep kp s_;have lB:=Mi mp;have lP:=ldB mp;have vB:=oF B sB;have⟨v',h2,ha,ho,f,y1⟩:=jd (ys:=[(b.1,B)]) (x:=.full) J (by simp only[List.length_append,aL,bB];omega);simp only[aM,bM]at ha;have Q:=q6.keep f (zI d_ q6 J);have S:=bn J u;have U:=bn J z;have G:lJ (x,y) (ke x y s)=(if true=true then((o++[(x,y)])++[(b.1,B)])++(ke x y s).drop (k+1)else((o++[(x,y)])++[(b.1,B)])++lJ (x,y) ((ke x y s).drop (k+1))):=by rw[z2,z'];simp[lJ,q]
    cases V:(okP x y ps&&okS x y (s.take k))
    ·rw[V]at e;have r:(okP x y ps&&okS x y (s.take (k+1)))=false:=by rw[t,<-fZ,V,jf]
     simp[go_sem,e,I,D,O,lP,nr,fN,ha,-Int.natCast_add,w2];exact⟨s.length-(k+1),o_,k+1,w,v',_,true,rfl,E,by simp at Y ⊢;omega,f.get u S,f.get z U,g_,g_,g_,g_,by simp[go_sem,r],g_,g_,g_,Q,ho,G⟩
    rw[V]at e;by_cases q1:bA B=0
    ·have r:(okP x y ps&&okS x y (s.take (k+1)))=true:=by rw[t,<-fZ,V,decide_eq_true q1];rfl
     simp[go_sem,e,I,D,O,lB,vB,q1,lP,nr,fN,ha,-Int.natCast_add,w2];exact⟨s.length-(k+1),o_,k+1,w,v',_,true,rfl,E,by simp at Y ⊢;omega,f.get u S,f.get z U,g_,g_,g_,g_,by simp[go_sem,r],g_,g_,g_,Q,ho,G⟩
    have r:(okP x y ps&&okS x y (s.take (k+1)))=false:=by rw[t,<-fZ,V,decide_eq_false q1];rfl
    simp[go_sem,e,I,D,O,lB,vB,q1,lP,nr,fN,ha,-Int.natCast_add,w2];exact⟨s.length-(k+1),o_,k+1,w,v',_,true,rfl,E,by simp at Y ⊢;omega,f.get u S,f.get z U,g_,g_,g_,g_,by simp[go_sem,r],g_,g_,g_,Q,ho,G⟩
   simp[go_sem,g3,g4,q4,D,z4,q3,K,oQ,lb,lx,y',q];refine ic 17 _ (λc h'=>c.get 3=binds s/\c.get 4=.ptr 0 0/\c.get 5=.ptr 1 0/\c.get 11=w/\c.get 12=.bool (okP x y ps&&okS x y (s.take k))/\c.get 15=v/\c.get 16=.bool false/\c.get 17=.int .i64 k/\c.get 18=.ptr (h.length+14) 0/\h'[h.length+14]?=some (.cells (bT (b.1,B)).cells .live)/\Keep h h' none) (by rw[gM];decide) k_ ?_ ?_
   ·have z6:0<h.length:=(aB.1 m0).1;have z7:1<h.length:=(aB.1 m1).1;generalize M:h++List.replicate _ VObj.void=H0;have a:Pl h H0 16:=M▸Pl.mk' h 16;have z3:=a.len;clear M;have p0:=eY (a.get m0);have p1:=eY (a.get m1);have q7:cP H0 cM [enc b.2,enc x,enc y]=[]:=(dM (h:=H0) (px _ _ _) (by simp[bF]) cM (by simp[cM])).2;refine bE (binds s) rfl rfl (a.isV (i:=0) d_) (by simp[opN,go_sem,g3]) rfl ?_;refine bE (.int .i64 k) rfl rfl (a.isV (i:=1) d_) (by simp[opN,go_sem,D]) rfl ?_;refine bE (.iptr (bT b) 0) rfl rfl (a.isV (i:=2) d_) (by simp[opN,go_sem,K]) rfl ?_;refine bE (.iptr (bT b) 0) rfl rfl (a.isV (i:=3) d_) (by simp[opN,go_sem,oQ]) rfl ?_;refine cR (.iptr (bT b) 0) (enc b.1) g_ (ki b H0) (by simp[it]) (a.isV (i:=4) d_) (eN _ _ _) ?_;refine bE (binds s) rfl rfl (a.isV (i:=5) d_) (by simp[opN,go_sem,g3]) rfl ?_;refine bE (.int .i64 k) rfl rfl (a.isV (i:=6) d_) (by simp[opN,go_sem,D]) rfl ?_;refine bE (.iptr (bT b) 0) rfl rfl (a.isV (i:=7) d_) (by simp[opN,go_sem,K]) rfl ?_;refine bE (.iptr (bT b) 4) rfl rfl (a.isV (i:=8) d_) (by simp[opN,go_sem,ww]) rfl ?_;refine cR (.iptr (bT b) 4) (enc b.2) g_ (nC b H0) (by simp[it]) (a.isV (i:=9) d_) (eN _ _ _) ?_;refine cR (.ptr 0 0) (enc x) g_ p0 (dW o_) (a.isV (i:=10) d_) (eN _ _ _) ?_;refine cR (.ptr 1 0) (enc y) g_ p1 (dW o_) (a.isV (i:=11) d_) (eN _ _ _) ?_;refine qc (args:=[.tmp 92,.tmp 93,.tmp 94]) [enc b.2,enc x,enc y] (enc B) k_ rfl g_ q7 (cB _) (a.isV (i:=12) d_) (eN _ _ _) ?_;refine bE (bT (b.1,B)) rfl rfl (a.isV (i:=13) d_) (by simp[opN,go_sem,fT,dZ,tz]) rfl ?_;refine je _ LO (a.isV (i:=14) d_) ?_;simp only[am,IT];have F:h.length+14<H0.length:=o_;obtain⟨H1,n⟩:∃g,g=H0.set (h.length+14) (.cells z8 .live):=⟨_,rfl⟩
    have q8:H1[h.length+14]?=some (.cells z8 .live):=by rw[n];exact aD F
    have q5:dE H1[h.length+15]?=true:=by rw[n];exact dg (a.isV (i:=15) d_) o_
    rw[<-n];refine iA (h.length+14) 0 (bT (b.1,B)) _ g_ g_ (Ld (b.1,B) q8) o_ q5 ?_;rw[uW];refine⟨?_,?_⟩
    ·unfold sq;generalize hb:Region.before _=bb;have q9:(bb.getD 15 0).testBit 14=true:=by rw[<-hb];kernel_rfl
     clear hb;have o1:0≠h.length+12:=o_;have o2:0≠h.length+14:=o_;have o3:0≠h.length+15:=o_;have o4:1≠h.length+12:=o_;have o5:1≠h.length+14:=o_;have o6:1≠h.length+15:=o_;simp[it,qm,List.range,List.range.loop];simpa[ar]using q9
    have N:h.length+14<H1.length:=by rw[n];simpa using F
    refine⟨g_,g_,g_,g_,g_,g_,g_,g_,g_,aD N,?_⟩;exact⟨by rw[n];simp;omega,λj hj _=>by rw[aC o_,n,aC o_,a.old j hj]⟩
   rintro c h' ⟨g3,g4,g5,L,e,I,q4,D,O,mp,kp⟩;have u:=kp.get m0 s_;have z:=kp.get m1 s_;have q6:=gw.keep kp s_;have J:=gv.keep kp s_;have lB:=Mi mp;have lP:=ldB mp;have vB:=oF B sB;have⟨v',h2,ha,ho,f,y1⟩:=jd (ys:=[(b.1,B)]) (x:=.full) J (by simp only[aL,bB];omega);simp only[aM,bM]at ha;have Q:=q6.keep f (zI d_ q6 J);have S:=bn J u;have U:=bn J z;have G:lJ (x,y) (ke x y s)=(if false=true then(o++[(b.1,B)])++(ke x y s).drop (k+1)else(o++[(b.1,B)])++lJ (x,y) ((ke x y s).drop (k+1))):=by rw[z2,z'];simp[lJ,q]
   cases V:(okP x y ps&&okS x y (s.take k))
   ·rw[V]at e;have r:(okP x y ps&&okS x y (s.take (k+1)))=false:=by rw[t,<-fZ,V,jf]
    simp[go_sem,e,I,D,O,lP,nr,fN,ha,-Int.natCast_add,w2];exact⟨s.length-(k+1),o_,k+1,w,v',_,false,rfl,E,by simp at Y ⊢;omega,f.get u S,f.get z U,g_,g_,g_,g_,by simp[go_sem,r],g_,g_,g_,Q,ho,G⟩
   rw[V]at e;by_cases q1:bA B=0
   ·have r:(okP x y ps&&okS x y (s.take (k+1)))=true:=by rw[t,<-fZ,V,decide_eq_true q1];rfl
    simp[go_sem,e,I,D,O,lB,vB,q1,lP,nr,fN,ha,-Int.natCast_add,w2];exact⟨s.length-(k+1),o_,k+1,w,v',_,false,rfl,E,by simp at Y ⊢;omega,f.get u S,f.get z U,g_,g_,g_,g_,by simp[go_sem,r],g_,g_,g_,Q,ho,G⟩
   have r:(okP x y ps&&okS x y (s.take (k+1)))=false:=by rw[t,<-fZ,V,decide_eq_false q1];rfl
   simp[go_sem,e,I,D,O,lB,vB,q1,lP,nr,fN,ha,-Int.natCast_add,w2];exact⟨s.length-(k+1),o_,k+1,w,v',_,false,rfl,E,by simp at Y ⊢;omega,f.get u S,f.get z U,g_,g_,g_,g_,by simp[go_sem,r],g_,g_,g_,Q,ho,G⟩
  simp[go_sem,g3,q4,D,z4,q3];refine ic 17 _ (λc h'=>c.get 3=binds s/\c.get 4=.ptr 0 0/\c.get 5=.ptr 1 0/\c.get 11=w/\c.get 12=.bool (okP x y ps&&okS x y (s.take k))/\c.get 15=v/\c.get 16=.bool true/\c.get 17=.int .i64 k/\c.get 18=.ptr (h.length+14) 0/\h'[h.length+14]?=some (.cells (bT (b.1,B)).cells .live)/\Keep h h' none) (by rw[gM];decide) k_ ?_ ?_
  ·have z6:0<h.length:=(aB.1 m0).1;have z7:1<h.length:=(aB.1 m1).1;generalize M:h++List.replicate _ VObj.void=H0;have a:Pl h H0 16:=M▸Pl.mk' h 16;have z3:=a.len;clear M;have p0:=eY (a.get m0);have p1:=eY (a.get m1);have q7:cP H0 cM [enc b.2,enc x,enc y]=[]:=(dM (h:=H0) (px _ _ _) (by simp[bF]) cM (by simp[cM])).2;refine bE (binds s) rfl rfl (a.isV (i:=0) d_) (by simp[opN,go_sem,g3]) rfl ?_;refine bE (.int .i64 k) rfl rfl (a.isV (i:=1) d_) (by simp[opN,go_sem,D]) rfl ?_;refine bE (.iptr (bT b) 0) rfl rfl (a.isV (i:=2) d_) (by simp[opN,go_sem,K]) rfl ?_;refine bE (.iptr (bT b) 0) rfl rfl (a.isV (i:=3) d_) (by simp[opN,go_sem,oQ]) rfl ?_;refine cR (.iptr (bT b) 0) (enc b.1) g_ (ki b H0) (by simp[it]) (a.isV (i:=4) d_) (eN _ _ _) ?_;refine bE (binds s) rfl rfl (a.isV (i:=5) d_) (by simp[opN,go_sem,g3]) rfl ?_;refine bE (.int .i64 k) rfl rfl (a.isV (i:=6) d_) (by simp[opN,go_sem,D]) rfl ?_;refine bE (.iptr (bT b) 0) rfl rfl (a.isV (i:=7) d_) (by simp[opN,go_sem,K]) rfl ?_;refine bE (.iptr (bT b) 4) rfl rfl (a.isV (i:=8) d_) (by simp[opN,go_sem,ww]) rfl ?_;refine cR (.iptr (bT b) 4) (enc b.2) g_ (nC b H0) (by simp[it]) (a.isV (i:=9) d_) (eN _ _ _) ?_;refine cR (.ptr 0 0) (enc x) g_ p0 (dW o_) (a.isV (i:=10) d_) (eN _ _ _) ?_;refine cR (.ptr 1 0) (enc y) g_ p1 (dW o_) (a.isV (i:=11) d_) (eN _ _ _) ?_;refine qc (args:=[.tmp 92,.tmp 93,.tmp 94]) [enc b.2,enc x,enc y] (enc B) k_ rfl g_ q7 (cB _) (a.isV (i:=12) d_) (eN _ _ _) ?_;refine bE (bT (b.1,B)) rfl rfl (a.isV (i:=13) d_) (by simp[opN,go_sem,fT,dZ,tz]) rfl ?_;refine je _ LO (a.isV (i:=14) d_) ?_;simp only[am,IT];have F:h.length+14<H0.length:=o_;obtain⟨H1,n⟩:∃g,g=H0.set (h.length+14) (.cells z8 .live):=⟨_,rfl⟩
   have q8:H1[h.length+14]?=some (.cells z8 .live):=by rw[n];exact aD F
   have q5:dE H1[h.length+15]?=true:=by rw[n];exact dg (a.isV (i:=15) d_) o_
   rw[<-n];refine iA (h.length+14) 0 (bT (b.1,B)) _ g_ g_ (Ld (b.1,B) q8) o_ q5 ?_;rw[uW];refine⟨?_,?_⟩
   ·unfold sq;generalize hb:Region.before _=bb;have q9:(bb.getD 15 0).testBit 14=true:=by rw[<-hb];kernel_rfl
    clear hb;have o1:0≠h.length+12:=o_;have o2:0≠h.length+14:=o_;have o3:0≠h.length+15:=o_;have o4:1≠h.length+12:=o_;have o5:1≠h.length+14:=o_;have o6:1≠h.length+15:=o_;simp[it,qm,List.range,List.range.loop];simpa[ar]using q9
   have N:h.length+14<H1.length:=by rw[n];simpa using F
   refine⟨g_,g_,g_,g_,g_,g_,g_,g_,g_,aD N,?_⟩;exact⟨by rw[n];simp;omega,λj hj _=>by rw[aC o_,n,aC o_,a.old j hj]⟩
  rintro c h' ⟨g3,g4,g5,L,e,I,q4,D,O,mp,kp⟩;have u:=kp.get m0 s_;have z:=kp.get m1 s_;have q6:=gw.keep kp s_;have J:=gv.keep kp s_;have lB:=Mi mp;have lP:=ldB mp;have vB:=oF B sB;have⟨v',h2,ha,ho,f,y1⟩:=jd (ys:=[(b.1,B)]) (x:=.full) J (by simp only[aL,bB];omega);simp only[aM,bM]at ha;have Q:=q6.keep f (zI d_ q6 J);have S:=bn J u;have U:=bn J z;have G:lJ (x,y) (ke x y s)=(if true=true then(o++[(b.1,B)])++(ke x y s).drop (k+1)else(o++[(b.1,B)])++lJ (x,y) ((ke x y s).drop (k+1))):=by rw[z2,z'];simp
  cases V:(okP x y ps&&okS x y (s.take k))
  ·rw[V]at e;have r:(okP x y ps&&okS x y (s.take (k+1)))=false:=by rw[t,<-fZ,V,jf]
   simp[go_sem,e,I,D,O,lP,nr,fN,ha,-Int.natCast_add,w2];exact⟨s.length-(k+1),o_,k+1,w,v',_,true,rfl,E,by simp at Y ⊢;omega,f.get u S,f.get z U,g_,g_,g_,g_,by simp[go_sem,r],g_,g_,g_,Q,ho,G⟩
  rw[V]at e;by_cases q1:bA B=0
  ·have r:(okP x y ps&&okS x y (s.take (k+1)))=true:=by rw[t,<-fZ,V,decide_eq_true q1];rfl
   simp[go_sem,e,I,D,O,lB,vB,q1,lP,nr,fN,ha,-Int.natCast_add,w2];exact⟨s.length-(k+1),o_,k+1,w,v',_,true,rfl,E,by simp at Y ⊢;omega,f.get u S,f.get z U,g_,g_,g_,g_,by simp[go_sem,r],g_,g_,g_,Q,ho,G⟩
  have r:(okP x y ps&&okS x y (s.take (k+1)))=false:=by rw[t,<-fZ,V,decide_eq_false q1];rfl
  simp[go_sem,e,I,D,O,lB,vB,q1,lP,nr,fN,ha,-Int.natCast_add,w2];exact⟨s.length-(k+1),o_,k+1,w,v',_,true,rfl,E,by simp at Y ⊢;omega,f.get u S,f.get z U,g_,g_,g_,g_,by simp[go_sem,r],g_,g_,g_,Q,ho,G⟩
 have:k=s.length:=o_;subst this;rw[ak]at e;have z':(ke x y s).drop s.length=[]:=by rw[show s.length=(ke x y s).length by simp[ke],bH]
 rw[z']at z2;have fin:∀(st:PT) (h:H) (e1 e2:Ext) (l:Lb),st.get 8=.isl ((mw x y ps).map bT) e1->st.get 9=.isl (l.map bT) e2->st.get 10=.bool (okP x y ps&&okS x y s)->l=lJ (x,y) (ke x y s)->R .ret st h:=λst h e1 e2 l h8 h9 y8 hl=>by refine hR ⟨.tuple [.isl ((mw x y ps).map bT) e1,.isl (l.map bT) e2,.bool (okP x y ps&&okS x y s)],by simp[ag,gk,cO,f146,h8,h9,y8],?_⟩;rw[<-hl];exact du rfl rfl s_
 obtain⟨e1,rfl⟩:=gw.isl;cases d
 ·have⟨v1,Z,z5,y2,z1,_⟩:=jd (ys:=[(x,y)]) (x:=.full) gv (by simp only[aL,bB];omega);simp only[aM,bM]at z5;obtain⟨e2,rfl⟩:=y2.isl;simp[go_sem,g3,g4,g5,L,e,I,q4,D,z4,lx,ly,tz,nr,dZ,fN,z5];exact fin _ _ e1 e2 (o++[(x,y)]) g_ g_ g_ (by rw[z2];simp[lJ])
 obtain⟨e2,rfl⟩:=gv.isl;simp[go_sem,g3,L,e,I,q4,D,z4];exact fin _ _ e1 e2 o g_ g_ g_ (by rw[z2];simp)
def OV(h:H) (x:Ext):Prop:=∀t,x=.tok t->t<h.length
theorem tR{es:LA}{x:Ext}{n k:Nat}(hx:∀t,x=.tok t->t<n):(AV.isl es x).mv n k=.isl es x:=by
 cases x with
 |tok t=>have:=hx t rfl;simp[AV.mv];omega
 |full=>rfl
 |unk=>rfl
theorem IL{e:TypeId}{h:H}{v:AV}{xs:LA}(o:OwnR e h v xs):∃x,v=.isl xs x/\OV h x:=by
 rcases o with rfl|⟨id,rfl,b⟩
 ·exact⟨.full,rfl,λt a=>by cases a⟩
 exact⟨.tok id,rfl,λt a=>by cases a;exact(aB.1 b).1⟩
theorem Lj(p:T × T) (ps:Lb) (x:Ext):∃x',fF C.P 153 (.isl ((p::ps).map bT) x) (some (.int .i64 1)) none none=some (.isl (ps.map bT) x')/\(x'=.full\/x'=.unk):=by have a:=mL (p::ps);refine⟨if x=.full then .full else .unk,?_,by split<;>simp⟩;simp only[aM]at a;have b:(1:Int)<=(ps.length:Int)+1:=o_;have c:List.take ps.length (List.map bT ps)=List.map bT ps:=bJ s_;simp[fF,Jc,GM,mB,qC,a,b,c]
def XB(a b:T) (i5 i6:Nat) (ps s:Lb) (x x':Ext) (m:Nat) (st:PT) (h:H):Prop:=∃(k:Nat) (v:AV),m=a.kids.length-k/\k<=a.kids.length/\h[i5]?=some (.cells (enc a).cells .live)/\h[i6]?=some (.cells (enc b).cells .live)/\st.get 0=.isl (ps.map bT) x/\st.get 4=.isl (s.map bT) x'/\st.get 5=.ptr i5 0/\st.get 6=.ptr i6 0/\st.get 7=v/\st.get 8=.int .i64 k /\
 OwnR 152 h v (((mJ a b).take k).map bT)
def W2(U:Lq) (K:Nat) (r:Lb) (e:Int) (m:Nat) (st:PT) (h:H):Prop:=∃(ps s:Lb) (x x':Ext),gg lJ m ps s=some (r,e)/\InvU U K ps s/\st.get 0=.isl (ps.map bT) x/\st.get 4=.isl (s.map bT) x'/\OV h x
theorem Qj(x y:T) (ps s:Lb) (e1 e2:Ext) (hx:x.size<=400) (hy:y.size<=400) (hp:B1 ps) (hs:B1 s) (hpl:ps.length<4000000) (hsl:s.length<4000000) (h:H) :
  aj C h (.func 146 []) (some [enc x,enc y,.isl (ps.map bT) e1,.isl (s.map bT) e2])=some (.tuple [binds (mw x y ps),binds (lJ (x,y) (ke x y s)),.bool (okU x y ps s)],h):=
 an (args':=[enc x,enc y,binds ps,binds s]) (by rw[bV x,bV y];rfl) (by simp[bF];exact⟨rfl,rfl⟩) s_ (RD x y ps s hx hy hp hs hpl hsl)
theorem InvU.le{U K ps s}(h:InvU U K ps s):B1 ps/\B1 s:=⟨λp a=>⟨(bg (h.valid p a).1).2.1,(bg (h.valid p a).2).2.1⟩,λb c=>⟨(bg (h.bval b c).1).2.1,(bg (h.bval b c).2).2.1⟩⟩
theorem zm(U:Lq) (K:Nat) (hK:K<=3000000) (hU:U.length<=3000000) (n:Nat) (ps0 r:Lb) (e:Int) (hi0:InvU U K ps0 []) (hr0:gg lJ n ps0 []=some (r,e)):az C 112 [binds ps0]=some (.tuple [binds r,.int .i64 e]):=by
 refine oV rfl func112 rfl k_ (by simp[f112]) λR hR=>?_
 have fin:∀(st:PT) (h:H) (x:Ext) (l:Lb) (e':Int),st.get 2=.isl (l.map bT) x->st.get 3=.int .i64 e'->l=r->e'=e->∀w,(w=.normal\/w=.ret)->R w st h:=λst h x l e' h2 h3 hl he w hw=>by refine hR _ _ _ hw ⟨.tuple [.isl (l.map bT) x,.int .i64 e'],by simp[ag,gk,cO,f112,h2,h3],?_⟩;rw[hl,he];exact du rfl rfl s_
 simp[go_sem];refine bX (W2 U K r e) n ⟨ps0,[],.unk,.tok 1,hr0,hi0,by simp[go_sem];rfl,g_,λt O=>by cases O⟩ ?_;clear hr0 hi0;rintro n st h ⟨o,s,x,x',c,d,F,g4,hx⟩;have f:=G1 o x;match o,n,c,d,F,f with
 |[],n,c,d,F,f=>
  have hh:s=r/\(0:Int)=e:=by simpa[gg]using c
  simp only[bM,bB]at F f;simp[go_sem,F,f];exact fin _ _ x' s 0 g_ g_ hh.1 hh.2 _ (.inr rfl)
 |(a,b)::o,0,c,_,_,_=>simp[gg]at c
 |(a,b)::o,n+1,c,d,F,f=>
  have⟨va,vb⟩:=d.valid _ bv;have sa:=(bg va).2.1;have sb:=(bg vb).2.1;have z5:=d.plen;have x7:=d.slen;simp only[aL]at z5;have y:aZ C.P 153 (.isl (((a,b)::o).map bT) x) (.int .i64 0)=some (.iptr (bT (a,b)) 0):=xy ((a,b)::o) 0 s_ x;have⟨x1,Q,z6⟩:=Lj (a,b) o x;have q0:∀h:H,OV h x1:=λh t O=>by rcases z6 with e|e<;>rw[e]at O<;>cases O
  obtain⟨N,hN⟩:∃N,N=((a,b)::o).length:=⟨_,rfl⟩
  have q4:0<N:=by rw[hN];simp
  rw[<-hN]at f;generalize hE:((a,b)::o).map bT=E at F f y Q;rw[gg]at c;simp[go_sem,F,f,q4];refine ic 3 _ (λz u=>z.get 0=.isl E x/\z.get 4=.isl (s.map bT) x'/\z.get 5=.ptr (h.length+8) 0/\z.get 6=.ptr (h.length+9) 0/\u[h.length+8]?=some (.cells (enc a).cells .live)/\u[h.length+9]?=some (.cells (enc b).cells .live)) (by rw[gM];decide) k_ ?_ ?_
  ·generalize q5:h++List.replicate _ VObj.void=H0;have A:Pl h H0 12:=q5▸Pl.mk' h 12;have x6:=A.len;clear q5;have mE:∀k,(AV.isl E x).mv H0.length k=.isl E x:=λk=>tR λt O=>by have:=hx t O;omega
   refine bE (.isl E x) rfl rfl (A.isV (i:=0) d_) (by simp[opN,go_sem,F]) (mE _) ?_;refine bE (.iptr (bT (a,b)) 0) rfl rfl (A.isV (i:=1) d_) (by simp[opN,go_sem,y]) rfl ?_;refine bE (.iptr (bT (a,b)) 0) rfl rfl (A.isV (i:=2) d_) (by simp[opN,go_sem]) rfl ?_;refine cR (.iptr (bT (a,b)) 0) (enc a) g_ (ki (a,b) H0) (by simp[it]) (A.isV (i:=3) d_) (eN _ _ _) ?_;refine bE (.isl E x) rfl rfl (A.isV (i:=4) d_) (by simp[opN,go_sem,F]) (mE _) ?_;refine bE (.iptr (bT (a,b)) 0) rfl rfl (A.isV (i:=5) d_) (by simp[opN,go_sem,y]) rfl ?_;refine bE (.iptr (bT (a,b)) 4) rfl rfl (A.isV (i:=6) d_) (by simp[opN,go_sem]) rfl ?_;refine cR (.iptr (bT (a,b)) 4) (enc b) g_ (nC (a,b) H0) (by simp[it]) (A.isV (i:=7) d_) (eN _ _ _) ?_;refine je _ mV (A.isV (i:=8) d_) ?_;rw[show VObj.mv H0.length (h.length+8) (.cells (AV.agg zc).cells .live)=.cells zc .live from rfl];obtain⟨Z,B⟩:∃g,g=H0.set (h.length+8) (.cells zc .live):=⟨_,rfl⟩
   have z7:Z.length=H0.length:=by rw[B];simp
   have q8:Z[h.length+8]?=some (.cells zc .live):=by rw[B];exact aD o_
   have u9:dE Z[h.length+9]?=true:=by rw[B];exact dg (A.isV (i:=9) d_) o_
   have z8:dE Z[h.length+10]?=true:=by rw[B];exact dg (A.isV (i:=10) d_) o_
   have z9:dE Z[h.length+11]?=true:=by rw[B];exact dg (A.isV (i:=11) d_) o_
   rw[<-B];refine je _ mV u9 ?_;rw[show VObj.mv Z.length (h.length+9) (.cells (AV.agg zc).cells .live)=.cells zc .live from rfl];obtain⟨H2,D⟩:∃g,g=Z.set (h.length+9) (.cells zc .live):=⟨_,rfl⟩
   have y':H2.length=H0.length:=by rw[D];simp[z7]
   have r8:H2[h.length+8]?=some (.cells zc .live):=by rw[D,aC o_];exact q8
   have r9:H2[h.length+9]?=some (.cells zc .live):=by rw[D];exact aD o_
   have y0:dE H2[h.length+10]?=true:=by rw[D];exact dg z8 o_
   have y1:dE H2[h.length+11]?=true:=by rw[D];exact dg z9 o_
   rw[<-D];refine iA (h.length+8) 0 (enc a) _ g_ g_ (kM a r8) o_ y0 ?_;rw[pR];have t9:(H2.set (h.length+8) (.cells (enc a).cells .live))[h.length+9]?=some (.cells zc .live):=by rw[aC o_];exact r9
   refine iA (h.length+9) 0 (enc b) _ g_ g_ (kM b t9) o_ (dg y1 o_) ?_;rw[pR];refine⟨?_,?_⟩
   ·unfold sq;generalize hb:Region.before _=bb;have q6:(bb.getD 10 0).testBit 8=true:=by rw[<-hb];kernel_rfl
    have q7:(bb.getD 11 0).testBit 9=true:=by rw[<-hb];kernel_rfl
    clear hb;simp[it,qm,List.range,List.range.loop];simp at q6 q7;exact⟨q6,q7⟩
   refine⟨g_,g_,g_,g_,?_,aD (by simp[y'];omega)⟩;rw[aC o_];exact aD o_
  rintro z u ⟨q9,J,G,I,S,L⟩;clear F g4 f q4 y;have x8:a.size<=400:=sa;have x9:b.size<=400:=sb;have w':a.kids.length<=8:=uV (eF (bg va).1);have w0:b.kids.length<=8:=uV (eF (bg vb).1);have y3:=(aB.1 L).1;clear hx;have cs:=nH a b o_ o_;have ca:=JD a b o_ o_;have la:=eY S;have lb:=eY L;simp[go_sem,q9,Q,G,I,la,lb,cs];by_cases q1:a.cmp b=0
  ·rw[if_pos q1]at c;simp[go_sem,q1];exact⟨n,o_,o,s,x1,x',c,d.skip,g_,by simp[go_sem,J],q0 _⟩
  rw[if_neg q1]at c;simp[go_sem,q1,G,I,la,lb,ca];cases q2:fH a b
  ·rw[q2,if_neg s_]at c;have cc:=Qk a b o_ o_;have j:=FQ a b;obtain⟨⟨X,Y,e1⟩,hX⟩:∃X,jx a b=X:=⟨_,rfl⟩
   rw[hX]at cc j;have s1:ah C.P (u++[.cells zc .live,.cells zc .live]) 41 (.ptr u.length 0) (enc X)=some (u++[.cells (enc X).cells .live,.cells zc .live]):=by rw[kM X s_];simp
   have s2:ah C.P (u++[.cells (enc X).cells .live,.cells zc .live]) 41 (.ptr (u.length+1) 0) (enc Y)=some (u++[.cells (enc X).cells .live,.cells (enc Y).cells .live]):=by rw[kM Y s_];simp
   have l1:aJ C.P (u++[.cells (enc X).cells .live,.cells (enc Y).cells .live]) 41 (.ptr u.length 0)=some (enc X):=eY s_;have l2:aJ C.P (u++[.cells (enc X).cells .live,.cells (enc Y).cells .live]) 41 (.ptr (u.length+1) 0)=some (enc Y):=eY s_;simp[go_sem,G,I,la,lb,cc,mV,s1,s2];generalize z':fB a b=cu at c j;cases cu with
   |bad e2=>obtain⟨rfl,y4⟩:=j;simp only[aA,aE]at c;simp[go_sem,y4];exact fin _ _ _ [] e1 (by simp[go_sem];rfl) g_ c.1 c.2 _ (.inr rfl)
   |ok x2 y2=>
    simp only[aE]at j;obtain⟨rfl,rfl,rfl⟩:=j;have z0:a≠b:=λq=>q1 (by rw[q];exact cmp_refl b)
    have z1:=(pS va vb z0 z').2.2;have y5:X.size<=400:=by rcases z1 with⟨p,_⟩|⟨p,_⟩<;>rw[p]<;>assumption
    have y6:Y.size<=400:=by rcases z1 with⟨_,p⟩|⟨_,p⟩<;>rw[p]<;>assumption
    have z2:=d.skip.le;have cb:=Qj X Y o s x1 x' y5 y6 z2.1 z2.2 o_ o_;dsimp only at c;simp[go_sem,l1,l2,J,cb];cases q3:okU X Y o s
    ·rw[q3,if_neg s_]at c;simp only[aA,aE]at c;simp[go_sem];exact fin _ _ _ [] 3 (by simp[go_sem];rfl) g_ c.1 c.2 _ (.inr rfl)
    rw[q3,if_pos rfl]at c;simp[go_sem];exact⟨n,o_,mw X Y o,lJ (X,Y) (ke X Y s),.unk,.unk,c,(d.bind z0 z' q3).1.perm (oA _ _).symm,by simp[go_sem];rfl,by simp[go_sem];rfl,λt O=>by cases O⟩
  rw[q2,if_pos rfl]at c;have y7:a.kids.length=b.kids.length:=by simp only[fH,bI,decide_eq_true_eq]at q2;exact q2.2
  have w1:(mJ a b).length=a.kids.length:=by simp[mJ,y7]
  simp[go_sem];refine bX (XB a b (h.length+8) (h.length+9) o s x1 x') a.kids.length ⟨0,.isl [] (.tok u.length),rfl,aO _,ga S,ga L,g_,by simp[go_sem,J],by simp[go_sem,G],by simp[go_sem,I],g_,g_,.inr ⟨u.length,rfl,s_⟩⟩ ?_;generalize h.length+8=i5;generalize h.length+9=i6;clear I G J q9 la lb S L y3 z u;rintro m st h ⟨k,v,rfl,hk,S,L,F,g4,g5,g6,g7,g8,V⟩;have l5:=wh S;have l6:=wh L;by_cases z3:k<a.kids.length
  ·have z4:(k:Int)<a.kids.length:=o_;have y:=dh a.kids k z3;have y8:=dh b.kids k o_;have w2:=wS k o_;have⟨v',h2,M,ho,q',y9⟩:=un (ys:=[(a.kids[k],b.kids[k])]) (x:=.full) V (by simp only[bU,aL,bB];omega);have x0:(mJ a b).take k++[(a.kids[k],b.kids[k])]=(mJ a b).take (k+1):=by rw[<-aW (by omega:k<(mJ a b).length)];simp[mJ]
   rw[x0]at ho;simp only[aM,bM]at M;simp[go_sem,g5,g8,l5,z4,dX];refine eQ 11 _ (by simp[gM]) rfl ?_;simp[go_sem,g5,g6,g7,g8,l5,l6,y,y8,ee,Dj,nr,mP,M,-Int.natCast_add,w2];refine⟨?_,a.kids.length-(k+1),o_,k+1,v',rfl,z3,q'.get S (bn V S),q'.get L (bn V L),g_,g_,g_,g_,g_,g_,ho⟩;have x3:=bn V S;have x4:=bn V L;rcases V with rfl|⟨id,rfl,hd⟩
   ·simp[go_sem,ff,fL,fP,iC,dy,cF]
   simp only[cG,ne_eq,aA]at x3 x4;simp[go_sem,ff,fL,fP,iC,dy,cF]
   (try omega)
  have:k=a.kids.length:=o_;subst this;rw[bJ o_]at V;have⟨v',h2,M,ho,q',y9⟩:=un (ys:=o) (x:=x1) V o_;obtain⟨xx,rfl,x5⟩:=IL ho;simp[go_sem,g5,g8,l5,dX,g7,F,M];exact⟨n,o_,mJ a b++o,s,xx,x',c,d.kids,g_,g_,x5⟩
theorem xj{u t:T}:∀ {l:Lq},t∈l->u∈bm bD t->u∈eJ bD l
 |[],h,_=>by simp at h
 |a::l,h,hu=>by
  rw[eJ,aK];rcases aV.1 h with rfl|h
  ·exact .inl hu
  exact .inr (xj h hu)
def varsU(l:Lq):Lq:=(eJ bD l).filter λt=>decide (t.kind=1)
theorem sx:∀ {l:Lq},(∀t∈l,bA t=0)->sizes l<=400*l.length
 |[],_=>by simp[sizes]
 |a::l,h=>by
  have h1:=(bg (h a bv)).2.1;have c:=sx λt b=>h t (bP _ b)
  rw[sizes,aL];omega
theorem Ja{l:Lq}(h:∀t∈l,bA t=0):(varsU l).length<=400*l.length:=by have a:(varsU l).length<=(eJ bD l).length:=dS _ _;have b:=kY bD (λ_=>by simp[bD]) l;have c:=sx h;omega
theorem vk{l m:Lq}(hvl:∀t∈l,bA t=0) (hvm:∀t∈m,bA t=0):InvU (varsU (l++m)) (l.length+400*(varsU (l++m)).length) (l.zip m) []:=by
 have c:∀p∈l.zip m,p.1∈l/\p.2∈m:=λp a=>⟨(kG a).1,(kG a).2⟩
 have f:=FM (varsU (l++m)) (l.zip m);refine⟨λp a=>⟨hvl _ (c p a).1,hvm _ (c p a).2⟩,λp a u d h=>?_,λu d=>?_,λb e=>by simp at e,λb e=>by simp at e,.nil,⟨[],l.zip m,rfl,s_,?_⟩,by simpa using f⟩
 ·refine cE.2 ⟨?_,by simpa using d⟩;rcases h with h|h
  ·exact xj (aa _ (c p a).1) h
  exact xj (bk _ (c p a).2) h
 ·simpa using(cE.1 d).2
 have:=jX 400 f;rw[List.length_zip];omega
theorem yj{U l m:Lq}(hvl:∀t∈l,bA t=0) (hvm:∀t∈m,bA t=0) (hU:∀u:T,u.kind=1->(∃t∈l++m,u∈bm bD t)->u∈U) (hk:∀u∈U,u.kind=1):InvU U (l.length+400*U.length) (l.zip m) []:=by
 have c:∀p∈l.zip m,p.1∈l/\p.2∈m:=λp a=>⟨(kG a).1,(kG a).2⟩
 have e:=FM U (l.zip m);refine⟨λp a=>⟨hvl _ (c p a).1,hvm _ (c p a).2⟩,λp a u f h=>?_,hk,λb d=>by simp at d,λb d=>by simp at d,.nil,⟨[],l.zip m,rfl,s_,?_⟩,by simpa using e⟩
 ·refine hU u f ?_;rcases h with h|h
  ·exact⟨_,aa _ (c p a).1,h⟩
  exact⟨_,bk _ (c p a).2,h⟩
 have:=jX 400 e;rw[List.length_zip];omega
theorem KS{l m:Lq}(hvl:∀t∈l,bA t=0) (hvm:∀t∈m,bA t=0) (hlm:l.length=m.length) (hl8:l.length<=8) :
  ∃n rE rO e,gg AZ n (l.zip m) []=some (rE,e)/\rE.Perm rO/\xM rO/\az C 112 [binds (l.zip m)]=some (.tuple [binds rO,.int .i64 e])/\(e=0->rE=[]\/∃U K,InvU U K [] rE):=by
 have f:∀t∈l++m,bA t=0:=λt g=>(aK.1 g).elim (hvl t) (hvm t)
 have i:=Ja f;rw[List.length_append]at i;have b:=vk hvl hvm;have⟨n,⟨rE,e⟩,c⟩:=QI _ _ _ _ b (aP _) (aP _);have⟨rO,d,j,k⟩:=qz n _ _ _ rE e (.refl _) .nil c;have a:=zm (varsU (l++m)) (l.length+400*(varsU (l++m)).length) o_ o_ n (l.zip m) rO e b d;refine⟨n,rE,rO,e,c,j,k,a,λo=>?_⟩;subst o;exact(rf n _ _ rE b c).imp id λh=>⟨_,_,h⟩
def XE(x y t:T) (q:Nat) (h0:H) (m:Nat) (st:PT) (h:H):Prop:=∃k:Nat,m=t.kids.length-k/\k<=t.kids.length/\Pre h0 h/\h0.length+3<=h.length/\h[h0.length]?=some (.cells (enc t).cells .live)/\h[h0.length+1]?=some (.cells zc .live)/\h[h0.length+2]?=some (.cells (bZ ((t.kids.take k).map (gl x y))++zs (t.kids.length-k)) .live) /\
 st.get 0=.mp q/\st.get 3=.ptr h0.length 0/\st.get 4=.ptr (h0.length+1) 0/\st.get 7=.msl (h0.length+2) 0 4 t.kids.length (some t.kids.length)/\st.get 32=terms t.kids/\st.get 33=.int .i64 t.kids.length/\st.get 34=.int .i64 k
theorem Pz{h0 h:H}(p:Pre h0 h){i:Nat}{cs:LA}(hi:h0.length<=i) (e:h[i]?=some (.cells cs .live)):∃g,h=h0++g/\(h0++bo g)[i]?=some (.cells cs .frozen):=by obtain⟨g,rfl⟩:=p;refine⟨g,rfl,?_⟩;rw[ap hi]at e ⊢;rw[qo,e]
theorem Yd{h:H}{i:Nat}(hi:h[i]?=some (.cells zc .live)):ah C.P h 41 (.ptr i 0) (.agg zc)=some h:=by
 have a:h.set i (.cells zc .live)=h:=by
  refine dB λj=>?_
  rw[fz];split
  ·rename_i e;subst e;split
   ·exact hi.symm
   rename_i q;rw[cI o_]
  rfl
 have:ah C.P h 41 (.ptr i 0) (.agg zc)=some (h.set i (.cells zc .live)):=by simp[ah,hi,s25,zc]
 rw[this,a]
theorem Se(x y t:T) (ht:t.size<=20000) (hc:∀k∈t.kids,∀(h:H) (q:Nat),uF h q x y->∃g,aj C h (.func 228 []) (some [.mp q,enc k])=some (enc (gl x y k),h++g)) (h0:H) (q:Nat) (hq:uF h0 q x y) :
  ∃g,aj C h0 (.func 228 []) (some [.mp q,enc t])=some (enc (gl x y t),h0++g):=by
 suffices hh:∃r h',Go.V.Call C 228 [.mp q,enc t] h0=some (r,h')/\∃g,h'=h0++g/\eW (h0++bo g) cM r=some (enc (gl x y t)) by
  obtain⟨r,h',a,g,rfl,b⟩:=hh;exact⟨bo g,QW k_ rfl a b⟩
 refine kA rfl func228 rfl k_ (by simp[f228]) λR hR=>?_
 have hsz:=size_kids t;have hlen:=len_sizes t.kids;have hln:=dX t.kids;have hpe:=Ck x y t;have dat:∀(st:PT) (h:H) (u:T),st.get 4=.ptr (h0.length+1) 0->h[h0.length+1]?=some (.cells (enc u).cells .live)->Pre h0 h->u=gl x y t->∀e,(e=.normal\/e=.ret)->R e st h:=λst h u g4 m1 hp hu e he=>by refine hR _ _ _ he ⟨enc u,by simp[ag,cO,f228,g4,eY m1],?_⟩;obtain⟨g,rfl⟩:=hp;exact⟨g,rfl,by rw[<-hu];exact aU (oh u) (bF u)⟩
 obtain⟨h1,eh1⟩:∃g:H,g=h0++[.cells (enc t).cells .live,.cells zc .live]:=⟨_,rfl⟩
 have p1:Pre h0 h1:=⟨_,eh1⟩
 have hl1:h1.length=h0.length+2:=by rw[eh1];simp
 have m0:h1[h0.length]?=some (.cells (enc t).cells .live):=by rw[eh1];simp
 have m1:h1[h0.length+1]?=some (.cells zc .live):=by rw[eh1];simp
 have l0:=eY m0;have lk:=wh m0;have c1:=DY t;have c2:=I7 t;have lq:=Vc (h:=h1) t (show uF h1 q x y from p1.get hq);have z25c:=zV;have s1:=kM t m1;have hlt1:=(aB.1 m1).1;rw[eh1]at l0 lk lq s1;by_cases k1:t.kind=1
 ·have hv:iv t=true:=by simp[iv,k1]
  rw[if_pos k1]at hpe;rw[hv]at c1;by_cases k2:t.name=x.name/\t.sort=x.sort
  ·rw[if_pos k2]at hpe lq;have t1:ah C.P (h0++[.cells (enc t).cells .live,.cells zc .live,.cells zc .live]) 41 (.ptr (h0.length+2) 0) (enc y)=some (h0++[.cells (enc t).cells .live,.cells zc .live,.cells (enc y).cells .live]):=by rw[kM y s_];simp
   have t2:aJ C.P (h0++[.cells (enc t).cells .live,.cells zc .live,.cells (enc y).cells .live]) 41 (.ptr (h0.length+2) 0)=some (enc y):=eY s_;have t3:ah C.P (h0++[.cells (enc t).cells .live,.cells zc .live,.cells (enc y).cells .live]) 41 (.ptr (h0.length+1) 0) (enc y)=some (h0++[.cells (enc t).cells .live,.cells (enc y).cells .live,.cells (enc y).cells .live]):=by rw[kM y s_];simp
   simp[go_sem,dP,nJ,mV,am,l0,c1,c2,lq,t1,t2,t3];exact dat _ _ y g_ s_ ⟨_,rfl⟩ hpe.symm _ (.inr rfl)
  rw[if_neg k2]at hpe lq;have t1:ah C.P (h0++[.cells (enc t).cells .live,.cells zc .live,.cells zc .live]) 41 (.ptr (h0.length+2) 0) (.agg zc)=some (h0++[.cells (enc t).cells .live,.cells zc .live,.cells zc .live]):=Yd s_;have t2:aJ C.P (h0++[.cells (enc t).cells .live,.cells zc .live,.cells zc .live]) 41 (.ptr h0.length 0)=some (enc t):=eY s_;have t3:ah C.P (h0++[.cells (enc t).cells .live,.cells zc .live,.cells zc .live]) 41 (.ptr (h0.length+1) 0) (enc t)=some (h0++[.cells (enc t).cells .live,.cells (enc t).cells .live,.cells zc .live]):=by rw[kM t s_];simp
  simp[go_sem,dP,nJ,mV,am,l0,c1,c2,lq,t1,t2,t3];exact dat _ _ t g_ s_ ⟨_,rfl⟩ hpe.symm _ (.inr rfl)
 have hv:iv t=false:=by simp[iv,k1]
 rw[if_neg k1]at hpe;rw[hv]at c1;by_cases k3:t.kids.length=0
 ·have e0:t.kids=[]:=cU k3;have t3:ah C.P (h0++[.cells (enc t).cells .live,.cells zc .live]) 41 (.ptr (h0.length+1) 0) (enc t)=some (h0++[.cells (enc t).cells .live,.cells (enc t).cells .live]):=by rw[kM t s_];simp
  have hpe':t=gl x y t:=by rw[hpe,e0];exact T.ext rfl rfl rfl e0
  rw[k3]at hln;simp[go_sem,dP,nJ,mV,am,l0,lk,c1,hln,t3];exact dat _ _ t g_ s_ ⟨_,rfl⟩ hpe' _ (.inr rfl)
 obtain⟨N,hN⟩:∃N,N=t.kids.length:=⟨_,rfl⟩
 have k4:¬N=0:=o_;have k4':¬(N:Int)=0:=o_;rw[<-hN]at hln;have mk:=Yn false (h0++[.cells (enc t).cells .live,.cells zc .live]) N o_ o_;have l2:aJ C.P (h0++[.cells (enc t).cells .live,.cells zc .live,.cells (zs N) .live]) 32 (.ptr h0.length 3)=some (terms t.kids):=wh s_;simp[go_sem,nJ,mV,am,l0,lk,c1,hln,k4,mk,l2];refine bX (XE x y t q h0) N ⟨0,o_,o_,⟨_,rfl⟩,s_,s_,s_,by simp[bZ,hN],g_,g_,g_,by simp[go_sem,hN],g_,by simp[go_sem,hN],g_⟩ ?_;clear mk l2 l0 lk lq s1 z25c hlt1 m0 m1 hl1 p1 eh1 h1 k4 k4' k3;rintro m st h ⟨k,rfl,hk,pre,hl3,m0,m1,m2,g0,g3,g4,g7,g32,g33,g34⟩;by_cases hlt:k<t.kids.length
 ·have hlt':(k:Int)<t.kids.length:=o_;have hix:=dh t.kids k hlt;have w2:=wS k o_;have t1:ah C.P (h++[.cells zc .live]) 41 (.ptr h.length 0) (enc t.kids[k])=some (h++[.cells (enc t.kids[k]).cells .live]):=by rw[kM _ s_];simp
  have t2:aJ C.P (h++[.cells (enc t.kids[k]).cells .live]) 41 (.ptr h.length 0)=some (enc t.kids[k]):=eY s_;have⟨g,hg⟩:=hc _ (aG hlt) (h++[.cells (enc t.kids[k]).cells .live]) q ((pre.trans ⟨_,rfl⟩).get hq);obtain⟨h2,eh2⟩:∃h2,h2=h++[.cells (enc t.kids[k]).cells .live]++g:=⟨_,rfl⟩
  rw[<-eh2]at hg;have kp:∀ {j:Nat}{o:VObj},h[j]?=some o->h2[j]?=some o:=fun {j o} hj=>by rw[eh2];exact ga (ga hj)
  have hr:zs (t.kids.length-k)=zc++zs (t.kids.length-(k+1)):=by rw[show t.kids.length-k=(t.kids.length-(k+1))+1 by omega,Hw]
  rw[hr]at m2;have tk:((t.kids.take k).map (gl x y)).length=k:=by simp;omega
  have t3:=stZ (gl x y t.kids[k]) (kp m2);rw[tk]at t3;have etk:(t.kids.take k).map (gl x y)++[gl x y t.kids[k]]=(t.kids.take (k+1)).map (gl x y):=by rw[<-aW hlt,List.map_append];rfl
  rw[etk]at t3;have hiz:=ZH (id:=h0.length+2) (c:=some t.kids.length) hlt;simp[go_sem,g0,g7,g32,g33,g34,hlt',hix,ee,mV,am,t1,t2,hg,hiz,t3,-Int.natCast_add,w2];have hl2:h.length<=h2.length:=by rw[eh2];simp
  have pre2:Pre h0 h2:=by rw[eh2];exact(pre.app _).app _
  exact⟨t.kids.length-(k+1),o_,k+1,rfl,hlt,pre2.set o_ _,by simp;omega,by rw[aC o_];exact kp m0,by rw[aC o_];exact kp m1,by rw[aD o_,List.map_take],g_,g_,g_,g_,g_,g_,g_⟩
 have:k=t.kids.length:=o_;subst this;rw[ak,nN,show zs 0=[]from rfl,br]at m2;have tk:(t.kids.map (gl x y)).length=t.kids.length:=s_;obtain⟨v,ev⟩:∃v,v=AV.msl (h0.length+2) 0 4 t.kids.length (some t.kids.length):=⟨_,rfl⟩
 have hv1:au v=true:=by rw[ev];rfl
 rw[<-ev]at g7;have hl0:h0.length<h.length:=o_;have hst:ah C.P h 32 (.ptr h0.length 3) v=some (h.set h0.length (.cells [.int .i64 t.kind,.str t.name,.int .i64 t.sort,v] .live)):=by rw[aq]at m0;rw[ev];simp[ah,m0,s23]
 obtain⟨h2,eh2⟩:∃h2,h2=h.set h0.length (.cells [.int .i64 t.kind,.str t.name,.int .i64 t.sort,v] .live):=⟨_,rfl⟩
 rw[<-eh2]at hst;have hlen2:h2.length=h.length:=by rw[eh2];simp
 have n0:h2[h0.length]?=some (.cells [.int .i64 t.kind,.str t.name,.int .i64 t.sort,v] .live):=by rw[eh2];exact aD hl0
 have n1:h2[h0.length+1]?=some (.cells zc .live):=by rw[eh2,aC o_];exact m1
 have n2:h2[h0.length+2]?=some (.cells (bZ (t.kids.map (gl x y))) .live):=by rw[eh2,aC o_];exact m2
 have pre2:Pre h0 h2:=by rw[eh2];exact pre.set (aP _) _
 have e5:aJ C.P h2 41 (.ptr h0.length 0)=some (.agg [.int .i64 t.kind,.str t.name,.int .i64 t.sort,v]):=by simp[aJ,n0,aY,a25,s25]
 have e6:ah C.P h2 41 (.ptr (h0.length+1) 0) (.agg [.int .i64 t.kind,.str t.name,.int .i64 t.sort,v])=some (h2.set (h0.length+1) (.cells [.int .i64 t.kind,.str t.name,.int .i64 t.sort,v] .live)):=by simp[ah,n1,s25,zc]
 have e7:aJ C.P (h2.set (h0.length+1) (.cells [.int .i64 t.kind,.str t.name,.int .i64 t.sort,v] .live)) 41 (.ptr (h0.length+1) 0)=some (.agg [.int .i64 t.kind,.str t.name,.int .i64 t.sort,v]):=by simp[aJ,aD (show h0.length+1<h2.length by omega),aY,a25,s25]
 simp[go_sem,g3,g4,g7,g33,g34,hst,e5,e6]
 refine hR _ _ _ (.inr rfl) ⟨.agg [.int .i64 t.kind,.str t.name,.int .i64 t.sort,v],by simp[ag,cO,f228,go_sem,g4,e7],?_⟩
 obtain⟨g,eg,hg⟩:=Pz (pre2.set (i:=h0.length+1) (by omega) (.cells [.int .i64 t.kind,.str t.name,.int .i64 t.sort,v] .live)) (i:=h0.length+2) (by omega) (by rw[aC (by omega)];exact n2)
 refine⟨g,eg,?_⟩
 have hsn:=VK (cap:=some t.kids.length) hg (by rw[tk];omega) t.kind t.sort t.name
 rw[tk,<-ev]at hsn
 rw[hsn,hpe,bV];rfl
theorem GZ(x y:T):∀t:T,t.size<=20000->∀(h:H) (q:Nat),uF h q x y->∃g,aj C h (.func 228 []) (some [.mp q,enc t])=some (enc (gl x y t),h++g):=by
 refine T.ind λt c d h q a=>Se x y t d (λk b h q a=>c k b ?_ h q a) h q a
 have:=kid_size b;omega
theorem Vi{h:H}{pb q:Nat}(hpb:h[pb]?=some (.cells [.mp q] .live)):aJ C.P h 251 (.ptr pb 0)=some (.mp q):=by have a:cw C.P 251=some 1:=k_;have b:gW C.P 251=some false:=k_;simp[aJ,hpb,aY,b,a]
theorem Vf{h:H}{p:Nat}{b:Bool}(hp:h[p]?=some (.cells [.bool b] .live)):aJ C.P h 4 (.ptr p 0)=some (.bool b):=by have s4:cw C.P 4=some 1:=k_;have a4:gW C.P 4=some false:=k_;simp[aJ,hp,aY,a4,s4]
theorem VC{h:H}{p:Nat}{b:Bool}(c:Bool) (hp:h[p]?=some (.cells [.bool b] .live)):ah C.P h 4 (.ptr p 0) (.bool c)=some (h.set p (.cells [.bool c] .live)):=by have s4:cw C.P 4=some 1:=k_;simp[ah,hp,s4]
theorem Pk{h:H}{i:Nat}{A B:LA}{t:T}(hi:h[i]?=some (.cells (A++(enc t).cells++B) .live)):aJ C.P h 41 (.ptr i A.length)=some (enc t):=by
 have a:(enc t).cells.length=4:=by rw[aq];rfl
 have ev:AV.agg (enc t).cells=enc t:=by rw[aq,bV]
 have b:((A++(enc t).cells++B).drop A.length).take 4=(enc t).cells:=by rw[List.append_assoc,List.drop_left,bq o_,bJ o_]
 have c:A.length+4<=(A++(enc t).cells++B).length:=by simp only[List.length_append,a];omega
 rw[<-ev];generalize (enc t).cells=cc at *;generalize A++cc++B=D at *;simp[aJ,hi,aY,a25,s25,b,c]
theorem VB{h:H}{i:Nat}{A B:LA}{t:T}(u:T) (hi:h[i]?=some (.cells (A++(enc t).cells++B) .live)):ah C.P h 41 (.ptr i A.length) (enc u)=some (h.set i (.cells (A++(enc u).cells++B) .live)):=by
 have a:(enc t).cells.length=4:=by rw[aq];rfl
 have b:(enc u).cells.length=4:=by rw[aq];rfl
 have ev:enc u=.agg (enc u).cells:=by rw[aq,bV]
 have c:(A++(enc t).cells++B).take A.length=A:=by rw[List.append_assoc,List.take_left]
 have d:(A++(enc t).cells++B).drop (A.length+4)=B:=jC (by simp only[List.length_append,a]);have a3:A.length+4<=(A++(enc t).cells++B).length:=by simp only[List.length_append,a];omega
 generalize e:(enc u).cells=cc at *;generalize A++(enc t).cells++B=D at *;rw[ev];simp only[ah,hi,s25];rw[if_pos ⟨b,a3⟩,c,d,List.append_assoc]
theorem yK(x y t:T) (b:Bool) (h0:H) (q pb pr i:Nat) (A B:LA) (hpb:h0[pb]?=some (.cells [.mp q] .live)) (hpr:h0[pr]?=some (.cells [.bool b] .live)) (hi:h0[i]?=some (.cells (A++(enc t).cells++B) .live)) (hq:uF h0 q x y) (ht:t.size<=20000) (hu:(gl x y t).size<4000000) (_hip:i≠pb) (hir:i≠pr) :
  ∃g,Go.V.Call C 227 [.ptr i A.length,.ptr pb 0,.ptr pr 0] h0=some (.tuple [],((h0++g).set i (.cells (A++(enc (gl x y t)).cells++B) .live)).set pr (.cells [.bool (b&&decide (bA (gl x y t)=0))] .live)):=by
 have⟨g,l⟩:=GZ x y t ht h0 q hq;refine⟨g,?_⟩;refine wD rfl func227 rfl k_ (by simp[f227]) λR f=>?_
 have m:=Vi hpb;have n:=Pk hi;have h:=VB (gl x y t) (show(h0++g)[i]?=_ from ga hi);obtain⟨a,d⟩:∃a,a=(h0++g).set i (.cells (A++(enc (gl x y t)).cells++B) .live):=⟨_,rfl⟩
 have e:i<(h0++g).length:=(aB.1 (show(h0++g)[i]?=_ from ga hi)).1;have o:a[i]?=some (.cells (A++(enc (gl x y t)).cells++B) .live):=by rw[d];exact aD e
 have j:a[pr]?=some (.cells [.bool b] .live):=by rw[d,aC hir];exact ga hpr
 rw[<-d]at h;rw[<-d]at f;have p:=Pk o;have r:=Vf j;have s:=um (gl x y t) hu;have u:=λc=>VC c j
 cases b<;>by_cases k:bA (gl x y t)=0<;>
 ·simp[go_sem,dP,m,n,l,h,p,r,s,u,k];exact f _ _ _ (.inl rfl) ⟨.tuple [],by simp[ag,gk,f227],by simp[k]⟩
theorem vz{f:FuncId}{caps args:LA}{h:H}(hb:dl C.P f=true) (hm:C.mode f=.openH):aj C h (.func f caps) (some args)=Go.V.Call C f (args++caps) h:=by simp[aj,hb,dJ,hm,Go.V.Call]
end Go.VZ
namespace Go.V
open Go
section
variable {C:Cfg}{cf:FuncId}{ops:Array Oper}{base:Nat}{K:PT->H->List FP->Prop}{i:Nat}{l:List Oper}{s:PT}{h:H}{F:List FP}
theorem Hu{d:Tmp}{t ty:TypeId}{p:String}{af:Array Edge}(hp:dE h[base+i]?=true)
  (hk:MX C cf ops base K (i+1) l (s.set d (.mp (base+i))) (h.set (base+i) (.map [])) (F++[([base+i],[base+i])])):MX C cf ops base K i (⟨some d,.makeMap t none,ty,p,af,none⟩::l) s h F:=by
 refine BA (.mp h.length) (.map []) rfl rfl ?_ hp ?_
 ·rw[jr rfl];simp only[opA]
 have:(AV.mp h.length).mv h.length (base+i)=.mp (base+i):=by simp[AV.mv]
 rw[this];exact hk
theorem LK{t ty:TypeId}{m k x:Operand}{p:String}{af:Array Edge}(id:Nat) (a v:AV) (z:VObj) (hx:ev s m=some (.mp id)) (ha:ev s k=some a) (hv:ev s x=some v) (hs:er C.P h t (.mp id) a v=some (h.set id z)) (hn:id≠base+i) (hp:dE h[base+i]?=true)
  (hk:MX C cf ops base K (i+1) l (s) (h.set id (z.mv h.length (base+i))) (F++[([base+i,id],[base+i,id])])):MX C cf ops base K i (⟨none,.insert t m k x,ty,p,af,none⟩::l) s h F:=by
 refine⟨AV.undef,h.set id (z.mv h.length (base+i)),([base+i,id],[base+i,id]),?_,hk⟩;have b:lT C s h ⟨none,.insert t m k x,ty,p,af,none⟩=some ([id],true):=by simp only[lT,eP,if_true,hx,Gt]
 have c:opV C (Call C) cf s h ⟨none,.insert t m k x,ty,p,af,none⟩=some (AV.undef,h.set id z):=by rw[jr rfl];simp only[opA,hx,ha,hv,hs]
 unfold gz;rw[if_pos (by simp[Region.wanted]),b,c];dsimp only;rw[if_pos ⟨s_,by simpa using λe=>hn e.symm,hp⟩,if_pos rfl,if_pos rfl,oD hn];rfl
end
end Go.V
namespace Go.VZ
open Go Go.V Go.Proofs Tryz TL
theorem U0:iV C.P 251=some .nilmap:=k_
theorem VG{h:H}{i q:Nat}{z:AV}(hi:h[i]?=some (.cells [z] .live)):ah C.P h 251 (.ptr i 0) (.mp q)=some (h.set i (.cells [.mp q] .live)):=by have a:cw C.P 251=some 1:=k_;simp[ah,hi,a]
end Go.VZ
namespace Go.VZ
open Go Go.V Go.Proofs Tryz TL
theorem rV:C.P.underlying 182=some (.slice 184):=k_
theorem wN:cw C.P 184=some 8:=k_
theorem LB:jy C.P 184=some 112:=k_
theorem Dt:ip C.P 184=true:=k_
theorem Vv:ja C.P 182=some 184:=k_
attribute [go_sem] Vv
theorem Ir(i o:Nat):bp C.P 184 (.ptr i o) 0=some (.ptr i o):=k_
theorem Iq(i o:Nat):bp C.P 184 (.ptr i o) 1=some (.ptr i (o+4)):=k_
theorem P7(i o:Nat):bp C.P 121 (.ptr i o) 1=some (.ptr i (o+4)):=k_
theorem iR(a:T × T) (l:Lb):bw (a::l)=((enc a.1).cells++(enc a.2).cells)++bw l:=rfl
theorem HL(t:T):(enc t).cells.length=4:=by rw[aq];rfl
theorem dv(l:Lb):(bw l).length=8*l.length:=by
 induction l with
 |nil=>rfl
 |cons a l b=>rw[iR,List.length_append,b,List.length_append,HL,HL,aL];omega
theorem sT(l:Lb):(l.map bT).flatMap AV.cells=bw l:=by rw[oK];exact congrArg (λf=>l.flatMap f) (funext λb=>Ha b)
theorem yI:∀ {l m l' m':LA},nW l=some l'->nW m=some m'->nW (l++m)=some (l'++m')
 |[],m,l',m',h,k=>by simp only[nW,aA]at h;subst h;exact k
 |a::l,m,l',m',h,k=>by
  simp only[nW]at h;split at h<;>try(cases h;done)
  rename_i b r h1 h2;simp only[aA]at h;subst h;have:=yI h2 k;simp only[cV,nW,h1,this]
theorem sO(l:Lb):nW (bw l)=some (bw l):=by
 induction l with
 |nil=>rfl
 |cons a l b=>rw[iR];exact yI (by rw[aq,aq];rfl) b
theorem Nj(a:T × T) (l:Lb) (hl:(a::l).length<=122000):Go.V.Call C 229 [binds (a::l)] []=some (.msl 0 0 8 (a::l).length none,[.cells (bw (a::l)) .live]):=by
 refine wD rfl func229 rfl k_ (by simp[f229]) λR c=>?_
 have b:=mL (a::l);have d:jU C.P .eql 182 (.tmp 3) (.const (.slice none 0 0)) (binds (a::l)) (.isl [] .full)=some (.bool false):=by simp[jU,binds,fI,cn,qS,yU,AX,Ms,rV,vm]
 have e:cQ C.P [] 182 0 []=some (.isl [] .full,[]):=cY rV wN Dt rfl o_ rfl (es:=[]) rfl rfl s_ rfl;have f:bi C.P true [] 182 (.isl [] .full) (binds (a::l))=some (.msl 0 0 8 (a::l).length none,[.cells (bw (a::l)) .live]):=by
  have g:jh [] 8 (.isl ((a::l).map bT) .unk)=some (bw (a::l),(a::l).length):=by simp only[jh,b,if_true,sT,ax]
  simp only[bi,ey,dC,if_false,aT,de,rV,wN,LB,Dt,binds,g];have h:0<(a::l).length:=s_;generalize (a::l).length=m at hl h;have i:¬m=0:=o_;have j:m*113<=35184372088832:=o_;simp[iN,i,j]
 simp[go_sem,dP,d,e,f];refine c _ _ _ (.inr rfl) ⟨.msl 0 0 8 (a::l).length none,by simp[ag,cO,f229,go_sem],rfl⟩
theorem xE:∀l:Lb,io 8 l.length (bw l)=l.map bT
 |[]=>rfl
 |a::l=>by
  have:=xE l;have e:((enc a.1).cells++(enc a.2).cells).length=8:=by rw[List.length_append,HL,HL]
  have b:AV.agg ((enc a.1).cells++(enc a.2).cells)=bT a:=by rw[aq,aq];rfl
  rw[iR];generalize (enc a.1).cells++(enc a.2).cells=cc at e b;simp only[aL,io,aM];rw[bq o_,bJ o_,jC e,this];simp[b]
def Ht(h:H) (v:AV) (ps:Lb):Prop:=(∃x,v=.isl (ps.map bT) x/\∀t,x≠.tok t)\/∃id pre c,v=.msl id (8*pre.length) 8 ps.length c/\h[id]?=some (.cells (bw (pre++ps)) .live)
theorem gB(l m:Lb):bw (l++m)=bw l++bw m:=fm
theorem Rg{hf:H}{id:Nat}{pre ps:Lb}{c:Option Nat}(hid:hf[id]?=some (.cells (bw (pre++ps)) .frozen)) (hl:(pre++ps).length<=122000) (n:Nat) (hn:976002<=n):eW hf (n+1) (.msl id (8*pre.length) 8 ps.length c)=some (binds ps):=by
 have a:=dv (pre++ps);obtain⟨n,rfl⟩:∃m,n=m+1:=⟨n-1,o_⟩
 have b:=(ko (h:=hf) (sO (pre++ps)) n o_).1;have d:=dv pre;simp only[eW,hid,b];rw[if_pos ⟨by rw[a,List.length_append];omega,o_⟩,gB,jC d,xE];rfl
theorem yq{f:FuncId}{h:H}{args args':LA}{R:List Nat}(hb:dl C.P f=true) (hm:C.mode f=.ownM) (e2:cP h cM args=R) (e1:fJ (Go.V.freeze h R) cM args=some args')
  {id len sz:Nat}{h1:H}{cs:LA}(hsz:1<sz) (hc:Go.V.Call C f args' []=some (.msl id 0 sz len none,h1)) (hid:h1[id]?=some (.cells cs .live)) (hcs:nW cs=some cs) (hcl:cs.length<=990000) (hlen:len*sz<=cs.length) :
  aj C h (.func f []) (some args)=some (.msl h.length 0 sz len none,Go.V.freeze h R++[.cells cs .live]):=by
 simp only[aj,hb,if_true,br];unfold dJ;rw[hm];dsimp only;rw[e2];simp only[e1];rw[hc];dsimp only;unfold kS;dsimp only;have a:fJ (kJ h1 id) cM cs=some cs:=(ko (h:=kJ h1 id) hcs 999999 o_).1;have b:iw C.P .ownM h1 h (.msl id 0 sz len none)=none:=by simp only[iw,nY,hid];rw[if_neg o_]
 rw[b];simp only[iy,kP,hid,a];rw[if_pos ⟨o_,o_⟩,oO]
theorem AE{h:H}{v:AV}{ps:Lb}(r:Ht h v ps) (hl:∀id pre c,v=.msl id (8*pre.length) 8 ps.length c->h[id]?=some (.cells (bw (pre++ps)) .live)->(pre++ps).length<=122000):∃R,cP h cM [v]=R/\(∀j∈R,cG v=some j)/\fJ (Go.V.freeze h R) cM [v]=some [binds ps]:=by
 obtain⟨m,d⟩:∃m,cM=m+3:=⟨999997,rfl⟩
 have i:m=999997:=by unfold cM at d;omega
 rcases r with⟨x,rfl,_⟩|⟨id,pre,c,rfl,a⟩
 ·have q:=dM (h:=h) (l:=[.isl (ps.map bT) x]) (l':=[binds ps]) rfl rfl cM (by simp[cM]);exact⟨[],q.2,s_,q.1⟩
 have b:=hl id pre c rfl a;have k:=dv (pre++ps);have q:=ko (h:=h) (sO (pre++ps)) m o_;have e:cP h cM [.msl id (8*pre.length) 8 ps.length c]=[id]:=by rw[d];simp only[cP,ik,a,q.2];rfl
 refine⟨[id],e,by simp[cG],?_⟩;have f:(Go.V.freeze h [id])[id]?=some (.cells (bw (pre++ps)) .frozen):=by rw[mZ,a];simp
 have g:=Rg (c:=c) f b (m+1) o_;rw[d];simp only[fJ,g]
theorem E3{h:H}{R:List Nat}{x:Option Nat}(hR:∀j∈R,x=some j):Keep h (Go.V.freeze h R) x:=by
 refine⟨by rw[oO];omega,λj _ a=>?_⟩;rw[mZ];have:j∉R:=λb=>a (hR j b)
 split<;>simp_all
theorem N1{h:H}{v:AV}{a:T × T}{l:Lb}(r:Ht h v (a::l)) (hl1:(a::l).length<=122000) (hl:∀id pre c,v=.msl id (8*pre.length) 8 (a::l).length c->h[id]?=some (.cells (bw (pre++a::l)) .live)->(pre++a::l).length<=122000) :
  ∃h',aj C h (.func 229 []) (some [v])=some (.msl h.length 0 8 (a::l).length none,h'++[.cells (bw (a::l)) .live])/\h'.length=h.length/\Keep h h' (cG v):=by
 have⟨R,b,d,e⟩:=AE r hl;have f:=dv (a::l);exact⟨_,yq k_ rfl b e o_ (Nj a l hl1) rfl (sO _) o_ o_,oO _ _,E3 d⟩
theorem N0{h:H}{v:AV}(r:Ht h v []) (hl:∀id pre c,v=.msl id (8*pre.length) 8 ([]:Lb).length c->h[id]?=some (.cells (bw (pre++[])) .live)->(pre++[]).length<=122000) :
  aj C h (.func 229 []) (some [v])=some (.isl [] .full,h):=by
 have⟨R,b,g,d⟩:=AE r hl;have a:dl C.P 229=true:=k_;simp only[aj,a,if_true,br];unfold dJ;rw[show C.mode 229=.ownM from rfl];dsimp only;rw[b];simp only[d];have e:C.prim 229 [binds []] []=some (.isl [] .full,[]):=by simp[C,prim,lG,cloneIds,binds]
 have f:Go.V.Call C 229 [binds []] []=some (.isl [] .full,[]):=kK (C:=C) (fn:=f229) func229 e;rw[f];rfl
def RowS(h:H) (v:AV) (bs:Lb):Prop:=(bs=[]/\v=.isl [] .full)\/∃id,v=.msl id 0 8 bs.length none/\h[id]?=some (.cells (bw bs) .live)
def kf(x y:T) (ps:Lb):Lb:=ps.map λp=>(gl x y p.1,gl x y p.2)
def lO(x y:T) (s:Lb):Lb:=s.map λb=>(b.1,gl x y b.2)
def ru(x y:T) (ps:Lb):Bool:=ps.all λp=>decide (bA (gl x y p.1)=0)&&decide (bA (gl x y p.2)=0)
def wW(x y:T) (s:Lb):Bool:=s.all λb=>decide (bA (gl x y b.2)=0)
def Xz(x y:T) (h0:H) (s:Nat) (vp vb:AV) (ps bs:Lb) (r:AV) (h':H):Prop:=r=.int .i64 (if(ru x y ps&&wW x y bs)=true then 0 else 3)/\∃vp' vb',h'[s]?=some (.cells [vp',vb'] .live)/\RowS h' vp' (kf x y ps)/\RowS h' vb' (lO x y bs++[(x,y)])/\(∀i,cG vp'=some i->cG vb'≠some i) /\
 ∀j,j<h0.length->j≠s->cG vp≠some j->cG vb≠some j->h'[j]?=h0[j]?
theorem C8{h g:H}{i p j:Nat}{o a b:VObj}(e:h[j]?=some o) (h1:i≠j) (h2:p≠j):(((h++g).set i a).set p b)[j]?=some o:=by rw[aC h2,aC h1];exact ga e
theorem Qd{h:H}{v:AV}{ps:Lb}(r:Ht h v ps) (hl1:ps.length<=122000) (hl:∀id pre c,v=.msl id (8*pre.length) 8 ps.length c->h[id]?=some (.cells (bw (pre++ps)) .live)->(pre++ps).length<=122000) :
  ∃v' h',aj C h (.func 229 []) (some [v])=some (v',h')/\RowS h' v' ps/\(∀i,cG v'=some i->h.length<=i)/\Keep h h' (cG v):=by
 cases ps with
 |nil=>exact⟨_,_,N0 r hl,.inl ⟨rfl,rfl⟩,λi e=>by simp[cG]at e,.refl _ _⟩
 |cons a l=>have⟨h',b,d,f⟩:=N1 r hl1 hl;exact⟨_,_,b,.inr ⟨h.length,rfl,by rw[<-d];simp⟩,λi e=>by simp only[cG,aA]at e;omega,⟨by simp;omega,λj g k=>by rw[aH o_];exact f.2 j g k⟩⟩
def Xn(x y:T) (h0:H) (s q pb pr:Nat) (vp vb v10:AV) (ps _bs:Lb) (m:Nat) (st:PT) (h:H):Prop:=∃k:Nat,m=ps.length-k/\k<=ps.length/\st.get 0=.ptr s 0/\st.get 4=.ptr h0.length 0/\st.get 5=.ptr (h0.length+1) 0/\st.get 8=.ptr pr 0/\st.get 9=.func 227 [.ptr pb 0,.ptr pr 0]/\st.get 10=v10/\st.get 25=.int .i64 ps.length/\st.get 26=.int .i64 k /\
 h[s]?=some (.cells [vp,vb] .live)/\h[h0.length]?=some (.cells (enc x).cells .live)/\h[h0.length+1]?=some (.cells (enc y).cells .live)/\h[pb]?=some (.cells [.mp q] .live)/\uF h q x y/\h[pr]?=some (.cells [.bool (ru x y (ps.take k))] .live)/\RowS h v10 (kf x y (ps.take k)++ps.drop k) /\
 ∀j,j<h0.length->j≠s->cG vp≠some j->h[j]?=h0[j]?
theorem Wh(h:H) (b:T × T):bi C.P true h 81 (.isl [] .full) (.isl [bT b] .full)=some (.msl h.length 0 8 1 none,h++[.cells (bw [b]) .live]):=by
 have a:=mL [b];have c:jh h 8 (.isl [bT b] .full)=some (bw [b],1):=by have:=sT [b];simp only[aM,bM]at a this;simp only[jh,a,if_true,this];rfl
 simp only[bi,ey,dC,if_false,aT,de,u46,s86,b86,z86,c];simp[iN]
theorem Wg{h:H}{id:Nat}{l:Lb}(b:T × T) (hid:h[id]?=some (.cells (bw l) .live)) (hl:l.length<=10000):bi C.P true h 81 (.msl id 0 8 l.length none) (.isl [bT b] .full)=some (.msl h.length 0 8 (l.length+1) none,h.set id (.cells (bw l) .dead)++[.cells (bw (l++[b])) .live]):=by
 have a:=mL [b];have c:jh h 8 (.isl [bT b] .full)=some (bw [b],1):=by have:=sT [b];simp only[aM,bM]at a this;simp only[jh,a,if_true,this];rfl
 have d:=dv l;simp only[bi,ey,dC,if_false,aT,de,u46,s86,b86,z86,c,hid];rw[if_neg s_,if_neg s_,if_pos ⟨trivial,trivial,o_,o_⟩,bJ o_,gB]
def Xd(x y:T) (h0:H) (s q pb pr:Nat) (vp vb v10:AV) (ps bs:Lb) (m:Nat) (st:PT) (h:H):Prop:=∃k:Nat,m=bs.length-k/\k<=bs.length/\st.get 0=.ptr s 0/\st.get 4=.ptr h0.length 0/\st.get 5=.ptr (h0.length+1) 0/\st.get 8=.ptr pr 0/\st.get 9=.func 227 [.ptr pb 0,.ptr pr 0]/\st.get 10=v10/\st.get 46=.int .i64 bs.length/\st.get 47=.int .i64 k /\
 h[s]?=some (.cells [vp,vb] .live)/\h[h0.length]?=some (.cells (enc x).cells .live)/\h[h0.length+1]?=some (.cells (enc y).cells .live)/\h[pb]?=some (.cells [.mp q] .live)/\uF h q x y/\h[pr]?=some (.cells [.bool (ru x y ps&&wW x y (bs.take k))] .live)/\RowS h v10 (kf x y ps)/\RowS h vb (lO x y (bs.take k)++bs.drop k) /\
 ∀j,j<h0.length->j≠s->cG vp≠some j->cG vb≠some j->h[j]?=h0[j]?
theorem TE{id n k:Nat}(hk:k<n):aZ C.P 182 (.msl id 0 8 n none) (.int .i64 k)=some (.ptr id (8*k)):=by simp[aZ,rV,wN,hk,hJ]
theorem Pe(id n:Nat):fG C.P 182 (.msl id 0 8 n none)=some (.int .i64 n):=by simp[fG,rV]
theorem TD{id n k:Nat}(hk:k<n):aZ C.P 81 (.msl id 0 8 n none) (.int .i64 k)=some (.ptr id (8*k)):=by simp[aZ,u46,s86,hk,hJ]
theorem P9(i:Nat):bp C.P 217 (.ptr i 0) 0=some (.ptr i 0):=k_
theorem P8(i:Nat):bp C.P 217 (.ptr i 0) 1=some (.ptr i 1):=k_
attribute [go_sem] P9 P8 Ir Iq P7
theorem Mg{h:H}{s:Nat}{vp vb:AV}(hs:h[s]?=some (.cells [vp,vb] .live)):aJ C.P h 182 (.ptr s 0)=some vp:=by have a:gW C.P 182=some false:=k_;have z:cw C.P 182=some 1:=k_;simp[aJ,hs,aY,a,z]
theorem Sx{h:H}{s:Nat}{vp vb:AV}(hs:h[s]?=some (.cells [vp,vb] .live)):aJ C.P h 81 (.ptr s 1)=some vb:=by have a:gW C.P 81=some false:=k_;have z:cw C.P 81=some 1:=k_;simp[aJ,hs,aY,a,z]
theorem zv4:iV C.P 4=some (.bool false):=k_
theorem Sv(id n:Nat):fG C.P 81 (.msl id 0 8 n none)=some (.int .i64 n):=by simp[fG,u46]
theorem RC(x y:T) (h0:H) (s:Nat) (vp vb:AV) (ps bs:Lb) (hs:h0[s]?=some (.cells [vp,vb] .live)) (hp:Ht h0 vp ps) (hb:RowS h0 vb bs) (hne:∀i,cG vp=some i->cG vb≠some i) (hpl:ps.length<=122000) (hbl:bs.length<=4000)
  (hpp:∀id pre c,vp=.msl id (8*pre.length) 8 ps.length c->h0[id]?=some (.cells (bw (pre++ps)) .live)->(pre++ps).length<=122000) (hzp:∀p∈ps,p.1.size<=400/\p.2.size<=400) (hzb:∀b∈bs,b.2.size<=400) (hu:∀t:T,t.size<=400->(gl x y t).size<4000000) :
  ∃r h',Go.V.Call C 211 [.ptr s 0,enc x,enc y] h0=some (r,h')/\Xz x y h0 s vp vb ps bs r h':=by
 refine kA rfl func211 rfl k_ (by simp[f211]) λR hR=>?_
 simp[go_sem,nJ];obtain⟨h,eh⟩:∃h:H,h=h0++[.cells (enc x).cells .live,.cells (enc y).cells .live]:=⟨_,rfl⟩
 have m4:h[h0.length]?=some (.cells (enc x).cells .live):=by rw[eh];simp
 have m5:h[h0.length+1]?=some (.cells (enc y).cells .live):=by rw[eh];simp
 have pre:Pre h0 h:=⟨_,eh⟩
 have hl:h.length=h0.length+2:=by rw[eh];simp
 rw[<-eh];change W C 211 R _ _ _ h;refine ic 1 _ (λQ h'=>Q.get 0=.ptr s 0/\Q.get 4=.ptr h0.length 0/\Q.get 5=.ptr (h0.length+1) 0/\Q.get 7=.ptr (h.length+6) 0/\h'[h.length+6]?=some (.cells [.mp h.length] .live)/\uF h' h.length x y/\Keep h h' none) (by rw[gM];decide) k_ ?_ ?_
 ·generalize y':h++List.replicate _ VObj.void=H0;have pl:Pl h H0 8:=y'▸Pl.mk' h 8;have w8:=pl.len;clear y';have vd:∀ {g:H}{j:Nat}{o:VObj}{c:Nat},dE g[c]?=true->j≠c->dE (g.set j o)[c]?=true:=λhv hn=>dg hv hn
  refine Hu (pl.isV (i:=0) d_) ?_;obtain⟨w,S⟩:∃g,g=H0.set (h.length+0) (.map []):=⟨_,rfl⟩
  have y0:w.length=H0.length:=by rw[S];simp
  have q0:w[h.length]?=some (.map []):=by rw[S];exact aD o_
  have q4:w[h0.length]?=some (.cells (enc x).cells .live):=by rw[S,aC o_];exact pl.get m4
  have q5:w[h0.length+1]?=some (.cells (enc y).cells .live):=by rw[S,aC o_];exact pl.get m5
  have u:∀i,0<i->i<8->dE w[h.length+i]?=true:=λi U l=>by rw[S];exact dg (pl.isV l) o_
  rw[<-S];have p4:=eY q4;have p5:=eY q5;have x8:cP w cM [enc x]=[]:=(dM (h:=w) (fv x) (by simp[bF]) cM (by simp[cM])).2;refine cR (.ptr h0.length 0) (enc x) g_ p4 (dW o_) (u 1 d_ d_) (eN _ _ _) ?_;refine qc (args:=[.tmp 14]) [enc x] (po x) k_ rfl g_ x8 (I7 x _) (u 2 d_ d_) rfl ?_;refine cR (.ptr (h0.length+1) 0) (enc y) g_ p5 (dW o_) (u 3 d_ d_) (eN _ _ _) ?_;have x9:VObj.mv w.length (h.length+4) (.map [(po x,enc y)])=.map [(po x,enc y)]:=by simp[VObj.mv,eN]
  refine LK (h.length+0) (po x) (enc y) _ g_ g_ g_ (TB x y q0) o_ (u 4 d_ d_) ?_;rw[x9];obtain⟨K,L⟩:∃g,g=w.set (h.length+0) (.map [(po x,enc y)]):=⟨_,rfl⟩
  have y1:K.length=H0.length:=by rw[L];simp[y0]
  have r0:K[h.length]?=some (.map [(po x,enc y)]):=by rw[L];exact aD o_
  have u2:∀i,0<i->i<8->dE K[h.length+i]?=true:=λi U l=>by rw[L];exact dg (u i U l) o_
  have o2:∀j,j<h.length->K[j]?=h[j]?:=λj F=>by rw[L,aC o_,S,aC o_,pl.old j F]
  rw[<-L];refine bE (.mp h.length) rfl rfl (u2 5 d_ d_) (by simp[opN,go_sem]) (by simp[AV.mv];omega) ?_;refine je _ U0 (u2 6 d_ d_) ?_;rw[show VObj.mv K.length (h.length+6) (.cells (AV.nilmap).cells .live)=.cells [.nilmap] .live from rfl];obtain⟨H3,e3⟩:∃g,g=K.set (h.length+6) (.cells [.nilmap] .live):=⟨_,rfl⟩
  have v':H3.length=H0.length:=by rw[e3];simp[y1]
  have t6:H3[h.length+6]?=some (.cells [.nilmap] .live):=by rw[e3];exact aD o_
  rw[<-e3];refine iA (h.length+6) 0 (.mp h.length) _ g_ g_ (VG t6) o_ (by rw[e3];exact dg (u2 7 d_ d_) o_) ?_;have w':VObj.mv H3.length (h.length+7) (.cells [.mp h.length] .live)=.cells [.mp h.length] .live:=by have:¬h.length=H3.length:=o_;simp[VObj.mv,AV.mvs,AV.mv,this]
  rw[w'];refine⟨?_,?_⟩
  ·unfold sq;generalize hb:Region.before _=b;have y2:(b.getD 4 0).testBit 0=true:=by rw[<-hb];kernel_rfl
   have y3:(b.getD 7 0).testBit 6=true:=by rw[<-hb];kernel_rfl
   clear hb;have o0:¬h.length=h0.length:=o_;have o1:¬h.length=h0.length+1:=o_;have oa:∀k,¬h.length+k=h0.length:=λk=>o_
   have ob:∀k,¬h.length+k=h0.length+1:=λk=>o_
   have oc:∀k,¬h0.length=h.length+k:=λk=>o_
   have od:∀k,¬h0.length+1=h.length+k:=λk=>o_
   simp at y2 y3;simp[it,qm,List.range,List.range.loop,oa,ob,o0,o1];exact⟨y2,y3⟩
  refine⟨g_,g_,g_,g_,aD o_,?_,?_⟩
  ·unfold uF;rw[aC o_,e3,aC o_];exact r0
  exact⟨by simp;omega,λj F _=>by rw[aC o_,e3,aC o_];exact o2 j F⟩
 rintro Q h' ⟨g0,g4,g5,g7,m7,hq,kp⟩;have y4:h.length+6<h'.length:=(aB.1 m7).1;have t1:ah C.P (h'++[.cells [.bool false] .live]) 4 (.ptr h'.length 0) (.bool true)=some (h'++[.cells [.bool true] .live]):=by rw[VC true (by simp:(h'++[VObj.cells [.bool false] .live])[h'.length]?=some (.cells [.bool false] .live))];simp
 obtain⟨l,L⟩:∃l,l=h'++[VObj.cells [.bool true] .live]:=⟨_,rfl⟩
 rw[<-L]at t1;have k2:Keep h l none:=⟨by rw[L];simp;have:=kp.1;omega,λj F hn=>by rw[L,aH (by have:=kp.1;omega)];exact kp.2 j F hn⟩
 have n7:l[h.length+6]?=some (.cells [.mp h.length] .live):=by rw[L];exact ga m7
 have nq:uF l h.length x y:=by rw[L];exact ga hq
 have n8:l[h'.length]?=some (.cells [.bool true] .live):=by rw[L];simp
 have ns:l[s]?=some (.cells [vp,vb] .live):=k2.get (pre.get hs) s_;have l0:=Mg ns;have y5:h.length<=h.length+6:=o_;generalize h.length+6=pb at g7 n7 m7 y4 y5;have cb:(AV.bool false).cells=[.bool false]:=rfl;have w0:Ht l vp ps:=by
  rcases hp with⟨e,rfl,X⟩|⟨id,y6,c,rfl,a⟩
  ·exact .inl ⟨e,rfl,X⟩
  exact .inr ⟨id,y6,c,rfl,k2.get (pre.get a) s_⟩
 have y7:∀id pre c,vp=.msl id (8*pre.length) 8 ps.length c->l[id]?=some (.cells (bw (pre++ps)) .live)->(pre++ps).length<=122000:=λid y6 c S e3=>by
  rcases hp with⟨e,rfl,_⟩|⟨y8,y9,c',rfl,a⟩
  ·cases S
  simp only[AV.msl.injEq]at S;obtain⟨rfl,e4,_⟩:=S;have:=hpp y8 y9 c' rfl a;simp only[List.length_append]at this ⊢;omega
 have⟨d,h3,c1,x',z1,k3⟩:=Qd w0 o_ y7;have x0:fG C.P 182 d=some (.int .i64 ps.length):=by
  rcases x' with⟨rfl,rfl⟩|⟨id,rfl,_⟩
  ·simp[fG,rV]
  exact Pe id ps.length
 have w1:∀i,cG vp=some i->i<h0.length/\i≠s:=λi B=>by
  rcases hp with⟨e,rfl,X⟩|⟨y8,y9,c',rfl,a⟩
  ·cases e with
   |tok t=>exact absurd rfl (X t)
   |full=>simp[cG]at B
   |unk=>simp[cG]at B
  simp only[cG,aA]at B;subst B;refine⟨(aB.1 a).1,λe=>?_⟩;subst e;rw[hs]at a;simp only[aA,VObj.cells.injEq]at a;have:=congrArg List.length a.1;rw[dv]at this;simp at this;omega
 have kn:∀j,h0.length<=j\/j=s->cG vp≠some j:=λj F e=>by have:=w1 j e;omega
 have v0:s<h0.length:=(aB.1 hs).1;have y1:h.length<=l.length:=k2.1;have x1:h.length<=h'.length:=kp.1;have u4:l[h0.length]?=some (.cells (enc x).cells .live):=k2.get m4 s_;have u5:l[h0.length+1]?=some (.cells (enc y).cells .live):=k2.get m5 s_;simp[go_sem,g0,g7,zv4,cb,t1,l0,c1,x0];refine bX (Xn x y h0 s h.length pb h'.length vp vb d ps bs) ps.length ⟨0,rfl,aO _,g_,g_,g_,g_,g_,g_,g_,g_,k3.get ns (kn _ (.inr rfl)),k3.get u4 (kn _ (.inl (aP _))),k3.get u5 (kn _ (.inl o_)),k3.get n7 (kn _ (.inl o_)),k3.get nq (kn _ (.inl o_)),k3.get n8 (kn _ (.inl o_)),by simpa[kf]using x',λj F G hv=>?_⟩ ?_
 ·rw[k3.2 j o_ hv,k2.2 j o_ s_];have⟨g,eg⟩:=pre;rw[eg,aH F]
 have q7:∀i,cG d=some i->l.length<=i:=z1;have x2:h'.length<l.length:=by rw[L];simp
 have v1:h0.length<=h.length:=o_;generalize h'.length=pr at x2 x1 y4;generalize v2:h.length=q at *;clear l0 t1 cb;rintro m st E ⟨k,rfl,hk,g0,g4,g5,g8,g9,M,z2,z3,ms,mx,my,mb,mq,Y,f,old⟩;by_cases v:k<ps.length
 ·have Z:(k:Int)<ps.length:=o_;have w2:=wS k o_;have I:(kf x y (ps.take k)++ps.drop k).length=ps.length:=by simp[kf];omega
  rcases f with⟨e,_⟩|⟨id,ev,a⟩
  ·rw[e]at I;simp at I;omega
  have ig:=q7 id (by rw[ev];rfl);have J:bw (kf x y (ps.take k)++ps.drop k)=bw (kf x y (ps.take k))++(enc ps[k].1).cells++((enc ps[k].2).cells++bw (ps.drop (k+1))):=by rw[aI v,gB,iR];simp only[List.append_assoc]
  rw[I]at ev;rw[J]at a;have q8:(bw (kf x y (ps.take k))).length=8*k:=by rw[dv];simp[kf];omega
  have hz:=hzp _ (aG v);have⟨f1,q1⟩:=yK x y ps[k].1 (ru x y (ps.take k)) E q pb pr id _ _ mb Y a mq o_ (hu _ hz.1) o_ o_;rw[q8]at q1;obtain⟨w,D⟩:∃w,w=((E++f1).set id (.cells (bw (kf x y (ps.take k))++(enc (gl x y ps[k].1)).cells++((enc ps[k].2).cells++bw (ps.drop (k+1)))) .live)).set pr (.cells [.bool (ru x y (ps.take k)&&decide (bA (gl x y ps[k].1)=0))] .live):=⟨_,rfl⟩
  rw[<-D]at q1;have z0:id<(E++f1).length:=(aB.1 (show(E++f1)[id]?=_ from ga a)).1;have z4:pr<(E++f1).length:=(aB.1 (show(E++f1)[pr]?=_ from ga Y)).1;have n1:w[id]?=some (.cells ((bw (kf x y (ps.take k))++(enc (gl x y ps[k].1)).cells)++(enc ps[k].2).cells++bw (ps.drop (k+1))) .live):=by rw[D,aC o_,aD z0];simp only[List.append_assoc]
  have n2:w[pr]?=some (.cells [.bool (ru x y (ps.take k)&&decide (bA (gl x y ps[k].1)=0))] .live):=by rw[D];exact aD (by simpa using z4)
  have kk:∀ {j:Nat}{o:VObj},E[j]?=some o->j<l.length->j≠pr->w[j]?=some o:=fun {j o} e U l=>by rw[D];exact C8 e o_ (λq=>l q.symm)
  have⟨f2,q2⟩:=yK x y ps[k].2 _ w q pb pr id _ _ (kk mb o_ o_) n2 n1 (kk mq o_ o_) o_ (hu _ hz.2) o_ o_;rw[List.length_append,q8,HL]at q2;obtain⟨K,q'⟩:∃K,K=((w++f2).set id (.cells ((bw (kf x y (ps.take k))++(enc (gl x y ps[k].1)).cells)++(enc (gl x y ps[k].2)).cells++bw (ps.drop (k+1))) .live)).set pr (.cells [.bool (ru x y (ps.take k)&&decide (bA (gl x y ps[k].1)=0)&&decide (bA (gl x y ps[k].2)=0))] .live):=⟨_,rfl⟩
  rw[<-q']at q2;have z5:aj C E (.func 227 [.ptr pb 0,.ptr pr 0]) (some [.ptr id (8*k)])=some (.tuple [],w):=by rw[vz k_ rfl];exact q1
  have w3:aj C w (.func 227 [.ptr pb 0,.ptr pr 0]) (some [.ptr id (8*k+4)])=some (.tuple [],K):=by rw[vz k_ rfl];exact q2
  have z6:=TE (id:=id) v;rw[ev]at M;have v3:l.length<=E.length:=by have:=(aB.1 a).1;omega
  have q3:∀ {j:Nat}{o:VObj},E[j]?=some o->j<l.length->j≠pr->K[j]?=some o:=fun {j o} e U l=>by rw[q'];exact C8 (kk e U l) o_ (λq=>l q.symm)
  simp[go_sem,g9,M,z2,z3,Z,z6,z5,w3,-Int.natCast_add,w2];have z7:ru x y (ps.take (k+1))=(ru x y (ps.take k)&&decide (bA (gl x y ps[k].1)=0)&&decide (bA (gl x y ps[k].2)=0)):=by rw[<-aW v,ru,eM,ru];simp[fZ]
  have q6:kf x y (ps.take (k+1))=kf x y (ps.take k)++[(gl x y ps[k].1,gl x y ps[k].2)]:=by rw[<-aW v,kf,kf,List.map_append];rfl
  have y0:E.length<=w.length:=by rw[D];simp
  have w4:=(aB.1 a).1;have z8:=(aB.1 Y).1;have s1:K[id]?=some (.cells (bw (kf x y (ps.take (k+1))++ps.drop (k+1))) .live):=by rw[q',aC o_,aD (by simp;omega),q6,gB,gB,iR];simp only[List.append_assoc,bw,lN,cN]
  have s2:K[pr]?=some (.cells [.bool (ru x y (ps.take (k+1)))] .live):=by rw[q',z7];exact aD (by simp;omega)
  refine⟨ps.length-(k+1),o_,k+1,rfl,v,g_,g_,g_,g_,g_,by simp[go_sem,M,ev],g_,g_,q3 ms o_ o_,q3 mx o_ o_,q3 my o_ o_,q3 mb o_ o_,q3 mq o_ o_,s2,.inr ⟨id,?_,s1⟩,λj F G hv=>?_⟩
  ·rw[ev,show(kf x y (ps.take (k+1))++ps.drop (k+1)).length=ps.length by simp[kf];omega]
  rw[<-old j F G hv,q',aC o_,aC o_,aH o_,D,aC o_,aC o_,aH o_]
 have w5:k=ps.length:=o_;subst w5;rw[ak,bH,br]at f;rw[ak]at Y;have N:∀i,cG vb=some i->i<h0.length/\i≠s:=λi B=>by
  rcases hb with⟨e,rfl⟩|⟨id,rfl,a⟩
  ·simp[cG]at B
  simp only[cG,aA]at B;subst B;refine⟨(aB.1 a).1,λe=>?_⟩;subst e;rw[hs]at a;simp only[aA,VObj.cells.injEq]at a;have:=congrArg List.length a.1;rw[dv]at this;simp at this;omega
 have rb:RowS E vb bs:=by
  rcases hb with⟨e,rfl⟩|⟨id,rfl,a⟩
  ·exact .inl ⟨e,rfl⟩
  have:=N id rfl;exact .inr ⟨id,rfl,by rw[old id this.1 this.2 (λe=>hne id e rfl)];exact a⟩
 have lb:=Sx ms;have x3:fG C.P 81 vb=some (.int .i64 bs.length):=by
  rcases rb with⟨rfl,rfl⟩|⟨id,rfl,_⟩
  ·simp[fG,u46]
  exact Sv id bs.length
 simp[go_sem,g0,z2,z3,lb,x3];refine bX (Xd x y h0 s q pb pr vp vb d ps bs) bs.length ⟨0,rfl,aO _,g_,g_,g_,g_,g_,g_,g_,g_,ms,mx,my,mb,mq,by simpa[wW]using Y,f,by simpa[lO]using rb,λj U l h3 _=>old j U l h3⟩ ?_;clear rb lb Y f old ms mx my mb mq g0 g4 g5 g8 g9 M z2 z3 v hk;rintro m st E ⟨k,rfl,hk,g0,g4,g5,g8,g9,M,x4,x5,ms,mx,my,mb,mq,Y,f,q9,old⟩;have lb:=Sx ms;by_cases v:k<bs.length
 ·have Z:(k:Int)<bs.length:=o_;have w2:=wS k o_;have I:(lO x y (bs.take k)++bs.drop k).length=bs.length:=by simp[lO];omega
  rcases q9 with⟨e,_⟩|⟨id,ev,a⟩
  ·rw[e]at I;simp at I;omega
  have ib:=N id (by rw[ev];rfl);have w9:cG d≠some id:=λe=>by have:=q7 id e;omega
  have J:bw (lO x y (bs.take k)++bs.drop k)=(bw (lO x y (bs.take k))++(enc bs[k].1).cells)++(enc bs[k].2).cells++bw (bs.drop (k+1)):=by rw[aI v,gB,iR];simp only[List.append_assoc]
  rw[I]at ev;rw[J]at a;have q8:(bw (lO x y (bs.take k))++(enc bs[k].1).cells).length=8*k+4:=by rw[List.length_append,HL,dv];simp[lO];omega
  have hz:=hzb _ (aG v);have⟨f1,q1⟩:=yK x y bs[k].2 (ru x y ps&&wW x y (bs.take k)) E q pb pr id _ _ mb Y a mq o_ (hu _ hz) o_ o_;rw[q8]at q1;obtain⟨w,D⟩:∃w,w=((E++f1).set id (.cells ((bw (lO x y (bs.take k))++(enc bs[k].1).cells)++(enc (gl x y bs[k].2)).cells++bw (bs.drop (k+1))) .live)).set pr (.cells [.bool (ru x y ps&&wW x y (bs.take k)&&decide (bA (gl x y bs[k].2)=0))] .live):=⟨_,rfl⟩
  rw[<-D]at q1;have w4:=(aB.1 a).1;have z8:=(aB.1 Y).1;have kk:∀ {j:Nat}{o:VObj},E[j]?=some o->j≠id->j≠pr->w[j]?=some o:=fun {j o} e U l=>by rw[D];exact C8 e (λq=>U q.symm) (λq=>l q.symm)
  have z5:aj C E (.func 227 [.ptr pb 0,.ptr pr 0]) (some [.ptr id (8*k+4)])=some (.tuple [],w):=by rw[vz k_ rfl];exact q1
  have z6:=TD (id:=id) v;have z7:wW x y (bs.take (k+1))=(wW x y (bs.take k)&&decide (bA (gl x y bs[k].2)=0)):=by rw[<-aW v,wW,eM,wW];simp
  have q6:lO x y (bs.take (k+1))=lO x y (bs.take k)++[(bs[k].1,gl x y bs[k].2)]:=by rw[<-aW v,lO,lO,List.map_append];rfl
  have s1:w[id]?=some (.cells (bw (lO x y (bs.take (k+1))++bs.drop (k+1))) .live):=by rw[D,aC o_,aD (by simp;omega),q6,gB,gB,iR];simp only[List.append_assoc,bw,lN,cN]
  have s2:w[pr]?=some (.cells [.bool (ru x y ps&&wW x y (bs.take (k+1)))] .live):=by rw[D,z7,<-fZ];exact aD (by simp;omega)
  have s3:RowS w d (kf x y ps):=by
   rcases f with e|⟨i,e,B⟩
   ·exact .inl e
   have:=q7 i (by rw[e];rfl);exact .inr ⟨i,e,kk B o_ o_⟩
  have x6:vb=.msl id 0 8 bs.length none:=ev;rw[x6]at lb;simp[go_sem,g0,g9,x4,x5,Z,lb,z6,z5,-Int.natCast_add,w2];refine⟨bs.length-(k+1),o_,k+1,rfl,v,g_,g_,g_,g_,g_,g_,g_,g_,kk ms o_ o_,kk mx o_ o_,kk my o_ o_,kk mb o_ o_,kk mq o_ o_,s2,s3,.inr ⟨id,?_,s1⟩,λj F G hv hw=>?_⟩
  ·rw[ev,show(lO x y (bs.take (k+1))++bs.drop (k+1)).length=bs.length by simp[lO];omega]
  have v4:j≠id:=λe=>hw (by rw[x6,e];rfl)
  rw[<-old j F G hv hw,D,aC o_,aC o_,aH o_]
 have w6:k=bs.length:=o_;subst w6;rw[ak,bH,br]at q9;rw[ak]at Y;have lx:=eY mx;have ly:=eY my;have bl:=tz x y;have x3:∀n:Nat,n=bs.length->True:=λ_ _=>trivial
 obtain⟨A,O,ha,r5,k5,nb⟩:∃A O,bi C.P true E 81 vb (.isl [bT (x,y)] .full)=some (A,O)/\RowS O A (lO x y bs++[(x,y)])/\Keep E O (cG vb)/\∀i,cG A=some i->E.length<=i:=by
  have v5:(lO x y bs).length=bs.length:=by simp[lO]
  rcases q9 with⟨e,ev⟩|⟨id,ev,a⟩
  ·rw[ev];exact⟨_,_,Wh E (x,y),.inr ⟨E.length,by rw[e];rfl,by rw[e];simp⟩,Keep.append _ _ _,λi B=>by simp only[cG,aA]at B;omega⟩
  rw[ev];have z0:=(aB.1 a).1;exact⟨_,_,Wg (x,y) a o_,.inr ⟨E.length,s_,by rw[ap s_];simp⟩,⟨s_,λj F hn=>by
   have:id≠j:=λe=>hn (by rw[e];rfl)
   rw[aH (by simpa using F),aC this]⟩,λi B=>by simp only[cG,aA]at B;omega⟩
 simp[go_sem,x4,x5];refine eQ 16 _ (by simp[gM]) rfl ?_;have z9:=k5.get ms (λe=>(N s e).2 rfl);have x7:=(aB.1 z9).1;have v6:au d=true:=by rcases f with⟨_,rfl⟩|⟨_,rfl,_⟩<;>rfl
 have v7:au A=true:=by rcases r5 with⟨_,rfl⟩|⟨_,rfl,_⟩<;>rfl
 have t1:ah C.P O 182 (.ptr s 0) d=some (O.set s (.cells [d,vb] .live)):=by have z:cw C.P 182=some 1:=k_;rcases f with⟨_,rfl⟩|⟨_,rfl,_⟩<;>simp[ah,z9,z]
 have t2:ah C.P (O.set s (.cells [d,vb] .live)) 81 (.ptr s 1) A=some (O.set s (.cells [d,A] .live)):=by have z:cw C.P 81=some 1:=k_;rcases r5 with⟨_,rfl⟩|⟨_,rfl,_⟩<;>simp[ah,aD x7,z]
 have m6:(O.set s (.cells [d,A] .live))[pr]?=some (.cells [.bool (ru x y ps&&wW x y bs)] .live):=by rw[aC o_];exact k5.get Y (λe=>by have:=(N pr e).1;omega)
 have l6:=Vf m6;simp[go_sem,g0,g4,g5,g8,M,lb,lx,ly,bl,fN,nr,ha,t1,t2];refine⟨?_,?_⟩
 ·rcases q9 with⟨_,rfl⟩|⟨id,rfl,_⟩
  ·simp[go_sem,g4,g5,ff,fL,fP,iC,dy,cF]
  have:=N id rfl;simp[go_sem,g4,g5,ff,fL,fP,iC,dy,cF]
  (try omega)
 have fin:∃vp' vb'',(O.set s (.cells [d,A] .live))[s]?=some (.cells [vp',vb''] .live)/\RowS (O.set s (.cells [d,A] .live)) vp' (kf x y ps)/\RowS (O.set s (.cells [d,A] .live)) vb'' (lO x y bs++[(x,y)])/\(∀i,cG vp'=some i->cG vb''≠some i) /\
   ∀j,j<h0.length->j≠s->cG vp≠some j->cG vb≠some j->(O.set s (.cells [d,A] .live))[j]?=h0[j]?:=by
  refine⟨d,A,aD x7,?_,?_,?_,λj F G hv hw=>?_⟩
  ·rcases f with e|⟨i,e,B⟩
   ·exact .inl e
   have U:=q7 i (by rw[e];rfl);exact .inr ⟨i,e,by rw[aC o_];exact k5.get B (λq=>by have:=(N i q).1;omega)⟩
  ·rcases r5 with e|⟨i,e,B⟩
   ·exact .inl e
   refine .inr ⟨i,e,?_⟩;rw[aC ?_]
   ·exact B
   rintro rfl;rw[z9]at B;simp only[aA,VObj.cells.injEq]at B;have:=congrArg List.length B.1;rw[dv]at this;simp at this;omega
  ·intro i B hn;have U:=nb i hn;rcases f with⟨_,e⟩|⟨i2,e,z8⟩
   ·rw[e]at B;simp[cG]at B
   rw[e]at B;simp only[cG,aA]at B;have:=(aB.1 z8).1;omega
  have w7:j<E.length:=by have:=(aB.1 mx).1;omega
  rw[aC (λe=>G e.symm),k5.2 j w7 hw];exact old j F G hv hw
 cases z':(ru x y ps&&wW x y bs)
 ·rw[z']at l6;simp[go_sem,l6];exact hR _ _ _ (.inr rfl) ⟨.int .i64 3,by simp[ag,cO,f211,go_sem],by rw[z'];rfl,fin⟩
 rw[z']at l6;simp[go_sem,l6];exact hR _ _ _ (.inr rfl) ⟨.int .i64 0,by simp[ag,cO,f211,go_sem],by rw[z'];rfl,fin⟩
end Go.VZ
