/- A part of the proof. -/
import Derived.Test.YtclakfnjdnibeaaGreatDoorV4
namespace Go.V
open Go
section
variable {P:Program}{A:Nat->Nat->Prop}{σ:List (Option Nat)}{h:H}{w:World}
def tx(P:Program) (A:Nat->Nat->Prop) (σ:List (Option Nat)) (h:H) (w:World):Option AV->Option Value->Prop
 |none,none=>True
 |some a,some v=>Rel P A σ h w a v
 |_,_=>False
theorem kg{limit y m:Nat}{x:AV}{u:Value}{code:BoundsCode}(hh:qy limit x=some m) (r:Rel P A σ h w x u) (hy:limit<=y) :
  (Instr.sliceBound u y code).run P w=.ok m w/\m<=limit:=by
 unfold qy at hh;split at hh<;>try(cases hh;done)
 split at hh<;>try(cases hh;done)
 rename_i k n a;simp only[aA]at hh;subst hh;rw[nW r];exact⟨run_sliceBound w k n y code a.1 o_,o_⟩
theorem rK{isS:Bool}{len cap hh l:Nat}{lo hi:Option AV}{lv hv:Option Value}(h1:mb len len hi=some hh) (h2:mb hh 0 lo=some l)
  (r1:tx P A σ h w lo lv) (r2:tx P A σ h w hi hv) (hc:len<=cap) :
  (Instr.sliceBounds isS len cap lv hv none).run P w=.ok (l,hh,cap) w/\l<=hh/\hh<=len:=by
 have a:(∀c:BoundsCode,(match hv with|some v=>Instr.sliceBound v cap c|none=>pure len:Sem Nat).run P w=.ok hh w)/\hh<=len:=by
  cases hi<;>cases hv<;>simp only[tx]at r2
  ·simp only[mb,aA]at h1;subst h1;exact⟨λ_=>rfl,aR _⟩
  simp only[mb]at h1;exact⟨λc=>(kg h1 r2 hc).1,(kg (code:=.sliceB) h1 r2 hc).2⟩
 have b:(∀c:BoundsCode,(match lv with|some v=>Instr.sliceBound v hh c|none=>pure 0:Sem Nat).run P w=.ok l w)/\l<=hh:=by
  cases lo<;>cases lv<;>simp only[tx]at r1
  ·simp only[mb,aA]at h2;subst h2;exact⟨λ_=>rfl,aN _⟩
  simp only[mb]at h2;exact⟨λc=>(kg h2 r1 (aR _)).1,(kg (code:=.sliceB) h2 r1 (aR _)).2⟩
 refine⟨?_,b.2,a.2⟩;cases hv<;>cases lv<;>simp_all [Instr.sliceBounds]
theorem pu{isS:Bool}{len cap m hh l:Nat}{lo:Option AV}{ha ma:AV}{lv:Option Value}{hv mv:Value}(h0:qy len ma=some m) (h1:qy m ha=some hh) (h2:mb hh 0 lo=some l)
  (r1:tx P A σ h w lo lv) (r2:Rel P A σ h w ha hv) (r3:Rel P A σ h w ma mv) (hc:len<=cap) :
  (Instr.sliceBounds isS len cap lv (some hv) (some mv)).run P w=.ok (l,hh,m) w/\l<=hh/\hh<=m/\m<=len:=by
 have a:=λc=>kg (code:=c) h0 r3 hc
 have b:=λc=>kg (code:=c) h1 r2 (aR _)
 have d:(∀c:BoundsCode,(match lv with|some v=>Instr.sliceBound v hh c|none=>pure 0:Sem Nat).run P w=.ok l w)/\l<=hh:=by
  cases lo<;>cases lv<;>simp only[tx]at r1
  ·simp only[mb,aA]at h2;subst h2;exact⟨λ_=>rfl,aN _⟩
  simp only[mb]at h2;exact⟨λc=>(kg h2 r1 (aR _)).1,(kg (code:=.sliceB) h2 r1 (aR _)).2⟩
 refine⟨?_,d.2,(b .sliceB).2,(a .sliceB).2⟩;cases lv<;>simp_all [Instr.sliceBounds]
theorem oV{t elem:TypeId}{a:Option Addr}{len cap l hh m sz:Nat}{lv hv mv:Option Value}(hu:P.underlying t=some (.slice elem)) (hs:cr P elem=some sz)
  (hb:(Instr.sliceBounds true len cap lv hv mv).run P w=.ok (l,hh,m) w) :
  (Instr.sliceAt t (.slice a len cap) lv hv mv).run P w=.ok (.slice (if m=l then a else a.map (·.add (l*sz))) (hh-l) (m-l)) w:=by
 simp only[Instr.sliceAt,Sem.run_bind,bd hu,Result.andThen_ok,Instr.slice,hb,fQ hs,Sem.run_pure]
theorem Es{es:LA}{v:Value}{l hh m sz:Nat}(r:IRel A w (.isl es .unk) v) (hl:l<=hh) (hh':hh<=es.length) (hz:gn sz es=true) :
  ∃a len cap,v=.slice a len cap/\len=es.length/\len<=cap/\cap<=maxLen/\(hh<=m->m<=cap->IRel A w (.isl ((es.take hh).drop l) .unk) (.slice (if m=l then a else a.map (·.add (l*sz))) (hh-l) (m-l))):=by
 rcases nw r with⟨rfl,h,cap,rfl,z,B⟩|⟨s,b,o,cap,f,rfl,D,E,F,x,G,I,J⟩
 ·refine⟨h,0,cap,rfl,rfl,aN _,z,λK L=>?_⟩;have:l=0:=by simp at hh';omega
  have:hh=0:=by simpa using hh'
  subst_vars
  simp only[List.take_nil,List.drop_nil,Nat.sub_zero];cases h with
  |none=>have:=B rfl;have:m=0:=o_;subst this;exact .islNil
  |some a=>
   split
   ·exact .islEmpty a m o_
   exact .islEmpty _ m o_
 refine⟨_,_,_,rfl,rfl,E,F,λK L=>?_⟩;have p:((es.take hh).drop l).length=hh-l:=by simp;omega
 have k:∀i:Nat,((es.take hh).drop l)[i]?=if i<hh-l then es[l+i]? else none:=λi=>by
  rw[cE,cS];by_cases y:i<hh-l
  ·rw[if_pos y,if_pos o_]
  rw[if_neg y,if_neg o_]
 have n:∀e∈(es.take hh).drop l,e∈es:=λe d=>bW (dE d)
 have t:es≠[]->s=sz:=λg=>by
  cases es with
  |nil=>exact absurd rfl g
  |cons e es=>simp only[gn,beq_iff_eq]at hz;rw[<-hz];exact(x e s_).1.symm
 by_cases q:m=l
 ·have d:(es.take hh).drop l=[]:=bt o_;rw[if_pos q,d];have:=IRel.isl (A:=A) (w:=w) (es:=[]) (sz:=1) (b:=b) (o:=o) (cap:=m-l) (λ_ _=>undef) o_ s_ o_ s_ s_ s_ s_;simpa[show hh-l=0 by omega]using this
 rw[if_neg q];simp only[bq,fV];by_cases g:es=[]
 ·subst g;have:hh-l=0:=by simp at hh';omega
  rw[this];have:=IRel.isl (A:=A) (w:=w) (es:=[]) (sz:=1) (b:=b) (o:=o+l*sz) (cap:=m-l) (λ_ _=>undef) o_ s_ o_ s_ s_ s_ s_;simpa using this
 have M:=t g;subst M;rw[<-p];refine IRel.isl (λi j=>f (l+i) j) D o_ o_ (λe d=>x e (n e d)) (λe d=>G e (n e d)) (λi j e c d u=>?_) (λi j e c d u=>?_)
 ·rw[k]at d;split at d<;>try(cases d;done)
  have:=I (l+i) j e c d u;rw[fD,<-fe]at this;exact this
 rw[k]at d;split at d<;>try(cases d;done)
 exact J (l+i) j e c d u
theorem qj{es:LA}{v:Value}(r:Rel P A σ h w (.isl es .full) v):∃base n,v=.slice base n n/\IRel A w (.isl es .unk) v:=by
 cases r with
 |data r=>cases r
 |full a=>exact⟨_,_,rfl,a⟩
theorem BD{t:TypeId}{s:ByteArray}{l hh m:Nat}{lv hv:Option Value}(hu:P.underlying t=some .string)
  (hb:(Instr.sliceBounds false s.size s.size lv hv none).run P w=.ok (l,hh,m) w) :
  (Instr.sliceAt t (.string s) lv hv none).run P w=.ok (.string (s.extract l hh)) w:=by
 simp only[Instr.sliceAt,Sem.run_bind,bd hu,Result.andThen_ok,Instr.slice,lw,aw,if_false,Sem.run_pure,hb]
theorem Cm{t:TypeId}{x r:AV}{lo hi mx:Option AV}{u:Value}{lv hv mv:Option Value}(hh:fP P t x lo hi mx=some r) (ra:Rel P A σ h w x u)
  (r1:tx P A σ h w lo lv) (r2:tx P A σ h w hi hv) (r3:tx P A σ h w mx mv) :
  ∃z,(Instr.sliceAt t u lv hv mv).run P w=.ok z w/\Rel P A σ h w r z:=by
 unfold fP at hh;split at hh<;>try(cases hh;done)
 ·
  rename_i q J e B;cases mv<;>simp only[tx]at r3;split at hh<;>try(cases hh;done)
  rename_i f k j o;split at hh<;>try(cases hh;done)
  rename_i l p;split at hh<;>try(cases hh;done)
  rename_i S;simp only[Bool.not_eq_true,Bool.not_eq_false']at S;have G:gn f J=true:=by simpa using S
  have N:l<=k/\k<=J.length:=(rK (isS:=true) (cap:=J.length) o p r1 r2 (aR _)).2;obtain⟨a,len,cap,rfl,rfl,v,F,y⟩:=Es (l:=l) (hh:=k) (m:=(match u with | .slice _ _ c=>c|_=>0)) (mT ra) N.1 N.2 G;have d:=rK (isS:=true) (cap:=cap) o p r1 r2 v;refine⟨_,oV B j d.1,?_⟩;split at hh
  ·rename_i i;obtain⟨rfl,rfl⟩:=i;simp only[aA]at hh;subst hh;have D:(if cap=0 then a else a.map (·.add (0*f)))=a:=by
    split
    ·rfl
    cases a<;>simp[Addr.add]
   rw[D];simpa using ra
  simp only[aA]at hh;subst hh;have g:=y (by dsimp;omega) (by dsimp;omega);dsimp at g;split
  ·rename_i i;obtain⟨rfl,rfl⟩:=i;have⟨Z,n,D,_⟩:=qj ra;cases D;exact .full g
  exact .data g
 ·rename_i q J e m B;cases mv<;>simp only[tx]at r3;split at hh<;>try(cases hh;done)
  rename_i f O j Q;split at hh<;>try(cases hh;done)
  rename_i ha;cases hv<;>simp only[tx]at r2;split at hh<;>try(cases hh;done)
  rename_i k o;split at hh<;>try(cases hh;done)
  rename_i l p;split at hh<;>try(cases hh;done)
  rename_i S;have G:gn f J=true:=by simpa using S
  simp only[aA]at hh;subst hh;have N:=(pu (isS:=true) (cap:=J.length) Q o p r1 r2 r3 (aR _)).2;obtain⟨a,len,cap,rfl,rfl,v,F,y⟩:=Es (l:=l) (hh:=k) (m:=O) (mT ra) N.1 o_ G;have d:=pu (isS:=true) (cap:=cap) Q o p r1 r2 r3 v;refine⟨_,oV B j d.1,?_⟩;have g:=y o_ o_;split
  ·rename_i i;subst i;exact .full g
  exact .data g
 ·rename_i q id s f len cap B;cases mv<;>simp only[tx]at r3;split at hh<;>try(cases hh;done)
  rename_i j;split at hh<;>try(cases hh;done)
  rename_i k o;split at hh<;>try(cases hh;done)
  rename_i l p;obtain⟨b,c,rfl,v,F,y,U,g5,g6,I,K,L,M,g8⟩:=kL ra;have d:=rK (isS:=true) (cap:=c) o p r1 r2 U;have q':l<=k:=by have:=d.2;omega
  have q0:k<=len:=by have:=d.2;omega
  have V:l*f+(c-l)*f=c*f:=by rw[<-fD];congr 1;omega
  have X:s+l*f+(c-l)*f<=I.size:=o_;refine⟨_,oV B j d.1,?_⟩;split at hh
  ·rename_i c';have:=g6 _ rfl;subst this;simp only[aA]at hh;subst hh;by_cases i:c=l
   ·rw[if_pos i,if_pos i];exact .msl v F y o_ o_ (λn E=>by simpa using E) ⟨I,K,L,M,o_⟩
   rw[if_neg i,if_neg i];simp only[bq,fV];exact .msl v F y o_ o_ (λn E=>by simpa using E) ⟨I,K,L,M,o_⟩
  split at hh
  ·rename_i Y;subst Y;simp only[aA]at hh;subst hh;have D:(if c=0 then some (⟨b,s,none⟩:Addr)else(some (⟨b,s,none⟩:Addr)).map (·.add (0*f)))=some ⟨b,s,none⟩:=by
    split
    ·rfl
    simp[Addr.add]
   rw[D];exact .msl v F y o_ o_ (λn E=>by cases E) ⟨I,K,L,M,by simpa using X⟩
  split at hh
  ·rename_i q1;simp only[aA]at hh;subst hh;rw[if_neg (show ¬c=l by omega)];simp only[bq,fV];exact .msl v F y o_ o_ (λn E=>by cases E) ⟨I,K,L,M,o_⟩
  simp only[aA]at hh;subst hh;have D:k-l=0:=o_;rw[D];refine .data ?_;by_cases i:c=l
  ·rw[if_pos i];exact .islEmpty _ _ o_
  rw[if_neg i];exact .islEmpty _ _ o_
 ·rename_i q id s f len cap m B;cases mv<;>simp only[tx]at r3;split at hh<;>try(cases hh;done)
  rename_i j;split at hh<;>try(cases hh;done)
  rename_i O Q;split at hh<;>try(cases hh;done)
  rename_i ha;cases hv<;>simp only[tx]at r2;split at hh<;>try(cases hh;done)
  rename_i k o;split at hh<;>try(cases hh;done)
  rename_i l p;obtain⟨b,c,rfl,v,F,y,U,g5,g6,I,K,L,M,g8⟩:=kL ra;have N:=(pu (isS:=true) (cap:=len) Q o p r1 r2 r3 (aR _)).2;have d:=pu (isS:=true) (cap:=c) Q o p r1 r2 r3 U;refine⟨_,oV B j d.1,?_⟩;split at hh
  ·rename_i i;simp only[aA]at hh;subst hh;subst i;have D:k-O=0:=o_;rw[D,Nat.sub_self,if_pos rfl];exact .full (.islEmpty _ _ (by simp[maxLen]))
  rename_i i;simp only[aA]at hh;subst hh;rw[if_neg (show ¬O=l from i)];simp only[bq,fV];have q2:(O-l)*f<=(c-l)*f:=cQ _ o_;have V:l*f+(c-l)*f=c*f:=by rw[<-fD];congr 1;omega
  exact .msl v F y o_ o_ (λn E=>by simpa using E) ⟨I,K,L,M,o_⟩
 rename_i b B;cases mv<;>simp only[tx]at r3;split at hh<;>try(cases hh;done)
 rename_i k o;split at hh<;>try(cases hh;done)
 rename_i l p;simp only[aA]at hh;subst hh;rw[zE ra];exact⟨_,BD B (rK (isS:=false) o p r1 r2 (aR _)).1,.data (.str _)⟩
theorem Hq{t ty:TypeId}{x r:AV}{u:Value}(hh:Vc P t x=some r) (ra:Rel P A σ h w x u):∃z,(Builtin.cap_ #[t] ty #[u]).run P w=.ok z w/\Rel P A σ h w r z:=by
 unfold Vc at hh;split at hh<;>try(cases hh;done)
 ·rename_i a i e;simp only[aA]at hh;subst hh;obtain⟨g,n,rfl,j⟩:=qj ra;have k:n=i.length:=by
   rcases nw j with⟨l,_,_,d,_⟩|⟨m,b,o,p,f,d,_⟩
   ·simp only[Value.slice.injEq]at d;rw[l];exact d.2.1
   simp only[Value.slice.injEq]at d;exact d.2.1
  subst k;exact⟨_,by simp[Builtin.cap_,bd e,goInt],.data (.int _ _)⟩
 rename_i a id q v len c e;simp only[aA]at hh;subst hh;obtain⟨b,c,rfl,y,B,D,E,F,s,_⟩:=kL ra;have:=s _ rfl;subst this;exact⟨_,by simp[Builtin.cap_,bd e,goInt],.data (.int _ _)⟩
theorem G3{t ty:TypeId}{x r:AV}{u:Value}(hh:fB P t x=some r) (ra:Rel P A σ h w x u):∃z,(Builtin.len_ #[t] ty #[u]).run P w=.ok z w/\Rel P A σ h w r z:=by
 unfold fB at hh;split at hh<;>try(cases hh;done)
 all_goals (rename_i a;simp only[aA]at hh;subst hh)
 ·rcases nw (mT ra)with⟨rfl,_,_,rfl,_⟩|⟨d,b,o,e,f,rfl,_⟩
  ·exact⟨_,by simp[Builtin.len_,bd a,goInt],.data (.int _ _)⟩
  exact⟨_,by simp[Builtin.len_,bd a,goInt],.data (.int _ _)⟩
 ·obtain⟨b,c,rfl,_⟩:=kL ra;exact⟨_,by simp[Builtin.len_,bd a,goInt],.data (.int _ _)⟩
 ·rw[zE ra];exact⟨_,by simp[Builtin.len_,bd a,goInt],.data (.int _ _)⟩
 exact⟨_,by simp[Builtin.len_,bd a,goInt],.data (.int _ _)⟩
end
end Go.V
