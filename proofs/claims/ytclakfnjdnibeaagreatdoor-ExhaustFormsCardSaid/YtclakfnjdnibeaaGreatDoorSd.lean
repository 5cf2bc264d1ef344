/- A part of the proof. -/
import Derived.Test.YtclakfnjdnibeaaGreatDoorSc
import Derived.Test.YtclakfnjdnibeaaGreatDoorSxzb
import Derived.ChangeArms
import Derived.Test.YtclakfnjdnibeaaGreatDoorRows
import Derived.Test.YtclakfnjdnibeaaGreatDoorV35
set_option maxHeartbeats 8000000
set_option maxRecDepth 8000
namespace Go.VP
open Go Go.V Go.Proofs Go.RowKit TL
open Go.VZ (gL ext pi aa)
theorem Dl [DFlag] (hD:DFlag.D) (a b:Fq) (ha:a.1.length<100000000) (hb:b.1.length<100000000){w:World}{u v:Value}(hg:kW (λ_ _=>True) w) (hu:IRel (λ_ _=>True) w (rS a) u) (hv:IRel (λ_ _=>True) w (rS b) v) :
  Calls Tryz.prog 48 #[u,v] w λe w'=>e=.returned (.int .i64 (gL a.1 b.1))/\∃q os,w'=Go.Sort.grow (w.drewN q) os:=by
 have f:=SM a b ha hb;unfold ay at f;split at f<;>try(cases f;done)
 rename_i r g c;refine(okD.fn 48 [rS a,rS b] [] r g k_ c w.heap.size (λ_ _=>True) [] w #[u,v] (.start hg) rfl (λi x y c d=>?_)).mono ?_
 ·match i,c,d with
  |0,c,d=>simp at c d;subst c;subst d;exact .data (kj hu)
  |1,c,d=>simp at c d;subst c;subst d;exact .data (kj hv)
  |i+2,c,d=>simp at c
 rintro e w' ⟨v,rfl,σ',h,j,k⟩;have l:=jH (h.stiller (dN g)) dH r _ v f (k.step (.stiller h (dN g)));cases l;exact⟨rfl,Bz hD (rq j.below j.drawn)⟩
theorem Fl(a b:Fq) (ha:a.1.length<100000000) (hb:b.1.length<100000000){w:World}{u v:Value}(hg:kW (λ_ _=>True) w) (hu:IRel (λ_ _=>True) w (rS a) u) (hv:IRel (λ_ _=>True) w (rS b) v) :
  Calls Tryz.prog 48 #[u,v] w λe w'=>e=.returned (.int .i64 (gL a.1 b.1))/\∃q os,w'=Go.Sort.grow (w.drewN q) os:=@Dl ⟨True⟩ trivial a b ha hb w u v hg hu hv
end Go.VP
namespace Go.Proofs
open Go.Shelf
def Tryz.laysSortF_ren:Go.Shelf.Ren:=⟨fun|6=>47|15=>84|14=>83|28=>128|29=>129|20=>120|21=>121|22=>122|23=>123|24=>124|25=>125|26=>126|27=>127|46=>181|47=>182|48=>183|49=>184|50=>185|57=>242|n=>n,fun|22=>50|24=>55|25=>90|3=>3|39=>121|0=>0|53=>155|55=>157|4=>4|46=>148|45=>147|50=>152|5=>5|9=>9|66=>191|70=>195|76=>237|77=>238|n=>n,fun|n=>n⟩
theorem Tryz.laysSortF:Go.Proofs.SlLaysF0.n6 Tryz.prog Tryz.laysSortF_ren:={
 mixed:=k_
 f6:=⟨Tryz.f47.name,d_,Tryz.func47.trans (congrArg some k_)⟩
 f14:=⟨Tryz.f83.name,d_,Tryz.func83.trans (congrArg some k_)⟩
 f15:=Tryz.func84.trans (congrArg some k_)
 f20:=⟨Tryz.f120.name,d_,Tryz.func120.trans (congrArg some k_)⟩
 f21:=⟨Tryz.f121.name,d_,Tryz.func121.trans (congrArg some k_)⟩
 f22:=⟨Tryz.f122.name,d_,Tryz.func122.trans (congrArg some k_)⟩
 f23:=⟨Tryz.f123.name,d_,Tryz.func123.trans (congrArg some k_)⟩
 f24:=⟨Tryz.f124.name,d_,Tryz.func124.trans (congrArg some k_)⟩
 f25:=⟨Tryz.f125.name,d_,Tryz.func125.trans (congrArg some k_)⟩
 f26:=⟨Tryz.f126.name,d_,Tryz.func126.trans (congrArg some k_)⟩
 f27:=⟨Tryz.f127.name,d_,Tryz.func127.trans (congrArg some k_)⟩
 f28:=Tryz.func128.trans (congrArg some k_)
 f29:=Tryz.func129.trans (congrArg some k_)
 f46:=⟨Tryz.f181.name,d_,Tryz.func181.trans (congrArg some k_)⟩
 f47:=Tryz.func182.trans (congrArg some k_)
 f48:=Tryz.func183.trans (congrArg some k_)
 f49:=⟨Tryz.f184.name,d_,Tryz.func184.trans (congrArg some k_)⟩
 f50:=⟨Tryz.f185.name,d_,Tryz.func185.trans (congrArg some k_)⟩
 f57:=⟨Tryz.f242.name,d_,Tryz.func242.trans (congrArg some k_)⟩
 t0:=Tryz.underlying0
 a0:=Tryz.isAgg0
 z0:=Tryz.sizeOf0
 v0:=Tryz.zeroValue0
 t3:=Tryz.underlying3
 a3:=Tryz.isAgg3
 z3:=Tryz.sizeOf3
 v3:=Tryz.zeroValue3
 t4:=Tryz.underlying4
 a4:=Tryz.isAgg4
 z4:=Tryz.sizeOf4
 v4:=Tryz.zeroValue4
 t5:=Tryz.underlying5
 a5:=Tryz.isAgg5
 z5:=Tryz.sizeOf5
 v5:=Tryz.zeroValue5
 t9:=Tryz.underlying9
 a9:=Tryz.isAgg9
 z9:=Tryz.sizeOf9
 v9:=Tryz.zeroValue9
 t22:=Tryz.underlying50
 a22:=Tryz.isAgg50
 z22:=Tryz.sizeOf50
 v22:=Tryz.zeroValue50
 t25:=Tryz.underlying90
 a25:=Tryz.isAgg90
 z25:=Tryz.sizeOf90
 v25:=Tryz.zeroValue90
 t39:=Tryz.underlying121
 a39:=Tryz.isAgg121
 z39:=Tryz.sizeOf121
 v39:=Tryz.zeroValue121
 t45:=Tryz.underlying147
 a45:=Tryz.isAgg147
 z45:=Tryz.sizeOf147
 v45:=Tryz.zeroValue147
 t46:=Tryz.underlying148
 a46:=Tryz.isAgg148
 z46:=Tryz.sizeOf148
 v46:=Tryz.zeroValue148
 t50:=Tryz.underlying152
 a50:=Tryz.isAgg152
 z50:=Tryz.sizeOf152
 v50:=Tryz.zeroValue152
 t53:=Tryz.underlying155
 a53:=Tryz.isAgg155
 z53:=Tryz.sizeOf155
 v53:=Tryz.zeroValue155
 t55:=Tryz.underlying157
 a55:=Tryz.isAgg157
 z55:=Tryz.sizeOf157
 v55:=Tryz.zeroValue157
 t66:=Tryz.underlying191
 a66:=Tryz.isAgg191
 z66:=Tryz.sizeOf191
 v66:=Tryz.zeroValue191
 t70:=Tryz.underlying195
 a70:=Tryz.isAgg195
 z70:=Tryz.sizeOf195
 v70:=Tryz.zeroValue195
 t76:=Tryz.underlying237
 a76:=Tryz.isAgg237
 z76:=Tryz.sizeOf237
 v76:=Tryz.zeroValue237
 t77:=Tryz.underlying238
 a77:=Tryz.isAgg238
 z77:=Tryz.sizeOf238
 v77:=Tryz.zeroValue238}
end Go.Proofs
namespace Go.VZ
open Go Go.V Go.Proofs Go.RowKit Go.Sort TL
variable {B:Nat}{A0:Nat->Nat->Prop}{σ:List (Option Nat)}{h:H}{w:World}
theorem yv(b:VP.Fq):(VP.fC b).length=3:=rfl
theorem Lm(b:VP.Fq):VP.rS b=.agg (VP.fC b):=rfl
theorem FZ(b:VP.Fq):∀c∈VP.fC b,c.one=true:=by intro c a;simp only[VP.fC,ak,dV,or_false]at a;rcases a with rfl|rfl|rfl<;>rfl
theorem rA(a:VP.Fq) (l:List VP.Fq):eO (a::l)=VP.fC a++eO l:=rfl
theorem qz:∀l:List VP.Fq,(eO l).length=3*l.length
 |[]=>rfl
 |a::l=>by rw[rA,aK,yv,qz l,aF];omega
theorem xB{l:List VP.Fq}{j c:Nat}(hj:j<l.length) (hc:c<3):(eO l)[3*j+c]?=(VP.fC l[j])[c]?:=by
 induction l generalizing j with
 |nil=>simp at hj
 |cons a l b=>
  have d:=yv a;rw[rA];cases j with
  |zero=>rw[aM o_];simp
  |succ j=>rw[aY o_,show 3*(j+1)+c-(VP.fC a).length=3*j+c by omega,b (by simpa using hj)];simp
theorem wz{l:List VP.Fq}{c:AV}(hc:c∈eO l):∃b,c∈VP.fC b:=by simp only[eO,bh]at hc;have⟨b,_,hc⟩:=hc;exact⟨b,hc⟩
def Pe(l:List VP.Fq):Prop:=l.Pairwise λa b=>gL a.1 b.1<=0
theorem HL:∀ {l m:List VP.Fq},l.Perm m->Pe l->Pe m->l.Pairwise (λa b=>a.1≠b.1)->l=m
 |[],m,p,_,_,_=>(List.nil_perm.1 p).symm
 |a::l,[],p,_,_,_=>by have:=p.length_eq;simp at this
 |a::l,b::m,p,ha,hb,hd=>by
  have c:=cI.1 ha;have d:=cI.1 hb;have f:=cI.1 hd;have e:a=b:=by
   rcases ak.1 (p.mem_iff.1 cJ)with e|h
   ·exact e
   rcases ak.1 (p.mem_iff.2 (cJ (a:=b) (l:=m)))with e|g
   ·exact e.symm
   have j:=c.1 b g;have i:=d.1 a h;rw[il]at i;exact absurd (wA o_) (f.1 b g)
  subst e;rw[HL (p.cons_inv) c.2 d.2 f.2]
structure ElF (A:Nat->Nat->Prop) (w:World) where
 b:VP.Fq
 vs:List Value
 len:vs.length=3
 small:b.1.length<100000000
 rel:∀(c:Nat) a v,(VP.fC b)[c]?=some a->vs[c]?=some v->IRel A w a v
theorem Ob{A:Nat->Nat->Prop}{w:World}(x:ElF A w):∀v∈x.vs,v.oneCell'=true:=by intro v d;have⟨c,a⟩:=dR.1 d;have e:=(aB.1 a).1;have g:=x.len;have h:=yv x.b;have f:(VP.fC x.b)[c]?=some (VP.fC x.b)[c]:=aC o_;exact qJ (x.rel c _ v f a) (FZ x.b _ (aG _))
theorem Tj{A:Nat->Nat->Prop}{w:World}:∀(c:Nat) a v,(VP.fC ([],[],[]))[c]?=some a->([.slice none 0 0,.slice none 0 0,.slice none 0 0]:List Value)[c]?=some v->IRel A w a v:=by
 intro c a v b d;match c,b,d with
 |0,b,d=>simp[VP.fC,VP.bU]at b d;subst b;subst d;exact .islNil
 |1,b,d=>simp[VP.fC,VP.bU]at b d;subst b;subst d;exact .islNil
 |2,b,d=>simp[VP.fC,VP.bU]at b d;subst b;subst d;exact .islNil
 |i+3,b,d=>simp[VP.fC]at b
instance {A:Nat->Nat->Prop}{w:World}:Inhabited (ElF A w):=⟨⟨([],[],[]),_,rfl,d_,Tj⟩⟩
theorem U1{A:Nat->Nat->Prop}{w:World}{vs:Array Value}:∀(l:List (VP.Fq)) (off:Nat),(∀b∈l,b.1.length<100000000)->(∀(k:Nat) c v,(eO l)[k]?=some c->vs[off+k]?=some v->IRel A w c v)->off+3*l.length<=vs.size ->
  ∃es:List (ElF A w),es.map ElF.b=l/\∀(j c:Nat) (hj:j<es.length),c<3->vs[off+(3*j+c)]?=(es[j]).vs[c]?
 |[],off,_,_,_=>⟨[],rfl,λj c hj=>by simp at hj⟩
 |a::l,off,hs,hr,hl=>by
  simp only[aF]at hl;have e8:=yv a;obtain⟨es,h1,h2⟩:=U1 l (off+3) (λt ht=>hs t (by simp[ht])) (λk c v hc hv=>hr (3+k) c v (by
   rw[rA,aY o_,show 3+k-(VP.fC a).length=k by omega];exact hc) (by rw[<-fG];exact hv)) o_
  have hg:∀c,c<3->((vs.toList.drop off).take 3)[c]?=vs[off+c]?:=λc hc=>by
   rw[kX hc,bk,bI]
  refine⟨⟨a,(vs.toList.drop off).take 3,by simp;omega,hs a s_,λc x v hx hv=>?_⟩::es,by simp[h1],?_⟩
  ·have hc:c<3:=by have:=(aB.1 hx).1;omega
   rw[hg c hc]at hv;refine hr c x v ?_ hv;have:=xB (l:=a::l) (j:=0) (c:=c) s_ hc;rw[oD,bn]at this;rw[this];exact hx
  intro j c hj hc;cases j with
  |zero=>change vs[off+(3*0+c)]?=((vs.toList.drop off).take 3)[c]?;rw[hg c hc,oD,bn]
  |succ j=>have:=h2 j c (by simpa using hj) hc;rw[show off+(3*(j+1)+c)=off+3+(3*j+c) by omega,this];rfl
theorem G3{A:Nat->Nat->Prop}{w:World}(x:ElF A w):IRel A w (VP.rS x.b) (.agg x.vs.toArray):=by rw[Lm];refine .agg (FZ _) (by have:=x.len;have:=yv x.b;simp;omega) λi a v c d=>x.rel i a v c (by simpa using d)
theorem Ds{A:Nat->Nat->Prop}{l:List (VP.Fq)}{k:Nat}{c:AV}{v:Value}(hc:(eO l)[k]?=some c) (r:Rel Tryz.prog A σ h w c v):IRel A w c v:=by have⟨b,a⟩:=wz (aW hc);simp only[VP.fC,ak,dV,or_false]at a;rcases a with rfl|rfl|rfl<;>(cases r with|data hd=>exact hd)
theorem W2{A:Nat->Nat->Prop}{w:World}:SWO (ltOf λx y:ElF A w=>gL x.b.1 y.b.1) where
 irrefl x:=by simp[ltOf,Aw]
 trans x y z h1 h2:=by simp only[ltOf,decide_eq_true_eq]at *;exact uC h1 o_
 ntrans x y z h1 h2:=by simp only[ltOf,decide_eq_false_iff_not]at *;have d:=il x.b.1 y.b.1;have e:=il y.b.1 z.b.1;have a3:=il x.b.1 z.b.1;have:=Gn (a:=z.b.1) (b:=y.b.1) (c:=x.b.1) o_ o_;omega
theorem wZ(l:List (VP.Fq)):(nS l).Perm l:=nW l _
theorem Ho(l:List (VP.Fq)):Pe (nS l):=by
 have:=List.pairwise_mergeSort (le:=λx y:VP.Fq=>!decide (gL y.1 x.1<0)) (λa b c e d=>by
  simp only[bq,decide_eq_false_iff_not]at *;have f:=il a.1 b.1;have g:=il b.1 c.1;have a3:=il a.1 c.1;have:=Gn (a:=a.1) (b:=b.1) (c:=c.1) o_ o_;omega) (λa b=>by
  rw[bZ];simp only[bq,decide_eq_false_iff_not];by_cases h:gL b.1 a.1<0
  ·right;intro d;have:=il a.1 b.1;omega
  exact .inl h) l
 exact this.imp fun {a b} h=>by simp only[bq,decide_eq_false_iff_not]at h;have:=il a.1 b.1;omega
theorem Cj [DFlag] (hr:HRel Tryz.prog B A0 σ h w){i0 b c:Nat}{l:List (VP.Fq)}(hs:∀b∈l,b.1.length<100000000) (hd:l.Pairwise λa b=>a.1≠b.1) (hid:h[i0]?=some (.cells (eO l) .live)) (hb:σ[i0]?=some (some b)) (hl:l.length<4611686018427387904) :
  Calls Tryz.prog 47 #[.slice (some ⟨b,0,none⟩) l.length c,.func (.func 48) #[] #[]] w (λe w'=>∃v,e=.returned v/\Go.V.eI Tryz.prog B A0 σ h w (.tuple []) (h.set i0 (.cells (eO (nS l)) .live)) v w'):=by
 have⟨b',vs,ty,t,hB,d,q9,q7,hrel⟩:=hr.cells i0 _ .live hid s_;rw[hb]at t;simp only[aA]at t;subst t;have q8:=qz l;have⟨s,N,O⟩:=U1 (A:=Alw Tryz.prog B A0 σ h) (w:=w) (vs:=vs) l 0 hs (λk x v u F=>by rw[bn]at F;exact Ds u (hrel k x v u F)) o_
 have G:s.length=l.length:=by rw[<-N];simp
 have q':b<w.heap.size:=(aN.1 d).1;have q0:∀k o,Alw Tryz.prog B A0 σ h k o->k≠b:=λk o z e=>by subst e;unfold Alw at z;rw[if_neg o_]at z;exact z.1 i0 _ hid hb
 have up:∀(m:Nat) (D:Array Obj) (Q:Array (ElF (Alw Tryz.prog B A0 σ h) w)) (k o:Nat) x,Alw Tryz.prog B A0 σ h k o->w.cell? ⟨k,o,none⟩=some x->(sortWorldK ElF.vs 3 w b 0 m Q D).cell? ⟨k,o,none⟩=some x:=λm D Q k o x z Z=>by have hk:=World.block_lt_of_cell? w _ Z;unfold sortWorldK;rw[cell?_grow _ _ _ (by unfold putRowK putRow mapBlock;simpa using hk),cell?_putRowK_other (h:=q0 k o z)];exact Z
 have S:CmpLays Tryz.prog 48 #[] ElF.vs 3 (λx y:ElF (Alw Tryz.prog B A0 σ h) w=>gL x.b.1 y.b.1) b 0 s.toArray.size w:=by
  intro m D Q _ x y;have go:∀ {a:AV}{v:Value},IRel (Alw Tryz.prog B A0 σ h) w a v->IRel (λ_ _=>True) (sortWorldK ElF.vs 3 w b 0 m Q D) a v:=λr=>r.mono λk o x z Z=>⟨trivial,up m D Q k o x z Z⟩
  exact Go.VP.Fl x.b y.b x.small y.small ⟨λg a M=>go (hr.gr.1 g a M),λg n M=>by have⟨z',f,q1,q2,t,e2⟩:=hr.tab g n M;exact⟨f,q1,q2,mN t o_,e2⟩⟩ (go (G3 x)) (go (G3 y))
 have hH:HoldsK ElF.vs 3 w b 0 s.toArray:=by
  intro j E;have z0:j<3*l.length:=by simp[size_flatK]at E;omega
  have hd:j/3<s.length:=o_;have M:=O (j/3) (j%3) hd (gM _ o_);rw[show 0+(3*(j/3)+j%3)=j by omega]at M;have h8:=(s[j/3]).len;have q:j%3<3:=gM _ o_;refine⟨?_,by simp[World.frozen?,d]⟩;rw[get_flatK _ _ _ _ (by simpa[size_flatK]using E)];simp only[World.cell?,d,bn,ku,am,if_false,M,id];rw[getElem!_pos s.toArray (j/3) (by simpa using hd)];simp only[nH];rw[getElem!_pos _ _ o_,aC o_]
 have q3:s.toArray.size<4611686018427387904:=by simp;omega
 have I:=AnyQ.slices_SortFunc (P:=Tryz.prog) Tryz.laysSortF 3 Tryz.isAgg55 Tryz.sizeOf55 (ElF.vs (A:=Alw Tryz.prog B A0 σ h) (w:=w)) ElF.len Ob (λx y=>gL x.b.1 y.b.1) W2 48 #[] b 0 c s.toArray w (enters_of Tryz.func48 k_ rfl) S hH q' q3;change Calls Tryz.prog 47 _ _ _ at I;rw[show s.toArray.size=l.length by simp[G]]at I;refine I.mono ?_;rintro e w' ⟨rfl,p,n,D,hp,q4,rfl⟩;have J:p.size=l.length:=by have:=hp.1;simpa[G]using this
 have hT:p.toList.map ElF.b=nS l:=by
  have p1:(p.toList.map ElF.b).Perm l:=by have:=hp.2.2;rw[show l.length=p.size from J.symm,gp,J,show l.length=s.toArray.size by simp[G],gp]at this;rw[<-N];exact this.map _
  refine HL (p1.trans (wZ l).symm) ?_ (Ho l) ((p1.pairwise_iff fun {a b}(k:a.1≠b.1)=>λe=>k e.symm).2 hd);unfold Pe;rw[eR,fc];intro i j hi E q5;have:=q4 i j (aO _) q5 (by simpa[J]using E);simp only[ltOf,decide_eq_false_iff_not]at this;rw[getElem!_pos p i (by simpa using hi),getElem!_pos p j (by simpa using E)]at this;have an:=il (p[i]'(by simpa using hi)).b.1 (p[j]'(by simpa using E)).b.1;simp only[nJ];omega
 obtain⟨f,evs⟩:∃f,f=putCells id 0 (flatK ElF.vs 3 p) vs:=⟨_,rfl⟩
 have U:putRowK ElF.vs 3 w b 0 p=w.setRow b f:=by unfold putRowK putRow;rw[qm _ d,evs]
 have hw:sortWorldK ElF.vs 3 w b 0 n p D=Go.Sort.grow ((w.setRow b f).drewN n) D:=by rw[<-U];rfl
 have X:f.size=vs.size:=by rw[evs];simp[putCells]
 have Y:(nS l).length=l.length:=(wZ l).length_eq;have q6:(eO (nS l)).length=3*l.length:=by rw[qz,Y]
 have K:∀(k:Nat) x v,(eO (nS l))[k]?=some x->f[k]?=some v->Rel Tryz.prog (Alw Tryz.prog B A0 σ h) σ h w x v:=by
  intro k x v u F;have hk:k<3*l.length:=by rw[<-q6];exact(aB.1 u).1
  have hd:k/3<p.size:=o_;have q:k%3<3:=gM _ o_;have E:k/3<(nS l).length:=by rw[Y];omega
  have t:=xB E q;rw[show 3*(k/3)+k%3=k by omega,u]at t;have et:(nS l)[k/3]=(p[k/3]).b:=by simp[<-hT]
  rw[et]at t;have ev:v=(p[k/3]).vs[k%3]'(by rw[(p[k/3]).len];exact q):=by rw[evs]at F;simp only[putCells,mK,aO,true_and,bn,size_flatK,Nat.sub_zero,id]at F;rw[aR o_,bf,if_pos o_,get_flatK _ _ _ _ o_,getElem!_pos p _ hd,getElem!_pos _ _ (by rw[(p[k/3]).len];exact q)]at F;simpa using F.symm
  exact .data ((p[k/3]).rel _ _ _ t.symm (by rw[ev];exact aC _))
 have L:∀x∈eO (nS l),x.one=true:=by intro x u;have⟨b,u⟩:=wz u;exact FZ b x u
 have k1:=HRel.write hr hid hb d X (cs':=eO (nS l)) o_ L K;have k2:=Step.write (cs':=eO (nS l)) hr hid hb d X;have g:Grows (w.setRow b f) (sortWorldK ElF.vs 3 w b 0 n p D):=by rw[hw];refine⟨rfl,rfl,rfl,by simp[Go.Sort.grow,World.drewN],λk hk=>?_,λ_=>by simp[Go.Sort.grow,World.drewN]⟩;simp only[Go.Sort.grow,World.drewN];exact bw hk
 exact⟨_,rfl,σ,k1.grows g,k2.trans (.grows k1 g),.data (.tuple rfl (λi a v z=>by simp at z))⟩
theorem zr [DFlag]:rI Tryz.prog 47 mQ:=by
 intro g h r F c B G σ w j k o b;unfold mQ at c;split at c<;>try(cases c;done)
 ·rename_i x;simp only[aA,aD]at c;obtain⟨rfl,rfl⟩:=c;have⟨l⟩:=j;match l,o,b with
  |[u,v],_,b=>obtain⟨p,d,rfl⟩:=Bt (b 0 _ u rfl rfl);have f:=qK (b 1 _ v rfl rfl);subst f;refine(show Calls Tryz.prog 47 #[.slice p 0 d,.func (.func 48) #[] #[]] w _ from AnyF.slices_SortFunc_none (P:=Tryz.prog) {Tryz.laysSortF with} p d _ w).mono ?_;rintro e I ⟨rfl,rfl⟩;exact⟨_,rfl,σ,k,.refl _ _ _,.data (.tuple rfl (λi a v b=>by simp at b))⟩
 rename_i J n;split at c<;>try(cases c;done)
 rename_i e;simp only[aA,aD]at c;obtain⟨rfl,rfl⟩:=c;have⟨q,z,s,t,c3⟩:=e.choose_spec;generalize e.choose=m at q s c3 z t ⊢;subst q;have⟨l⟩:=j;match l,o,b with
 |[u,v],_,b=>
  have f:=qK (b 1 _ v rfl rfl);subst f;have A:=b 0 _ u rfl rfl;cases A with
  |data D=>cases D
  |msl E K L M N y O=>exact Cj k s t c3 E o_
end Go.VZ
namespace Go.VZ
open Go Go.V Go.Proofs Tryz Go.RowKit
theorem Nb(f:FuncId):rI C.P f (C.prim f):=by
 intro b h r g n B k σ w i d j l;have a:prim f b h=some (r,g):=n;unfold prim at a;split at a
 ·rename_i c;subst c;split at a<;>try(cases a;done)
  simp only[aA,aD]at a;obtain⟨rfl,rfl⟩:=a;have:i = #[]:=Array.eq_empty_of_size_eq_zero (by simpa using j);subst this;exact(CS (N7 d)).mono λe p ⟨o,m⟩=>⟨_,o,σ,d.grows m,.grows d m,.data (.bool true)⟩
 split at a
 ·rename_i c;subst c;exact Cw b h r g a B k σ w i d j l
 split at a
 ·rename_i c;subst c;exact BW b h r g a B k σ w i d j l
 split at a
 ·rename_i c;subst c;exact zr b h r g a B k σ w i d j l
 split at a
 ·rename_i c;subst c;exact Cx b h r g a B k σ w i d j l
 exact BX f b h r g a B k σ w i d j l
theorem ok:Go.V.Ok C.P (Go.V.Call C):=HV good Nb
end Go.VZ
namespace Go.VZ
open Go Go.V Go.Proofs Tryz Go.RowKit TL
theorem L8{f:FuncId}{args:LA}{vs:Array Value}{w:World}(hb:fA C.P f=true) (hl:vs.size=args.length)
  (hr:∀(i:Nat) a v,args[i]?=some a->vs[i]?=some v->IRel (λ_ _=>True) w a v) (hg:kW (λ_ _=>True) w) (hc:ay C f args=some (.bool true)) :
  Calls prog f vs w (λe w'=>e=.returned (.bool true)/\Below w.heap.size w w'):=by
 unfold ay at hc;split at hc<;>try(cases hc;done)
 rename_i r b d;refine(ok.fn f args [] r b hb d w.heap.size (λ_ _=>True) [] w vs (.start hg) hl (λi a v g h=>.data (kj (hr i a v g h)))).mono ?_;rintro e w' ⟨v,rfl,σ',c,j,k⟩;have l:=jH (c.stiller (dN b)) dH r (.bool true) v hc (k.step (.stiller c (dN b)));cases l;exact⟨rfl,j.below⟩
end Go.VZ
namespace Go.VZ
open Go Go.V Go.Proofs Tryz TL
abbrev oL{H:Type}(d:DataW H):Nat:=YtclakfnjdnibeaaGreatDoor.Rows.uptoBulk d
abbrev vg{H:Type}(l:List (DataW H)):Nat:=YtclakfnjdnibeaaGreatDoor.Rows.uptoBulkAll l
theorem G2{α:Type}{p:Nat->α->Prop}:∀n,(∀i,i<n->∃a,p i a)->∃l:List α,l.length=n/\∀i a,l[i]?=some a->p i a
 |0,_=>⟨[],rfl,λi a h=>by simp at h⟩
 |n+1,h=>by
  have⟨l,h1,h2⟩:=G2 n λi d=>h i o_
  have⟨a,e⟩:=h n o_;refine⟨l++[a],by simp[h1],λi b c=>?_⟩;by_cases d:i<n
  ·rw[aM o_]at c;exact h2 i b c
  rw[aY o_]at c;have:i=n:=by have:=(aB.1 c).1;simp at this;omega
  subst this;simp[h1]at c;subst c;exact e
theorem zI{w:World}{a:Addr}{n:Nat}{cs:List Value}(h:w.cells? 0 a n=some cs):cs.length=n/\∀j u,cs[j]?=some u->w.cell? (a.add j)=some u:=by
 unfold World.cells? at h;rw[if_pos (aO _)]at h;have c:cs.length=n:=by have:=mapM_some_length h;rwa[List.length_range]at this
 refine⟨c,λj u b=>?_⟩;have d:=(aB.1 b).1;have:=mapM_some_get h j j (by rw[dt o_]);rw[this];exact b
theorem yD{H α:Type}{sz:α->Nat}:∀(l:List α) (ds:List (DataW H)),l.length=ds.length->(∀(i:Nat) a d,l[i]?=some a->ds[i]?=some d->sz a<=oL d)->(l.map sz).sum<=vg ds
 |[],_,_,_=>s_
 |a::l,[],h,_=>by simp at h
 |a::l,d::ds,h,hs=>by
  have:=yD l ds (by simpa using h) λi a d b c=>hs (i+1) a d (by simpa using b) (by simpa using c)
  have e:=hs 0 a d rfl rfl;simp only[aS,gb,vg,oL,YtclakfnjdnibeaaGreatDoor.Rows.uptoBulkAll]at this e ⊢;omega
theorem Jj{w:World}{b o i j:Nat}{u:Value}(h:w.cell? (Addr.add (Addr.add ⟨b,o,none⟩ i) j)=some u):w.cell? ⟨b,o+i+j,none⟩=some u:=by
 rw[<-h];congr 1
 unfold Addr.add;split<;>split<;>simp_all
theorem Ji{w:World}{b o:Nat}{z}{u:Value}(h:w.cell? (Addr.add (Addr.add ⟨b,o,z⟩ 0) 0)=some u):z=none:=by
 cases z with
 |none=>rfl
 |some z=>exfalso;simp[World.cell?,Addr.add]at h;split at h<;>cases h
theorem wQ{H:Type}{enc:TypeId × Value->H}{P:Program}{w:World}{α:Type}{toV:α->AV}{sz:α->Nat}{t e:TypeId}{k fuel:Nat}{v:Value}{x:DataW H × List MemPlace}
  (hu:P.underlying t=some (.slice e)) (hk:P.cellsOf e=k) (h0:0<k) (hl:∀a:α,(toV a).cells.length=k/\bV (toV a)=true/\∀c∈(toV a).cells,c.one=true)
  (hd:∀n,n<fuel->∀cs y,cs.length=k->DataW.trod enc P w 0 (λ_=>true) true n e cs=some y->∃a:α,sz a<=oL y.1/\∀(j:Nat) c u,(toV a).cells[j]?=some c->cs[j]?=some u->IRel (λ_ _=>True) w c u)
  (h:DataW.trod enc P w 0 (λ_=>true) true fuel t [v]=some x):∃l:List α,IRel (λ_ _=>True) w (.isl (l.map toV) .unk) v/\l.length+1<=oL x.1/\(l.map sz).sum+1<=oL x.1:=by
 rcases DataW.trod_slice hu h with⟨K,rfl⟩|⟨a,len,cap,f,U,n,rfl,K,rfl,_,Y,L,M,N,_,_⟩
 ·simp only[cH,and_true]at K;subst K;exact⟨[],.islNil,by simp[oL,YtclakfnjdnibeaaGreatDoor.Rows.uptoBulk],by simp[oL,YtclakfnjdnibeaaGreatDoor.Rows.uptoBulk]⟩
 simp only[cH,and_true]at K;subst K;rw[hk]at N;have⟨l,r,D⟩:=G2 (p:=λi (g:α)=>∃cs y,w.cells? 0 (a.add (i*k)) k=some cs/\f[i]?=some y/\sz g<=oL y.1/\∀(j:Nat) c u,(toV g).cells[j]?=some c->cs[j]?=some u->IRel (λ_ _=>True) w c u) len λi Z=>by have m:=N i Z;have s:f[i]?=some (f[i]' o_):=aC o_;rw[s]at m;have⟨cs,F,O⟩:=Option.bind_eq_some_iff.1 m;have⟨g,h5,h6⟩:=hd n o_ cs _ (zI F).1 O;exact⟨g,cs,_,F,s,h5,h6⟩
 have G:(l.map sz).sum<=vg (f.map (·.1)):=yD l _ (by simp[r,M]) λi g d m s=>by have⟨cs,y,_,F,O,_⟩:=D i g m;rw[bW,F]at s;simp only[bf,aA]at s;subst s;exact O
 have I:(l.map λ_=>1).sum<=vg (f.map (·.1)):=yD (sz:=λ_=>1) l _ (by simp[r,M]) λi g d m s=>by cases d<;>simp[oL,YtclakfnjdnibeaaGreatDoor.Rows.uptoBulk]<;>(rename_i q;cases q<;>simp[YtclakfnjdnibeaaGreatDoor.Rows.uptoBulk])
 have V:(l.map λ_=>1).sum=l.length:=by
  clear I G D r;induction l with
  |nil=>rfl
  |cons a l ih=>simp only[aS,gb,ih,aF];omega
 refine⟨l,?_,by simp only[oL,YtclakfnjdnibeaaGreatDoor.Rows.uptoBulk];simp only[vg]at I;omega,by simp only[oL,YtclakfnjdnibeaaGreatDoor.Rows.uptoBulk];simp only[vg]at G;omega⟩;by_cases hz:len=0
 ·subst hz;have:l=[]:=List.length_eq_zero_iff.1 r;subst this;exact .islEmpty a cap L
 have⟨b,o,z⟩:=a;have S:z=none:=by have⟨cs,y,m,_⟩:=D 0 (l[0]' o_) (aC o_);have⟨s,F⟩:=zI m;have:=F 0 (cs[0]' o_) (aC o_);exact Ji (by simpa using this)
 subst S;have Q:∀(i j:Nat) E c,(l.map toV)[i]?=some E->E.cells[j]?=some c->∃u,w.cell? ⟨b,o+i*k+j,none⟩=some u/\IRel (λ_ _=>True) w c u:=λi j E c B J=>by
  rw[bW]at B;obtain⟨g,ha,rfl⟩:=cF.1 B;have⟨cs,y,m,_,_,O⟩:=D i g ha;have⟨s,F⟩:=zI m;have X:j<cs.length:=by have:=(aB.1 J).1;rw[(hl g).1]at this;omega
  have:=F j cs[j] (aC X);exact⟨cs[j],Jj this,O j c _ J (aC X)⟩
 have:=IRel.isl (A:=λ_ _=>True) (w:=w) (es:=l.map toV) (sz:=k) (b:=b) (o:=o) (cap:=cap) (λi j=>(w.cell? ⟨b,o+i*k+j,none⟩).getD .nilIface) h0 (by simp;omega) L
  (λE B=>by obtain⟨g,_,rfl⟩:=bA.1 B;exact⟨(hl g).1,(hl g).2.1⟩)
  (λE B c J=>by obtain⟨g,_,rfl⟩:=bA.1 B;exact(hl g).2.2 c J)
  (λi j E c B J=>by have⟨u,m,_⟩:=Q i j E c B J;exact⟨trivial,by rw[m];rfl⟩)
  (λi j E c B J=>by have⟨u,m,s⟩:=Q i j E c B J;rw[m];exact s)
 rw[aU,r]at this;exact this
theorem yk:∀(l:Lb) (t:T),eK l t=t\/∃b∈l,b.1.cmp t=0/\eK l t=b.2
 |[],t=>.inl rfl
 |b::l,t=>by
  rw[eK];by_cases h:b.1.cmp t=0
  ·rw[if_pos h];exact .inr ⟨b,cJ,h,rfl⟩
  rw[if_neg h];rcases yk l t with e|⟨c,hc,e⟩
  ·exact .inl e
  exact .inr ⟨c,be _ hc,e⟩
def mG(l:Lb) (b:T × T):Lb:=if b.1.cmp b.2=0 then l else jg b l
theorem Ir{l m:Lb}(p:l.Perm m) (hn:(l.map (·.1)).Nodup) (v:T):eK l v=eK m v:=by
 have d:∀ {l:Lb}{b:T × T},(l.map (·.1)).Nodup->b∈l->eK l b.1=b.2:=by
  intro l;induction l with
  |nil=>intro b _ c;simp at c
  |cons a l f=>
   intro b hn c;rw[aS,ke]at hn;rw[eK];rcases ak.1 c with rfl|c
   ·rw[if_pos (cmp_zero.2 rfl)]
   rw[if_neg,f hn.2 c];intro e;exact hn.1 (by rw[cmp_zero.1 e];exact kO c)
 have g:(m.map (·.1)).Nodup:=(p.map _).nodup_iff.1 hn;by_cases h:∃b∈l,b.1=v
 ·obtain⟨b,c,rfl⟩:=h;rw[d hn c,d g (p.mem_iff.1 c)]
 have none:∀ {l:Lb},(∀b∈l,b.1≠v)->eK l v=v:=by
  intro l;induction l with
  |nil=>intro _;rfl
  |cons a l f=>intro h;rw[eK,if_neg (λe=>h a s_ (cmp_zero.1 e)),f λb c=>h b (by simp[c])]
 rw[none λb c e=>h ⟨b,c,e⟩,none λb c e=>h ⟨b,p.mem_iff.2 c,e⟩]
theorem Is(l:Lb) (hn:(l.map (·.1)).Nodup) (v:T):eK (l.filter λb=>decide (b.1.cmp b.2≠0)) v=eK l v:=by
 induction l with
 |nil=>rfl
 |cons a l c=>
  rw[aS,ke]at hn;by_cases h:a.1.cmp a.2=0
  ·rw[lG (by simpa using h),c hn.2,eK];by_cases e:a.1.cmp v=0
   ·rw[if_pos e,<-cmp_zero.1 h];rw[cmp_zero.1 e]at hn ⊢;have none:∀ {l:Lb},v∉l.map (·.1)->eK l v=v:=by
     intro l;induction l with
     |nil=>intro _;rfl
     |cons a l c=>intro h;simp only[aS,ak,not_or]at h;rw[eK,if_neg (λe=>h.1 (cmp_zero.1 e).symm),c h.2]
    exact none hn.1
   rw[if_neg e]
  rw[iz (by simpa using h),eK,eK,c hn.2]
theorem mS:∀(l o:Lb),(l.foldl mG o).Perm (o++l.filter λb=>decide (b.1.cmp b.2≠0))
 |[],o=>s_
 |a::l,o=>by
  rw[fT,mG];by_cases h:a.1.cmp a.2=0
  ·rw[if_pos h,lG (by simpa using h)];exact mS l o
  rw[if_neg h,iz (by simpa using h)];refine(mS l _).trans ?_;refine((lD a o).append_right _).trans ?_;simp
theorem FK{l:Lb}(hn:(l.map (·.1)).Nodup) (v:T):eK (l.foldl mG []) v=eK l v:=by have p:=mS l [];rw[bz]at p;have a:((l.filter λb=>decide (b.1.cmp b.2≠0)).map (·.1)).Nodup:=hn.sublist ((nY).map _);rw[Ir p ((p.map _).nodup_iff.2 a),Is l hn]
mutual
def nC(θ:T->T):T->T
 |.mk k n s l=>if k=1 then θ (.mk k n s l)else .mk k n s (HN θ l)
def HN(θ:T->T):Lq->Lq
 |[]=>[]
 |t::l=>nC θ t::HN θ l
end
theorem BM(θ:T->T):∀l,HN θ l=l.map (nC θ)
 |[]=>rfl
 |t::l=>by rw[HN,BM θ l];rfl
theorem HO(θ:T->T) (t:T):nC θ t=if t.kind=1 then θ t else .mk t.kind t.name t.sort (t.kids.map (nC θ)):=by cases t;rw[nC,BM];rfl
theorem vU{θ:T->T}{t:T}(h:t.kind=1):nC θ t=θ t:=by rw[HO,if_pos h]
theorem oJ{θ:T->T}{t:T}(h:t.kind≠1):nC θ t=.mk t.kind t.name t.sort (t.kids.map (nC θ)):=by rw[HO,if_neg h]
def W5(θ:T->T):Prop:=(∀x:T,x.kind=1->x.sort≠0->(θ x).kind=2/\(θ x).sort=x.sort)/\∀x:T,0<(θ x).size
theorem IS{t:T}(h:iE t=0):t.kind=1\/t.kind=2\/t.kind=3:=by
 unfold iE tU at h;split at h
 ·cases h
 rename_i c;simp only[bZ,aq,decide_eq_true_eq,not_or,not_and,Decidable.not_not]at c;by_cases a:t.kind=1
 ·exact .inl a
 by_cases b:t.kind=2
 ·exact .inr (.inl b)
 exact .inr (.inr (c.1.1.1.1 ⟨a,b⟩))
end Go.VZ
namespace TL
def qF:ByteArray:=⟨#[112,97,105,114]⟩
def uA:ByteArray:=⟨#[101,110,99]⟩
def oS:ByteArray:=⟨#[97,101,110,99]⟩
def nPk:ByteArray:=⟨#[112,107]⟩
def oR:ByteArray:=⟨#[115,105,103,110]⟩
def C9:ByteArray:=⟨#[104,97,115,104]⟩
def iH(t:T) (n:ByteArray):Bool:=decide (t.kind=3)&&decide (t.name=n)
def bld(t:T):Bool:=decide (t.kind=3)&&(decide (t.name=qF)||decide (t.name=uA)||decide (t.name=oS)||decide (t.name=nPk)||decide (t.name=oR)||decide (t.name=C9))
def qp(t:T):Option T:=
 if iH t uA=true then t.kids[1]?
 else if iH t oS=true then(t.kids[1]?).bind λp=>if iH p nPk=true then p.kids[0]? else none
 else none
inductive Prt:T->T->Lq->Prop where
 |pair {t u:T}:iH t qF=true->u∈t.kids->Prt t u []
 |sign {t u:T}:iH t oR=true->t.kids[0]?=some u->Prt t u []
 |key {t u k:T}:qp t=some k->t.kids[0]?=some u->Prt t u [k]
inductive Dr (P:T->Prop) (K:T->Prop):T->Prop where
 |ax {t:T}:K t->Dr P K t
 |pub {t:T}:P t->Dr P K t
 |bld {t:T}:bld t=true->(∀k∈t.kids,Dr P K k)->Dr P K t
 |opn {t u:T}{ks:Lq}:Dr P K t->Prt t u ks->(∀k∈ks,Dr P K k)->Dr P K u
theorem eE{t:T}{n:ByteArray}(h:iH t n=true):t.kind=3/\t.name=n:=by simpa[iH]using h
theorem qI{t k:T}(h:qp t=some k):t.kind=3/\(t.name=uA\/t.name=oS):=by
 unfold qp at h;split at h
 ·rename_i e;exact⟨(eE e).1,.inl (eE e).2⟩
 split at h
 ·rename_i e;exact⟨(eE e).1,.inr (eE e).2⟩
 cases h
theorem Gb{t u:T}{ks:Lq}(h:Prt t u ks):u∈t.kids:=by
 cases h with
 |pair _ h=>exact h
 |sign _ h=>exact aW h
 |key _ h=>exact aW h
theorem Na{t u:T}{ks:Lq}(h:Prt t u ks):bld t=true:=by
 cases h with
 |pair a _=>simp[TL.bld,(eE a).1,(eE a).2]
 |sign a _=>simp[TL.bld,(eE a).1,(eE a).2]
 |key a _=>rcases qI a with⟨c,b|b⟩<;>simp[TL.bld,c,b]
inductive Rt (P:T->Prop) (X:T->Prop):T->Prop where
 |mem {t:T}:X t->Rt P X t
 |pub {t:T}:P t->Rt P X t
 |bld {t:T}:bld t=true->(∀k∈t.kids,Rt P X k)->Rt P X t
theorem pG(k:Int) (n:ByteArray) (s:Int) (l:Lq):(T.mk k n s l).kind=k:=rfl
theorem pE(k:Int) (n:ByteArray) (s:Int) (l:Lq):(T.mk k n s l).name=n:=rfl
theorem Br(k:Int) (n:ByteArray) (s:Int) (l:Lq):(T.mk k n s l).kids=l:=rfl
theorem Ib{P K S X:T->Prop}(hSk:∀t,S t->∀k∈t.kids,S k) (hSp:∀t u ks,S t->Prt t u ks->∀k∈ks,S k)
  (hXS:∀t,X t->S t) (hK:∀t,K t->X t) (hP:∀t,S t->P t->X t) (hB:∀t,S t->bld t=true->(∀k∈t.kids,X k)->X t)
  (hO:∀t u ks,X t->Prt t u ks->(∀k∈ks,X k)->X u) (hPb:∀t,P t->bld t=false){t:T}(h:Dr P K t) (hS:S t):X t:=by
 have j:∀t,Rt P X t->S t->X t:=λt h=>by
  induction h with
  |mem h=>exact λ_=>h
  |pub h=>exact λb=>hP _ b h
  |bld c _ e=>exact λb=>hB _ b c λk a=>e k a (hSk _ b k a)
 have m:Rt P X t:=by
  clear hS;induction h with
  |ax h=>exact .mem (hK _ h)
  |pub h=>exact .pub h
  |bld c _ e=>exact .bld c λk a=>e k a
  |opn o d n f g=>
   rename_i t u ks;have:=Na d;cases f with
   |mem l=>exact .mem (hO _ _ _ l d λk a=>j k (g k a) (hSp _ _ _ (hXS _ l) d k a))
   |pub i=>rw[hPb _ i]at this;cases this
   |bld c a=>exact a u (Gb d)
 exact j t m hS
theorem Lo{P K K':T->Prop}{f:T->T}(hf:∀t:T,t.kind=3->f t=.mk 3 t.name t.sort (t.kids.map f)) (hK:∀t,K t->Dr P K' (f t)) (hP:∀t,P t->Dr P K' (f t)){t:T}(h:Dr P K t):Dr P K' (f t):=by
 have c:∀t n,iH t n=true->iH (f t) n=true:=λt n h=>by have:=eE h;rw[hf t this.1];simp[iH,pG,pE,this.2]
 have b:∀t:T,t.kind=3->(f t).kids=t.kids.map f:=λt h=>by rw[hf t h];rfl
 have g:∀t k,qp t=some k->qp (f t)=some (f k):=λt k h=>by
  have d:=(qI h).1;unfold qp at h ⊢;rw[b t d];by_cases j:iH t uA=true
  ·rw[if_pos j]at h;rw[if_pos (c _ _ j),bW,h];rfl
  rw[if_neg j]at h;have:¬iH (f t) uA=true:=by intro e;apply j;have:=eE e;rw[hf t d,pE]at this;simp[iH,d,this.2]
  rw[if_neg this];by_cases q:iH t oS=true
  ·rw[if_pos q]at h;rw[if_pos (c _ _ q),bW];cases l:t.kids[1]? with
   |none=>rw[l]at h;cases h
   |some p=>
    rw[l]at h;simp only[cN,bf]at h ⊢;by_cases o:iH p nPk=true
    ·rw[if_pos o]at h;rw[if_pos (c _ _ o),b p (eE o).1,bW,h];rfl
    rw[if_neg o]at h;cases h
  rw[if_neg q]at h;cases h
 have i:∀t u r,Prt t u r->Prt (f t) (f u) (r.map f):=λt u r h=>by
  cases h with
  |pair a m=>exact .pair (c _ _ a) (by rw[b t (eE a).1];exact kO m)
  |sign a m=>exact .sign (c _ _ a) (by rw[b t (eE a).1,bW,m];rfl)
  |key a m=>exact .key (g _ _ a) (by rw[b t (qI a).1,bW,m];rfl)
 induction h with
 |ax h=>exact hK _ h
 |pub h=>exact hP _ h
 |bld s _ A=>
  rename_i t _;have d:t.kind=3:=by have:=s;simp only[TL.bld,aq,decide_eq_true_eq]at this;exact this.1
  refine .bld (t:=f t) (by rw[hf t d,TL.bld,pG,pE];rw[TL.bld,d]at s;exact s) ?_;rw[b t d];intro k v;obtain⟨w,x,rfl⟩:=bA.1 v;exact A w x
 |opn _ l _ y z=>
  refine .opn y (i _ _ _ l) λk v=>?_
  obtain⟨w,x,rfl⟩:=bA.1 v;exact z w x
theorem pg(t:T):T.mk t.kind t.name t.sort t.kids=t:=by cases t;rfl
theorem qv{P K K':T->Prop}(hK:∀t,K t->Dr P K' t){t:T}(h:Dr P K t):Dr P K' t:=
 Lo (f:=id) (λt h=>by rw[List.map_id,<-h];exact(pg t).symm) hK (λ_ h=>.pub h) h
end TL
namespace Go.VZ
open Go Go.V Go.Proofs Tryz TL
def after(θ:T->T) (l:Lb):T->T:=λx=>nC θ (eK l x)
theorem mY{θ:T->T}{l:Lb}:∀t:T,nC (after θ l) t=nC θ (cE l t):=by
 refine T.ind λt b=>?_
 rw[fk];by_cases k:t.kind=1
 ·rw[if_pos k,vU k];rfl
 rw[if_neg k,oJ (t:=.mk t.kind t.name t.sort (t.kids.map (cE l))) k,oJ k];change _=T.mk t.kind t.name t.sort ((t.kids.map (cE l)).map (nC θ));rw[iK];congr 1
 exact fP λa c=>b a c
structure Dm where
 knows:Lq
 term:T
def Sol(P:T->Prop) (θ:T->T) (l:List Dm):Prop:=∀d∈l,Dr P (λt=>∃k∈d.knows,t=nC θ k) (nC θ d.term)
def iR(s:Lb) (d:Dm):Dm:=⟨d.knows.map (cE s),cE s d.term⟩
theorem NO{P:T->Prop}{θ:T->T}{s:Lb}{l:List Dm}(h:Sol P θ (l.map (iR s))):Sol P (after θ s) l:=λd b=>by have:=h _ (kO b);rw[mY];refine qv (λt c=>?_) this;obtain⟨k,e,rfl⟩:=c;obtain⟨a,f,rfl⟩:=bA.1 e;exact .ax ⟨a,f,(mY a).symm⟩
theorem MS{t:T}(h:bld t=true):t.kind=3:=by simp only[TL.bld,aq,decide_eq_true_eq]at h;exact h.1
theorem PQ{θ:T->T}{t:T}(h:bld t=true):bld (nC θ t)=true/\(nC θ t).kids=t.kids.map (nC θ):=by have k:=MS h;rw[oJ o_];exact⟨by rw[TL.bld]at h ⊢;exact h,rfl⟩
theorem Hr{P:T->Prop}{θ:T->T}{pre post:List Dm}{d:Dm}(hb:bld d.term=true) (h:Sol P θ (pre++(d.term.kids.map (Dm.mk d.knows)++post))):Sol P θ (pre++d::post):=λe c=>by
 rcases aZ.1 c with c|c
 ·exact h e (dP _ c)
 rcases ak.1 c with rfl|c
 ·have⟨a,b⟩:=PQ (θ:=θ) hb;refine .bld a λk f=>?_
  rw[b]at f;obtain⟨g,i,rfl⟩:=bA.1 f;exact h ⟨e.knows,g⟩ (dw _ (dP _ (kO i)))
 exact h e (dw _ (dw _ c))
mutual
def Cd(θ:T->T) (z:Lb):T->T
 |.mk k n s l=>match z.find? λb=>decide (b.2.cmp (.mk k n s l)=0)with
  |some b=>θ b.1
  |none=>if k=3 then .mk 3 n s (GO θ z l)else .mk k n s l
def GO(θ:T->T) (z:Lb):Lq->Lq
 |[]=>[]
 |t::l=>Cd θ z t::GO θ z l
end
theorem AW(θ:T->T) (z:Lb):∀l,GO θ z l=l.map (Cd θ z)
 |[]=>rfl
 |t::l=>by rw[GO,AW θ z l];rfl
theorem uW(θ:T->T) (z:Lb) (t:T):Cd θ z t=match z.find? λb=>decide (b.2.cmp t=0)with
  |some b=>θ b.1
  |none=>if t.kind=3 then .mk 3 t.name t.sort (t.kids.map (Cd θ z))else t:=by cases t;rw[Cd,AW];rfl
def A6(z:Lb) (t:T):Prop:=∀y∈cU bS t,y.kind=1/\y.kids=[]/\(∃b∈z,b.1=y)\/y.kind=2/\y.kids=[]/\(∀b∈z,b.2≠y)\/y.kind=3
def N9(z:Lb):Prop:=(∀b∈z,b.2.kind=2)/\z.Pairwise λb c=>b.2≠c.2
theorem sc{z:Lb}{t:T}(h:∀b∈z,b.2≠t):z.find? (λb=>decide (b.2.cmp t=0))=none:=by rw[List.find?_eq_none];intro b a e;exact h b a (cmp_zero.1 (by simpa using e))
theorem Cc:∀ {z:Lb}{v:T},N9 z->(∃b∈z,b.1=v)->∃b,z.find? (λb=>decide (b.2.cmp (eK z v)=0))=some b/\b.1=v
 |[],v,_,⟨b,hb,_⟩=>by simp at hb
 |c::z,v,hz,hv=>by
  have⟨hk,hp⟩:=hz;rw[cI]at hp;rw[eK];by_cases e:c.1.cmp v=0
  ·rw[if_pos e];exact⟨c,by rw[List.find?_cons_of_pos];simp[cmp_zero],cmp_zero.1 e⟩
  rw[if_neg e];have a:∃b∈z,b.1=v:=by
   have⟨b,hb,h⟩:=hv;rcases ak.1 hb with rfl|hb
   ·exact absurd (cmp_zero.2 h) e
   exact⟨b,hb,h⟩
  have⟨b,d,hb⟩:=Cc (z:=z) ⟨λb hb=>hk b (be _ hb),hp.2⟩ a;refine⟨b,?_,hb⟩;rw[List.find?_cons_of_neg,d];have f:=List.mem_of_find?_eq_some d;have g:=List.find?_some d;have i:b.2=eK z v:=cmp_zero.1 (by simpa using g);have:=hp.1 b f;simp only[decide_eq_true_eq,cmp_zero];rw[<-i];exact this
theorem yB{θ:T->T}{z:Lb}(hz:N9 z):∀t:T,A6 z t->Cd θ z (cE z t)=nC θ t:=by
 refine T.ind λt h f=>?_
 rcases f t (eU t)with⟨k,d,c⟩|⟨k,d,c⟩|k
 ·rw[fk,if_pos k,vU k,uW];have⟨b,i,e⟩:=Cc hz c;rw[i,<-e]
 ·rw[fk,if_neg o_,oJ o_,d,au,au];have:T.mk t.kind t.name t.sort []=t:=by rw[<-d];exact pg t
  rw[this,uW,sc c];dsimp only;rw[if_neg o_]
 rw[fk,if_neg o_,oJ o_,uW,sc (λb c e=>by have:=hz.1 b c;rw[e,pG]at this;omega)];dsimp only;rw[pG,if_pos k,pE,Br,iK,k];congr 1
 exact fP λa g=>h a g λy j=>f y (mem_walk.2 (.inr ⟨a,g,j⟩))
theorem KG{P:T->Prop}{θ:T->T}{z:Lb}{pre post:List Dm}{d:Dm}(hz:N9 z) (hP:∀t,P t->t.kind=2\/t.kind=3/\t.kids=[]) (hPz:∀b∈z,¬P b.2)
  (hk:∀e∈pre,∀k∈e.knows,k∈d.knows) (ho:∀k∈d.knows,A6 z k) (hoe:∀e∈pre,A6 z e.term) (hot:A6 z d.term)
  (hd:Dr P (λt=>∃k,(k∈d.knows\/∃e∈pre,k=e.term)/\t=cE z k) (cE z d.term)) (h:Sol P θ (pre++post)):Sol P θ (pre++d::post):=λe g=>by
 rcases aZ.1 g with g|g
 ·exact h e (dP _ g)
 rcases ak.1 g with rfl|g
 ·rw[<-yB hz _ hot];refine Lo (f:=Cd θ z) (λt a=>?_) (λt a=>?_) (λt a=>?_) hd
  ·rw[uW,sc (λb j e=>by have:=hz.1 b j;rw[e]at this;omega)];dsimp only;rw[if_pos a]
  ·obtain⟨k,c|⟨l,i,rfl⟩,rfl⟩:=a
   ·rw[yB hz _ (ho k c)];exact .ax ⟨k,c,rfl⟩
   rw[yB hz _ (hoe l i)];refine qv (λt a=>?_) (h l (dP _ i));obtain⟨k,c,rfl⟩:=a;exact .ax ⟨k,hk l i k c,rfl⟩
  have n:∀b∈z,b.2≠t:=λb j e=>hPz b j (by rw[e];exact a)
  have:Cd θ z t=t:=by
   rw[uW,sc n];dsimp only;rcases hP t a with k|⟨k,m⟩
   ·rw[if_neg o_]
   rw[if_pos k,m,au,<-k,<-m];exact pg t
  rw[this];exact .pub a
 exact h e (dw _ g)
theorem NP{P:T->Prop}{θ:T->T}{l:List Dm}(hs:∀d∈l,d.term.kind=1) (h:∀d∈l,P (θ d.term)):Sol P θ l:=λd a=>by rw[vU (hs d a)];exact .pub (h d a)
def C7:ByteArray:=⟨#[122,101,114,111]⟩
def Kq:ByteArray:=⟨#[111,110,101]⟩
def zw(n:ByteArray):Bool:=decide (3<=n.size)&&decide (n.data.toList.take 2=[101,35])&&(n.data.toList.drop 2).all λc=>decide (48<=c)&&decide (c<=57)
def pf(t:T):Bool:=
 if t.kind=3 then(decide (t.name=C7)||decide (t.name=Kq))&&decide (t.kids.length=0)
 else if t.kind=2 then decide (t.sort=1)||decide (t.sort=5)||(decide (t.name=⟨#[103]⟩)&&decide (t.sort=4))||((decide (t.sort=2)||decide (t.sort=3)||decide (t.sort=4)||decide (t.sort=0))&&zw t.name)
 else false
theorem KX{t:T}(h:pf t=true):t.kind=2\/t.kind=3/\t.kids=[]:=by
 unfold pf at h;split at h
 ·rename_i k;simp only[aq,decide_eq_true_eq]at h;exact .inr ⟨k,List.length_eq_zero_iff.1 h.2⟩
 split at h
 ·rename_i k;exact .inl k
 cases h
theorem NY{t:T}(h:pf t=true):bld t=false:=by
 unfold pf at h;split at h
 ·simp only[aq,bZ,decide_eq_true_eq]at h;rw[TL.bld];rcases h.1 with e|e<;>rw[e]<;>simp[qF,uA,oS,nPk,oR,C9,C7,Kq]
 rename_i k;rw[TL.bld];simp[k]
def yi(u:Lq) (kn:List Bool) (t:T):Prop:=∃j:Nat,u[j]?=some t/\kn[j]?=some true
def Do(u:Lq) (kn:List Bool) (t:T):Prop:=(pf t=true->yi u kn t)/\(bld t=true->(∀k∈t.kids,yi u kn k)->yi u kn t)/\(yi u kn t->∀v ks,Prt t v ks->(∀k∈ks,yi u kn k)->yi u kn v)
theorem DK{t k:T}(h:qp t=some k):k∈t.kids\/∃p∈t.kids,k∈p.kids:=by
 unfold qp at h;split at h
 ·exact .inl (aW h)
 split at h
 ·cases a:t.kids[1]? with
  |none=>rw[a]at h;cases h
  |some p=>
   rw[a]at h;simp only[cN]at h;split at h
   ·exact .inr ⟨p,aW a,aW h⟩
   cases h
 cases h
theorem Ih{K:T->Prop}{u:Lq}{kn:List Bool}(hu:∀t∈u,∀k∈t.kids,k∈u) (hK:∀t,K t->yi u kn t) (hc:∀t∈u,Do u kn t){t:T}(h:Dr (λt=>pf t=true) K t) (ht:t∈u):yi u kn t:=
 Ib (S:=λt=>t∈u) (X:=yi u kn) (λt ht k b=>hu t ht k b)
  (λt v e ht c k b=>by
   cases c with
   |pair _ _=>simp at b
   |sign _ _=>simp at b
   |key a _=>
    simp only[bL]at b;subst b;rcases DK a with h|⟨p,c,h⟩
    ·exact hu t ht _ h
    exact hu p (hu t ht p c) _ h)
  (λt ⟨j,d,_⟩=>aW d) hK (λt ht c=>(hc t ht).1 c) (λt ht f b=>(hc t ht).2.1 f b)
  (λt v e ht c b=>(hc t (by have⟨j,d,_⟩:=ht;exact aW d)).2.2 ht v e c b) (λt=>NY) h ht
def inS(s:Lb) (v:T):Bool:=s.any λc=>decide (c.1.cmp v=0)
def vL(s u:Lb):Lb:=(s.map λb=>(b.1,cE u b.2))++u.filter λb=>!inS s b.1
def kV(s u:Lb):Lb:=(vL s u).foldl mG []
theorem inS_iff{s:Lb}{v:T}:inS s v=true↔v∈s.map (·.1):=by simp only[inS,mb,decide_eq_true_eq,bA];exact⟨λ⟨c,a,e⟩=>⟨c,a,cmp_zero.1 e⟩,λ⟨c,a,e⟩=>⟨c,a,cmp_zero.2 e⟩⟩
theorem Iq{l:Lb}{v:T}(h:v∉l.map (·.1)):eK l v=v:=by
 induction l with
 |nil=>rfl
 |cons a l b=>simp only[aS,ak,not_or]at h;rw[eK,if_neg (λe=>h.1 (cmp_zero.1 e).symm),b h.2]
theorem LR(l m:Lb) (v:T):eK (l++m) v=if inS l v=true then eK l v else eK m v:=by
 induction l with
 |nil=>simp[inS]
 |cons a l b=>
  rw[cP,eK,eK];by_cases e:a.1.cmp v=0
  ·rw[if_pos e,if_pos (by simp[inS,e]),if_pos e]
  rw[if_neg e,if_neg e,b];have:inS (a::l) v=inS l v:=by simp[inS,e]
  rw[this]
theorem DT(u:Lb):∀(s:Lb) (v:T),inS s v=true->eK (s.map λb=>(b.1,cE u b.2)) v=cE u (eK s v)
 |[],v,h=>by simp[inS]at h
 |a::s,v,h=>by
  rw[aS,eK,eK];by_cases e:a.1.cmp v=0
  ·rw[if_pos e,if_pos e]
  rw[if_neg e,if_neg e];exact DT u s v (by simpa[inS,e]using h)
theorem wI{s:Lb}:∀(u:Lb) (v:T),inS s v=false->eK (u.filter λb=>!inS s b.1) v=eK u v
 |[],_,_=>rfl
 |a::u,v,h=>by
  by_cases e:a.1.cmp v=0
  ·have e':=cmp_zero.1 e;rw[iz (by rw[e',h];rfl),eK,eK,if_pos e,if_pos e]
  rw[eK,if_neg e];by_cases q:(!inS s a.1)=true
  ·rw[iz (p:=λb:T × T=>!inS s b.1) q,eK,if_neg e,wI u v h]
  rw[lG (p:=λb:T × T=>!inS s b.1) q,wI u v h]
theorem wx{s u:Lb}(hs:(s.map (·.1)).Nodup) (hu:(u.map (·.1)).Nodup):((vL s u).map (·.1)).Nodup:=by rw[vL,bY,List.nodup_append];refine⟨by rw[iK];exact hs,hu.sublist ((nY).map _),?_⟩;intro a f b g e;subst e;rw[iK]at f;obtain⟨c,d,rfl⟩:=bA.1 g;rw[bm]at d;have:inS s c.1=true:=inS_iff.2 f;rw[this]at d;simp at d
theorem LQ{s u:Lb}(hs:(s.map (·.1)).Nodup) (hu:(u.map (·.1)).Nodup){v:T}(hv:v.kind=1):eK (kV s u) v=cE u (eK s v):=by
 rw[kV,FK (wx hs hu),vL,LR];have a:inS (s.map λb=>(b.1,cE u b.2)) v=inS s v:=by simp[inS,List.any_map,Function.comp_def]
 rw[a];by_cases h:inS s v=true
 ·rw[if_pos h,DT u s v h]
 rw[if_neg h,wI u v (by simpa using h),Iq (λe=>h (inS_iff.2 e)),fk,if_pos hv]
theorem KV{s u:Lb}(hs:(s.map (·.1)).Nodup) (hu:(u.map (·.1)).Nodup):∀t:T,cE (kV s u) t=cE u (cE s t):=by
 refine T.ind λt b=>?_
 by_cases k:t.kind=1
 ·rw[fk,if_pos k,LQ hs hu k,fk s t,if_pos k]
 rw[fk,if_neg k,fk s t,if_neg k,fk u,pG,if_neg k,pE,Br,iK];congr 1
 exact fP λa c=>b a c
theorem KH{P:T->Prop}{θ:T->T}{s u:Lb}{l:List Dm}(hs:(s.map (·.1)).Nodup) (hu:(u.map (·.1)).Nodup) (h:Sol P (after (after θ u) s) l):Sol P (after θ (kV s u)) l:=by
 have e:∀t,nC (after θ (kV s u)) t=nC (after (after θ u) s) t:=λt=>by rw[mY,mY,mY,KV hs hu]
 intro d a;rw[e];refine qv (λt b=>?_) (h d a);obtain⟨k,c,rfl⟩:=b;exact .ax ⟨k,c,(e k).symm⟩
def nf(bad:ByteArray->Bool) (t:T):Prop:=∀y∈cU bS t,y.kind=3->bad y.name=false
theorem vt{bad:ByteArray->Bool}{t k:T}(h:nf bad t) (hk:k∈t.kids):nf bad k:=λy a=>h y (mem_walk.2 (.inr ⟨k,hk,a⟩))
theorem QC{bad:ByteArray->Bool}{t:T}{l:Lq}(h:nf bad t) (hl:∀k∈l,nf bad k):nf bad (.mk t.kind t.name t.sort l):=λy a=>by
 rcases mem_walk.1 a with rfl|⟨k,b,a⟩
 ·exact h t (eU t)
 exact hl k b y a
theorem Bi{bad:ByteArray->Bool}{x y:T}(hy:nf bad y):∀t:T,nf bad t->nf bad (jB x y t):=by
 refine T.ind λt b h=>?_
 rw[xb];split
 ·exact hy
 refine QC h λk c=>?_
 obtain⟨d,a,rfl⟩:=bA.1 c;exact b d a (vt h a)
theorem RI{bad:ByteArray->Bool}{u:Lb}(hu:∀b∈u,nf bad b.2){v:T}(hv:nf bad v):nf bad (eK u v):=by
 rcases yk u v with e|⟨b,a,_,e⟩
 ·rw[e];exact hv
 rw[e];exact hu b a
theorem vr{bad:ByteArray->Bool}{u:Lb}(hu:∀b∈u,nf bad b.2):∀t:T,nf bad t->nf bad (cE u t):=by
 refine T.ind λt c h=>?_
 rw[fk];split
 ·exact RI hu h
 refine QC h λk d=>?_
 obtain⟨e,a,rfl⟩:=bA.1 d;exact c e a (vt h a)
theorem Nj{bad:ByteArray->Bool}{s u:Lb}(hs:∀b∈s,nf bad b.2) (hu:∀b∈u,nf bad b.2):∀b∈kV s u,nf bad b.2:=λb a=>by
 have:=(mS (vL s u) []).mem_iff.1 a;rw[bz,bm,vL,aZ]at this;rcases this.1 with h|h
 ·obtain⟨c,d,rfl⟩:=bA.1 h;exact vr hu _ (hs c d)
 exact hu b (bm.1 h).1
theorem Fu{a b x y:T}(h:kG a b=.ok x y):y=a\/y=b:=by
 have d:∀u v:T,FN u v=.ok x y->y=v:=λu v c=>by
  unfold FN at c;split at c
  ·cases c
  split at c
  ·cases c
  simp only[Ch.ok.injEq]at c;exact c.2.symm
 unfold kG at h;split at h
 ·split at h
  ·split at h
   ·simp only[Ch.ok.injEq]at h;exact .inl h.2.symm
   split at h
   ·cases h
   simp only[Ch.ok.injEq]at h;exact .inr h.2.symm
  exact .inr (d a b h)
 split at h
 ·exact .inl (d b a h)
 cases h
theorem BU{bad:ByteArray->Bool}{ins:T × T->Lb->Lb}(hins:∀b s c,c∈ins b s->c=b\/c∈s):∀(n:Nat) (ps s r:Lb) (e:Int),(∀p∈ps,nf bad p.1/\nf bad p.2)->(∀b∈s,nf bad b.2)->jY ins n ps s=some (r,e)->∀b∈r,nf bad b.2
 |n,[],s,r,e,_,hs,h=>by simp only[jY,aA,aD]at h;obtain⟨rfl,_⟩:=h;exact hs
 |0,_::_,s,r,e,_,_,h=>by simp[jY]at h
 |n+1,(a,b)::ps,s,r,e,hp,hs,h=>by
  have f:=hp (a,b) (cJ);have g:∀p∈ps,nf bad p.1/\nf bad p.2:=λp d=>hp p (be _ d)
  rw[jY]at h;by_cases m:a.cmp b=0
  ·rw[if_pos m]at h;exact BU hins n ps s r e g hs h
  rw[if_neg m]at h;by_cases o:iy a b=true
  ·rw[if_pos o]at h;refine BU hins n _ s r e (λp d=>?_) hs h;rcases aZ.1 d with d|d
   ·have:=dh d;exact⟨vt f.1 this.1,vt f.2 this.2⟩
   exact g p d
  rw[if_neg o]at h;cases k:kG a b with
  |bad u=>rw[k]at h;simp only[aA,aD]at h;obtain⟨rfl,_⟩:=h;intro b l;simp at l
  |ok x y=>
   rw[k]at h;dsimp only at h;have i:nf bad y:=by
    rcases Fu k with rfl|rfl
    ·exact f.1
    exact f.2
   by_cases t:okU x y ps s=true
   ·rw[if_pos t]at h;refine BU hins n _ _ r e (λp d=>?_) (λc d=>?_) h
    ·obtain⟨q,j,rfl⟩:=bA.1 d;exact⟨Bi i _ (g q j).1,Bi i _ (g q j).2⟩
    rcases hins _ _ _ d with rfl|d
    ·exact i
    obtain⟨q,j,rfl⟩:=bA.1 d;exact Bi i _ (hs q j)
   rw[if_neg t]at h;simp only[aA,aD]at h;obtain⟨rfl,_⟩:=h;intro b l;simp at l
structure Sy where
 name:ByteArray
 least:Int
 most:Int
 kind:Int
def RK:ByteArray:=⟨#[120,111,114]⟩
def RN:ByteArray:=⟨#[101,120,112]⟩
def RL:ByteArray:=⟨#[109,117,108]⟩
def RM:ByteArray:=⟨#[105,110,118]⟩
def nSk:ByteArray:=⟨#[115,107]⟩
def XJ:ByteArray:=⟨#[115,104,107]⟩
def C8:ByteArray:=⟨#[110,101,119]⟩
def XK:ByteArray:=⟨#[102,115,116]⟩
def XI:ByteArray:=⟨#[115,110,100]⟩
def XL:ByteArray:=⟨#[100,101,99]⟩
def UJ:ByteArray:=⟨#[97,100,101,99]⟩
def UI:ByteArray:=⟨#[111,112,101,110]⟩
def UH:ByteArray:=⟨#[114,101,97,100]⟩
def syms:List Sy:=[⟨qF,2,2,1⟩,⟨uA,2,2,1⟩,⟨oS,2,2,1⟩,⟨nPk,1,1,1⟩,⟨oR,2,2,1⟩,⟨C9,1,1,1⟩,⟨RK,2,8,1⟩,⟨C7,0,0,1⟩,⟨RN,2,2,1⟩,⟨RL,2,8,1⟩,⟨RM,1,1,1⟩,⟨Kq,0,0,1⟩,⟨nSk,1,1,2⟩,⟨XJ,2,2,2⟩,⟨C8,1,8,2⟩,⟨XK,1,1,3⟩,⟨XI,1,1,3⟩,⟨XL,2,2,3⟩,⟨UJ,2,2,3⟩,⟨UI,2,2,3⟩,⟨UH,1,1,3⟩]
def uY(n:ByteArray):Option Sy:=syms.find? λs=>decide (s.name=n)
def rf(n:ByteArray):Int:=((uY n).map Sy.kind).getD 0
def nU(t:T):Bool:=match uY t.name with
 |some s=>decide (s.least<=(t.kids.length:Int))&&decide ((t.kids.length:Int)<=s.most)
 |none=>false
def pT(t:T):Bool:=if t.name=C8 then decide (((t.kids[0]?).map T.kind).getD 0=2)else t.kids.all λk=>decide (k.kind≠3)&&decide (k.sort=1)
mutual
def gh:T->Int
 |.mk k n s l=>if k≠3 then 0 else if rf n=0 then 10 else if nU (.mk k n s l)=false then 6 else if rf n=2/\pT (.mk k n s l)=false then 10 else jk l
def jk:Lq->Int
 |[]=>0
 |t::l=>thn (gh t) (jk l)
end
theorem Ao(t:T):gh t=if t.kind≠3 then 0 else if rf t.name=0 then 10 else if nU t=false then 6 else if rf t.name=2/\pT t=false then 10 else jk t.kids:=by cases t;rw[gh];rfl
def dW(t:T):Int:=thn (bc t) (gh t)
def ED(n:ByteArray):Bool:=decide (n=RK)||decide (n=C7)||decide (n=RN)||decide (n=RL)||decide (n=RM)||decide (n=Kq)
def gF(n:ByteArray):Bool:=ED n||decide (rf n=3)
def tg(t:T):Bool:=decide (dW t=0)&&(cU bS t).all λy=>!(decide (y.kind=3)&&gF y.name)
theorem OB{t:T}(h:tg t=true):dW t=0/\nf gF t:=by simp only[tg,aq,decide_eq_true_eq,bM,bq,jh,decide_eq_false_iff_not]at h;exact⟨h.1,λy a k=>by exact(h.2 y a).elim (λe=>absurd k e) id⟩
def eM(t:T):Int:=if dW t≠0 then dW t else if((fI t).any λv=>decide (v.sort=1)||decide (v.sort=5))=true then 10 else if tg t=false then 10 else if 60<t.size then 3 else 0
def oP:Lq->Int
 |[]=>0
 |t::l=>if eM t≠0 then eM t else oP l
def kz(d:Dm):Int:=if 40<d.knows.length then 3 else if oP d.knows≠0 then oP d.knows else eM d.term
def oi(l:Lq) (t:T):Bool:=l.any λu=>decide (u.cmp t=0)
theorem yc{l:Lq}{t:T}:oi l t=true↔t∈l:=by simp only[oi,mb,decide_eq_true_eq];exact⟨λ⟨u,a,e⟩=>cmp_zero.1 e▸a,λh=>⟨t,h,cmp_zero.2 rfl⟩⟩
def lR(prev bound:Lq) (d:Dm):Int:=if kz d≠0 then kz d else if(prev.all (oi d.knows))=false then 9 else if((cR d.knows).all (oi bound))=false then 13 else 0
def lL:Lq->Lq->List Dm->Int
 |_,_,[]=>0
 |prev,bound,d::l=>if lR prev bound d≠0 then lR prev bound d else lL d.knows (bound++fI d.term) l
def bp(l:List Dm):Int:=if 40<l.length then 3 else lL [] [] l
theorem jJ{t:T}(h:eM t=0):dW t=0/\(∀v∈fI t,v.sort≠1/\v.sort≠5)/\nf gF t/\t.size<=60:=by
 unfold eM at h;split at h
 ·rename_i e;exact absurd h e
 rename_i e;split at h
 ·cases h
 rename_i a;split at h
 ·cases h
 rename_i b;split at h
 ·cases h
 rename_i d;refine⟨Decidable.not_not.1 e,λv c=>?_,(OB (by simpa using b)).2,o_⟩;simp only[mb,bZ,decide_eq_true_eq,not_exists,not_and,not_or]at a;exact a v c
theorem we:∀ {l:Lq},oP l=0->∀t∈l,eM t=0
 |[],_,t,ht=>by simp at ht
 |a::l,h,t,ht=>by
  rw[oP]at h;split at h
  ·rename_i e;exact absurd h e
  rename_i e;rcases ak.1 ht with rfl|ht
  ·exact Decidable.not_not.1 e
  exact we h t ht
theorem oQ{d:Dm}(h:kz d=0):d.knows.length<=40/\(∀t∈d.knows,eM t=0)/\eM d.term=0:=by
 unfold kz at h;split at h
 ·cases h
 rename_i e;split at h
 ·rename_i a;exact absurd h a
 rename_i a;exact⟨o_,we (Decidable.not_not.1 a),h⟩
theorem Hm{prev bound:Lq}{d:Dm}(h:lR prev bound d=0):kz d=0/\(∀k∈prev,k∈d.knows)/\∀v∈cR d.knows,v∈bound:=by
 unfold lR at h;split at h
 ·rename_i e;exact absurd h e
 rename_i e;split at h
 ·cases h
 rename_i a;split at h
 ·cases h
 rename_i b;simp only[gK,bM,yc]at a b;exact⟨Decidable.not_not.1 e,a,b⟩
theorem tV:∀ {l:List Dm}{prev bound:Lq},lL prev bound l=0->∀pre d post,l=pre++d::post->kz d=0/\(∀k∈prev,k∈d.knows)/\∀e∈pre,∀k∈e.knows,k∈d.knows
 |[],_,_,_,pre,d,post,e=>by simp at e
 |a::l,prev,bound,h,pre,d,post,e=>by
  rw[lL]at h;split at h
  ·rename_i e1;exact absurd h e1
  rename_i e1;have hs:=Hm (Decidable.not_not.1 e1);cases pre with
  |nil=>simp only[bz,cH]at e;obtain⟨rfl,rfl⟩:=e;exact⟨hs.1,hs.2.1,s_⟩
  |cons b pre=>
   simp only[cP,cH]at e;obtain⟨rfl,rfl⟩:=e;have c:=tV h pre d post rfl;refine⟨c.1,λk f=>c.2.1 k (hs.2.1 k f),λx g k f=>?_⟩;rcases ak.1 g with rfl|g
   ·exact c.2.1 k f
   exact c.2.2 x g k f
theorem nZ{l:List Dm}(h:bp l=0):l.length<=40/\∀pre d post,l=pre++d::post->kz d=0/\∀e∈pre,∀k∈e.knows,k∈d.knows:=by
 unfold bp at h;split at h
 ·cases h
 exact⟨o_,λpre d post e=>by have:=tV h pre d post e;exact⟨this.1,this.2.2⟩⟩
theorem rW{l:List Dm}(h:bp l=0){d:Dm}(hd:d∈l):kz d=0:=by have⟨b,a,e⟩:=List.append_of_mem hd;exact((nZ h).2 b d a e).1
def bE(l:List Dm):Lq:=l.flatMap λd=>d.knows++[d.term]
theorem pV{l:List Dm}(h:bp l=0):∀t∈bE l,eM t=0:=λt a=>by
 have⟨d,b,a⟩:=bh.1 a;have:=oQ (rW h b);rcases aZ.1 a with a|a
 ·exact this.2.1 t a
 rw[bL.1 a];exact this.2.2
end Go.VZ
namespace Go.V
open Go
theorem Pc(a b:ByteArray):(a==b)=decide (a=b):=by
 cases a with|mk a=>cases b with|mk b=>
 show(a==b)=_;rw[eZ];simp
mutual
theorem AV.same_refl:∀a:AV,AV.same a a=true
 |.bool b=>by simp[AV.same]
 |.int k n=>by simp[AV.same]
 |.str s=>by simp[AV.same]
 |.nilptr=>rfl
 |.ptr a b=>by simp[AV.same]
 |.iptr e o=>by simp[AV.same,AV.same_refl e]
 |.isl es x=>by simp[AV.same,AV.sames_refl es]
 |.msl a b c d e=>by simp[AV.same]
 |.nilmap=>rfl
 |.nilFunc=>rfl
 |.func f cs=>by simp[AV.same,AV.sames_refl cs]
 |.nilIface=>rfl
 |.iface t v=>by simp[AV.same,AV.same_refl v]
 |.agg cs=>by simp[AV.same,AV.sames_refl cs]
 |.tuple cs=>by simp[AV.same,AV.sames_refl cs]
 |.yield i=>by simp[AV.same]
 |.mp i=>by simp[AV.same]
theorem AV.sames_refl:∀l:LA,AV.sames l l=true
 |[]=>rfl
 |a::l=>by simp[AV.sames,AV.same_refl a,AV.sames_refl l]
end
theorem Gi:∀h g:H,nlB h (h++g)=true
 |[],g=>by cases g<;>rfl
 |o::h,g=>by have:=Gi h g;cases o<;>simp[nlB,AV.sames_refl,this]
theorem tf:∀(h:H) (j:Nat),(bi h)[j]?=(match h[j]? with|some (.cells cs .live)=>some (.cells cs .frozen)|x=>x)
 |[],j=>by simp[bi]
 |o::h,0=>by
  cases o with
  |cells cs st=>cases st<;>rfl
  |_=>rfl
 |o::h,j+1=>by
  have:=tf h j;cases o with
  |cells cs st=>cases st<;>simpa[bi]using this
  |_=>simpa[bi]using this
theorem DW(h g:H):freeze (h++g) (news h (h++g))=h++bi g:=by
 apply cV;intro j;rw[mw];by_cases c:j<h.length
 ·have a:j∉news h (h++g):=by simp[news,List.mem_range'_1];omega
  rw[aM c,aM c];cases e:h[j]? with
  |none=>rfl
  |some o=>cases o with
   |cells d b=>cases b<;>simp[a]
   |_=>rfl
 rw[aY o_,aY o_,tf];cases e:g[j-h.length]? with
 |none=>rfl
 |some o=>
  have f:=(aB.1 e).1;have a:j∈news h (h++g):=by simp[news,List.mem_range'_1];omega
  cases o with
  |cells d b=>cases b<;>simp[a]
  |_=>rfl
end Go.V
namespace Go.VZ
open Go Go.V Go.Proofs Tryz TL
theorem Oq{f:FuncId}{args:LA}{h g:H}{r v:AV}(hb:fA C.P f=true) (hm:C.mode f=.openF) (hc:Go.V.Call C f args h=some (r,h++g)) (hs:gE (h++bi g) dH r=some v):az C h (.func f []) (some args)=some (v,h++bi g):=by simp only[az,hb,if_true,cC];unfold dJ;rw[hm];dsimp only;rw[hc];simp only[Gi,if_true,DW,hs]
def Pre(h0 h:H):Prop:=∃g,h=h0++g
theorem Pre.refl(h:H):Pre h h:=⟨[],s_⟩
theorem Pre.app{h0 h:H}(p:Pre h0 h) (g:H):Pre h0 (h++g):=by obtain⟨a,rfl⟩:=p;exact⟨a++g,s_⟩
theorem Pre.set{h0 h:H}(p:Pre h0 h){i:Nat}(hi:h0.length<=i) (o:VObj):Pre h0 (h.set i o):=by obtain⟨a,rfl⟩:=p;exact⟨a.set (i-h0.length) o,by rw[nP];simp[show ¬i<h0.length by omega]⟩
theorem Pre.get{h0 h:H}(p:Pre h0 h){j:Nat}{o:VObj}(e:h0[j]?=some o):h[j]?=some o:=by obtain⟨a,rfl⟩:=p;exact ga e
theorem Pre.trans{a b c:H}(p:Pre a b) (q:Pre b c):Pre a c:=by obtain⟨g,rfl⟩:=p;obtain⟨k,rfl⟩:=q;exact⟨g++k,s_⟩
theorem Pre.len{h0 h:H}(p:Pre h0 h):h0.length<=h.length:=by obtain⟨a,rfl⟩:=p;simp
theorem NW:dA prog program=some prog:=rfl
theorem KT{t:TypeId}{d:TypeDesc}(h:prog.underlying t=some d):dA prog (underlying t)=some d:=by unfold underlying;rw[iC,NW,cN,h];rfl
end Go.VZ
namespace Go.VZ
open Go Go.V Go.Proofs Tryz TL
def Vu(l:Lq) (x:T) (m:Nat) (st:PT) (h:H):Prop:=∃k:Nat,m=l.length-k/\k<=l.length/\h[0]?=some (.cells (enc x).cells .live)/\st.get 0=aQ l/\st.get 3=.ptr 0 0/\st.get 5=.int .i64 k/\decide (x∈l)=decide (x∈l.drop k)
theorem gH{h:H}{i:Nat}{t:T}(hi:h[i]?=some (.cells (enc t).cells .live)):aX C.P h 39 (.ptr i 0)=some (enc t):=yg t hi
theorem LO(l:Lq) (x:T) (hs:∀t∈l,t.size<4000000) (hx:x.size<4000000) (hl:l.length<4000000):ay C 66 [aQ l,enc x]=some (.bool (decide (x∈l))):=by
 refine bD func66 rfl λR v=>?_
 have fin:∀(g:PT) (h:H) (e:Bool),g.get 4=.bool e->decide (x∈l)=e->R .ret g h:=λg h e w j=>v ⟨.bool e,by simp[ag,cG,f66,w],by rw[j];exact aL rfl rfl⟩
 have c:=fK l;simp[go_sem,nA];rw[<-bB];refine bR (Vu l x) l.length ⟨0,rfl,aO _,rfl,g_,g_,g_,rfl⟩ ?_;rintro m g h ⟨k,rfl,z,q,n,r,o,d⟩;have s:=gH q;by_cases a:k<l.length
 ·have b:(k:Int)<l.length:=o_;have f:=fL l k a;have y:=wS k o_;have u:=lg l[k] x (hs _ (aG a)) hx;rw[aH a]at d;by_cases i:l[k].cmp x=0
  ·have j:=cmp_zero.1 i;simp[go_sem,n,r,o,c,b,f,iT,s,u,i];exact fin _ _ true g_ (by rw[d];simp[j])
  have p:¬x=l[k]:=λe=>i (cmp_zero.2 e.symm)
  simp[go_sem,n,r,o,c,b,f,iT,s,u,i,-Int.natCast_add,y];exact⟨l.length-(k+1),o_,k+1,rfl,a,q,g_,g_,g_,by rw[d];simp only[ak,p,false_or]⟩
 have:k=l.length:=o_;subst this;rw[aj]at d;simp[go_sem,n,o,c];exact fin _ _ false g_ (by rw[d];simp)
theorem IP(x t:T) (hx:x.size<4000000) (ht:t.size<4000000):ay C 361 [enc x,enc t]=some (.bool (occ x t)):=by
 refine bD func361 rfl λR c=>?_
 obtain⟨b,a⟩:∃g:H,g=two x t:=⟨_,rfl⟩
 have d:aX C.P b 39 (.ptr 0 0)=some (enc x):=by rw[a];exact rZ x t
 have e:aX C.P b 39 (.ptr 1 0)=some (enc t):=by rw[a];exact rY x t
 have f:=vQ t ht;have j:=kB bS jI t;have i:∀h,az C h (.func 66 []) (some [aQ (cU bS t),enc x])=some (.bool (occ x t),h):=λh=>ah (args':=[aQ (cU bS t),enc x]) (by rw[bJ];rfl) (by simp[aw];rfl) s_ (LO _ x (qS qa t ht) hx o_)
 unfold two at a;simp[go_sem,nA];rw[<-a];simp[go_sem,d,e,f,i];refine c ⟨.bool (occ x t),by simp[ag,cG,f361,go_sem],aL rfl rfl⟩
theorem HC(x t:T) (hx:x.size<4000000) (ht:t.size<4000000) (h:H):az C h (.func 361 []) (some [enc x,enc t])=some (.bool (occ x t),h):=ah (kU _ _) (by simp[aw]) s_ (IP x t hx ht)
theorem IA{x y:T}(n:Nat) (hy:y.size<=n) (h0:0<n) (t:T):(jB x y t).size<=n*t.size:=by
 induction t using T.ind with
 |_ t c=>
  have d:=size_kids t;rw[xb];split
  ·have:=size_pos t;exact cM hy (Nat.le_mul_of_pos_right _ this)
  rw[size_kids];show sizes (t.kids.map (jB x y))+1<=_;have:∀m:Lq,(∀k∈m,(jB x y k).size<=n*k.size)->sizes (m.map (jB x y))<=n*sizes m:=by
   intro m;induction m with
   |nil=>intro _;simp[sizes]
   |cons a m e=>
    intro b;have g:=b a s_;have h:=e λk f=>b k (by simp[f])
    simp only[aS,sizes,pU];omega
  have:=this t.kids c;rw[d,pU];omega
def Vv(x y t:T) (m:Nat) (st:PT) (h:H):Prop:=∃(k:Nat) (v:AV),m=t.kids.length-k/\k<=t.kids.length/\h[0]?=some (.cells (enc t).cells .live)/\h[1]?=some (.cells (enc x).cells .live)/\h[2]?=some (.cells (enc y).cells .live)/\h[3]?=some (.cells zc .live) /\
 st.get 3=.ptr 0 0/\st.get 4=.ptr 1 0/\st.get 5=.ptr 2 0/\st.get 6=.ptr 3 0/\st.get 7=v/\st.get 8=.int .i64 k/\OwnR 39 h v (((t.kids.take k).map (jB x y)).map enc)
theorem oY(a b c:T):mz [enc a,enc b,enc c]=some [enc a,enc b,enc c]:=by rw[bJ a,bJ b,bJ c];rfl
theorem tu{h:H}{i:Nat}(t:T) (hi:h[i]?=some (.cells zc .live)):cr C.P h 39 (.ptr i 0) (enc t)=some (h.set i (.cells (enc t).cells .live)):=Qt t hi
theorem Q4(x y t:T) (hx:x.size<4000000) (_hy:y.size<4000000) (ht:t.size<4000000) (hc:∀k∈t.kids,ay C 362 [enc k,enc x,enc y]=some (enc (jB x y k))):ay C 362 [enc t,enc x,enc y]=some (enc (jB x y t)):=by
 refine gu rfl func362 rfl k_ (by simp[f362]) λR J=>?_
 have fin:∀(s:PT) (b:T) (h:H),s.get 6=.ptr 3 0->h[3]?=some (.cells (enc b).cells .live)->b=jB x y t->R .ret s h:=λs b h K L ht=>by
  refine J _ _ _ (.inr rfl) ⟨enc b,?_,?_⟩
  ·simp[ag,cG,f362,K,gH L]
  rw[<-ht];exact aL (qL b) (aw b)
 have q':∀(s:PT) (b:T) (h:H),s.get 6=.ptr 3 0->h[3]?=some (.cells (enc b).cells .live)->b=jB x y t->R .normal s h:=λs b h K L ht=>by
  refine J _ _ _ (.inl rfl) ⟨enc b,?_,?_⟩
  ·simp[ag,cG,f362,K,gH L]
  rw[<-ht];exact aL (qL b) (aw b)
 have d:=xb x y t;have q2:=size_kids t;have q1:=len_sizes t.kids;have r:=fK t.kids;obtain⟨p,a⟩:∃g:H,g=[.cells (enc t).cells .live,.cells (enc x).cells .live,.cells (enc y).cells .live,.cells zc .live]:=⟨_,rfl⟩
 have c:p[0]?=some (.cells (enc t).cells .live):=by rw[a];rfl
 have n:p[1]?=some (.cells (enc x).cells .live):=by rw[a];rfl
 have o:p[2]?=some (.cells (enc y).cells .live):=by rw[a];rfl
 have l:p[3]?=some (.cells zc .live):=by rw[a];rfl
 have M:=gH c;have u:=gH n;have I:=gH o;have c1:=lg t x ht hx;have e3:=tu y l;have w:=(aB.1 l).1;simp[go_sem,nA,Jr,aa];rw[<-bB t,<-bB x,<-bB y];unfold zc at a;rw[<-a];by_cases q:t.cmp x=0
 ·rw[if_pos q]at d;simp[go_sem,M,u,I,c1,q,e3];exact fin _ y _ g_ (aJ w) d.symm
 rw[if_neg q]at d;simp[go_sem,M,u,c1,q];have z:p.length=4:=by rw[a];rfl
 refine bR (Vv x y t) t.kids.length ⟨0,.isl [] (.tok 4),rfl,aO _,ga c,ga n,ga o,ga l,g_,g_,g_,g_,by simp[go_sem,z],g_,.inr ⟨4,rfl,by rw[a];rfl⟩⟩ ?_;clear z e3 w M u I c n o l a p;rintro m s h ⟨k,v,rfl,hk,c,n,o,l,N,O,Q,g6,g7,S,e⟩;have U:=Gq c;have u:=gH n;have I:=gH o;by_cases f:k<t.kids.length
 ·have A:(k:Int)<t.kids.length:=o_;have V:=fL t.kids k f;have w2:=wS k o_;have ck:∀h,az C h (.func 362 []) (some [enc t.kids[k],enc x,enc y])=some (enc (jB x y t.kids[k]),h):=λh=>ah (oY _ _ _) (by simp[aw]) s_ (hc _ (aG f))
  have⟨v',h',ha,ho,i,q3⟩:=dz (ys:=[jB x y t.kids[k]]) (x:=.full) e (by simp only[aU,ac,aF,aP];omega);have X:(t.kids.take k).map (jB x y)++[jB x y t.kids[k]]=(t.kids.take (k+1)).map (jB x y):=by rw[<-dQ f,bY];rfl
  rw[X]at ho;simp only[aS,au]at ha;have B:=cK e c;have D:=cK e n;have E:=cK e o;simp[go_sem,N,S,U,r,A];refine gJ 7 _ (by simp[fu]) rfl ?_;simp[go_sem,N,O,Q,g7,S,U,V,iT,u,I,ck,dm,ha,-Int.natCast_add,w2];refine⟨?_,t.kids.length-(k+1),o_,k+1,v',rfl,f,i.get c B,i.get n D,i.get o E,i.get l (cK e l),g_,g_,g_,g_,g_,g_,ho⟩;rcases e with rfl|⟨id,rfl,hd⟩
  ·simp[go_sem,O,Q,ip,iF,iI,kK,er,dB]
  simp only[bj,ne_eq,aA]at B D E;simp[go_sem,O,Q,ip,iF,iI,kK,er,dB]
  (try omega)
 have:k=t.kids.length:=o_;subst this;rw[ao]at e;generalize Y:(t.kids.map (jB x y)).map enc=es at e;obtain⟨j,rfl⟩:=e.isl;have F:cr C.P h 37 (.ptr 0 3) (.isl es j)=some (h.set 0 (.cells [.int .i64 t.kind,.str t.name,.int .i64 t.sort,.isl es j] .live)):=by rw[bB]at c;simp[cr,c,s23]
 have Z:=(aB.1 c).1;have e5:aX C.P (h.set 0 (.cells [.int .i64 t.kind,.str t.name,.int .i64 t.sort,.isl es j] .live)) 39 (.ptr 0 0)=some (.agg [.int .i64 t.kind,.str t.name,.int .i64 t.sort,.isl es j]):=by simp[aX,aJ Z,ae,a25,s25]
 have n3:(h.set 0 (.cells [.int .i64 t.kind,.str t.name,.int .i64 t.sort,.isl es j] .live))[3]?=some (.cells zc .live):=by rw[aE o_];exact l
 generalize h.set 0 (.cells [.int .i64 t.kind,.str t.name,.int .i64 t.sort,.isl es j] .live)=h2 at F e5 n3;have e6:cr C.P h2 39 (.ptr 3 0) (.agg [.int .i64 t.kind,.str t.name,.int .i64 t.sort,.isl es j])=some (h2.set 3 (.cells [.int .i64 t.kind,.str t.name,.int .i64 t.sort,.isl es j] .live)):=by simp[cr,n3,s25,zc]
 have e7:=(aB.1 n3).1;generalize G:AV.agg [.int .i64 t.kind,.str t.name,.int .i64 t.sort,.isl es j]=zz at e5 e6;simp[go_sem,N,g6,g7,S,U,r,F,e5,e6];refine J _ _ _ (.inr rfl) ⟨zz,?_,?_⟩
 ·simp[ag,cG,f362,go_sem,g6,aX,aJ e7,ae,a25,s25,<-G]
 rw[d,bJ,<-G,<-Y];exact aL rfl rfl
theorem Eu(x y:T) (hx:x.size<4000000) (hy:y.size<4000000) (t:T):t.size<4000000->ay C 362 [enc t,enc x,enc y]=some (enc (jB x y t)):=by
 induction t using T.ind with
 |_ t b=>exact λc=>Q4 x y t hx hy c (λk a=>b k a (by have:=kid_size a;omega))
theorem CN(x y t:T) (hx:x.size<4000000) (hy:y.size<4000000) (ht:t.size<4000000) (h:H):az C h (.func 362 []) (some [enc t,enc x,enc y])=some (enc (jB x y t),h):=ah (oY _ _ _) (by simp[aw]) s_ (Eu x y hx hy t ht)
theorem B8(x y:Operand) (a b:ByteArray):jC C.P .eql 9 x y (.str a) (.str b)=some (.bool (decide (a=b))):=by rw[fM]
theorem VK(a b:T) (_ha:a.kids.length<4000000) (_hb:b.kids.length<4000000):ay C 351 [enc a,enc b]=some (.bool (iy a b)):=by
 refine bD func351 rfl λR o=>?_
 have fin:∀(k:PT) (h:H) (e:Bool),k.get 4=.bool e->iy a b=e->R .ret k h:=λk h e p q=>o ⟨.bool e,by simp[ag,cG,f351,p],by rw[q];exact aL rfl rfl⟩
 obtain⟨d,c⟩:∃g:H,g=two a b:=⟨_,rfl⟩
 have t:aX C.P d 3 (.ptr 0 0)=some (.int .i64 a.kind):=by rw[c];exact pY a b
 have l:aX C.P d 3 (.ptr 1 0)=some (.int .i64 b.kind):=by rw[c];exact pX a b
 have m:aX C.P d 9 (.ptr 0 1)=some (.str a.name):=by rw[c];exact qY a b
 have n:aX C.P d 9 (.ptr 1 1)=some (.str b.name):=by rw[c];exact qX a b
 have a3:aX C.P d 37 (.ptr 0 3)=some (aQ a.kids):=by rw[c];exact oM a b
 have b3:aX C.P d 37 (.ptr 1 3)=some (aQ b.kids):=by rw[c];exact qW a b
 have r:=fK a.kids;have s:=fK b.kids;unfold two at c;simp[go_sem,nA];rw[<-c];by_cases f:a.kind=3
 rotate_left
 ·simp[go_sem,f];exact fin _ _ false g_ (by simp[iy,f])
 by_cases i:b.kind=3
 rotate_left
 ·simp[go_sem,l,f,i];exact fin _ _ false g_ (by simp[iy,i])
 by_cases j:a.name=b.name
 rotate_left
 ·simp[go_sem,l,m,n,B8,f,i,j];exact fin _ _ false g_ (by simp[iy,j])
 simp[go_sem,l,m,n,a3,b3,r,s,B8,f,i,j];exact fin _ _ (decide (a.kids.length=b.kids.length)) (by simp[go_sem];omega) (by simp[iy,f,i,j])
theorem Mf(a b:T) (_ha:a.kids.length<4000000) (_hb:b.kids.length<4000000):ay C 321 [enc a,enc b]=some (.bool (iy a b)):=by
 refine bD func321 rfl λR o=>?_
 have fin:∀(k:PT) (h:H) (e:Bool),k.get 4=.bool e->iy a b=e->R .ret k h:=λk h e p q=>o ⟨.bool e,by simp[ag,cG,f321,p],by rw[q];exact aL rfl rfl⟩
 obtain⟨d,c⟩:∃g:H,g=two a b:=⟨_,rfl⟩
 have t:aX C.P d 3 (.ptr 0 0)=some (.int .i64 a.kind):=by rw[c];exact pY a b
 have l:aX C.P d 3 (.ptr 1 0)=some (.int .i64 b.kind):=by rw[c];exact pX a b
 have m:aX C.P d 9 (.ptr 0 1)=some (.str a.name):=by rw[c];exact qY a b
 have n:aX C.P d 9 (.ptr 1 1)=some (.str b.name):=by rw[c];exact qX a b
 have a3:aX C.P d 37 (.ptr 0 3)=some (aQ a.kids):=by rw[c];exact oM a b
 have b3:aX C.P d 37 (.ptr 1 3)=some (aQ b.kids):=by rw[c];exact qW a b
 have r:=fK a.kids;have s:=fK b.kids;unfold two at c;simp[go_sem,nA];rw[<-c];by_cases f:a.kind=3
 rotate_left
 ·simp[go_sem,f];exact fin _ _ false g_ (by simp[iy,f])
 by_cases i:b.kind=3
 rotate_left
 ·simp[go_sem,l,f,i];exact fin _ _ false g_ (by simp[iy,i])
 by_cases j:a.name=b.name
 rotate_left
 ·simp[go_sem,l,m,n,B8,f,i,j];exact fin _ _ false g_ (by simp[iy,j])
 simp[go_sem,l,m,n,a3,b3,r,s,B8,f,i,j];exact fin _ _ (decide (a.kids.length=b.kids.length)) (by simp[go_sem];omega) (by simp[iy,f,i,j])
theorem O8(a b:T) (ha:a.kids.length<4000000) (hb:b.kids.length<4000000) (h:H):az C h (.func 321 []) (some [enc a,enc b])=some (.bool (iy a b),h):=ah (kU _ _) (by simp[aw]) s_ (Mf a b ha hb)
def wm(p q:T):T × T × Int:=if p.sort≠q.sort/\p.sort≠0 then(p,q,11)else(p,q,0)
def jo(p q:T):T × T × Int:=
 if p.kind≠1 then(p,q,11)
 else if q.kind=1 then(if(p.sort=q.sort/\p.cmp q<0)\/(p.sort≠q.sort/\q.sort=0)then wm q p else wm p q)
 else if p.sort≠0/\(q.kind≠2\/q.sort≠p.sort)then(p,q,11)
 else if occ p q=true then(p,q,12)else(p,q,0)
def jR(a b:T):T × T × Int:=if a.kind≠1 then jo b a else jo a b
theorem Dq(a b:T):match kG a b with
  |.bad e=>(jR a b).2.2=e/\e≠0
  |.ok x y=>jR a b=(x,y,0):=by
 unfold kG jR jo wm FN;by_cases f:a.kind=1<;>by_cases g:b.kind=1<;>simp only[ne_eq,f,g,not_true_eq_false,not_false_eq_true,if_false,if_true]
 ·by_cases c:(a.sort=b.sort/\a.cmp b<0)\/(¬a.sort=b.sort/\b.sort=0)
  ·rw[if_pos c,if_pos c,if_neg o_]
  rw[if_neg c,if_neg c];by_cases d:¬a.sort=b.sort/\¬a.sort=0
  ·rw[if_pos d,if_pos d];exact⟨rfl,o_⟩
  rw[if_neg d,if_neg d]
 ·by_cases c:¬a.sort=0/\(¬b.kind=2\/¬b.sort=a.sort)
  ·rw[if_pos c,if_pos c];exact⟨rfl,o_⟩
  rw[if_neg c,if_neg c];by_cases d:occ a b=true
  ·rw[if_pos d,if_pos d];exact⟨rfl,o_⟩
  rw[if_neg d,if_neg d]
 ·by_cases c:¬b.sort=0/\(¬a.kind=2\/¬a.sort=b.sort)
  ·rw[if_pos c,if_pos c];exact⟨rfl,o_⟩
  rw[if_neg c,if_neg c];by_cases d:occ b a=true
  ·rw[if_pos d,if_pos d];exact⟨rfl,o_⟩
  rw[if_neg d,if_neg d]
 exact⟨trivial,o_⟩
theorem nL(t:PT) (n m:Nat) (v:AV) (h:m≠n):(t.set n v).get m=t.get m:=by rw[PT.get_set,if_neg h]
theorem FJ(t:PT) (n:Nat) (v:AV):(t.set n v).get n=v:=by rw[PT.get_set,if_pos rfl]
theorem CR(t:T) (h:H):mX C.P h 39 (enc t)=some (.ptr h.length 0,h++[.cells (enc t).cells .live]):=by rw[nA,bB]
theorem GM:gy C.P 39=some (.agg zc):=Jr
theorem je{R:Ex->PT->H->Prop}{k:List It}{s:PT}{p q:T}(id:Nat) (d1 d2:Nat) (e:Int){p0 p1 p2 p3 p4:String}{a0 a1 a2 a3 a4:Array Edge}{n0 n1 n2 n3 n4:TypeId}
  (hm:C.mix 322 id=true) (g2:s.get 2=.ptr 0 0) (g3:s.get 3=.ptr 1 0) (g4:s.get 4=.ptr 2 0) (g5:s.get 5=.ptr 3 0) (hd:d1≠d2/\6<d1/\6<d2)
  (ht:rK #[⟨some d1,.load 39 (.tmp 2),n0,p0,a0,none⟩,⟨some d2,.load 39 (.tmp 3),n1,p1,a1,none⟩,⟨none,.store 39 (.tmp 4) (.tmp d1),n2,p2,a2,none⟩,⟨none,.store 39 (.tmp 5) (.tmp d2),n3,p3,a3,none⟩,⟨some 6,.assign (.const (.int .i64 e)),n4,p4,a4,none⟩]=true)
  (hf:tR #[⟨some d1,.load 39 (.tmp 2),n0,p0,a0,none⟩,⟨some d2,.load 39 (.tmp 3),n1,p1,a1,none⟩,⟨none,.store 39 (.tmp 4) (.tmp d1),n2,p2,a2,none⟩,⟨none,.store 39 (.tmp 5) (.tmp d2),n3,p3,a3,none⟩,⟨some 6,.assign (.const (.int .i64 e)),n4,p4,a4,none⟩] [([0],[]),([1],[]),([6,2],[6,2]),([7,3],[7,3]),([],[])]=true)
  (hk:∀(s':PT) (h':H),s'.get 4=.ptr 2 0->s'.get 5=.ptr 3 0->s'.get 6=.int .i64 e->h'[2]?=some (.cells (enc p).cells .live)->h'[3]?=some (.cells (enc q).cells .live)->N C 322 R k s' h') :
  W C 322 R (.region id #[⟨some d1,.load 39 (.tmp 2),n0,p0,a0,none⟩,⟨some d2,.load 39 (.tmp 3),n1,p1,a1,none⟩,⟨none,.store 39 (.tmp 4) (.tmp d1),n2,p2,a2,none⟩,⟨none,.store 39 (.tmp 5) (.tmp d2),n3,p3,a3,none⟩,⟨some 6,.assign (.const (.int .i64 e)),n4,p4,a4,none⟩] true) k s ([.cells (enc p).cells .live,.cells (enc q).cells .live,.cells zc .live,.cells zc .live]:H):=by
 refine xn id _ hm ht ?_;show MX C 322 _ 4 _ 0 _ _ _ _;generalize b:([.cells (enc p).cells .live,.cells (enc q).cells .live,.cells zc .live,.cells zc .live]:H)++List.replicate _ VObj.void=H0;have a:Pl ([.cells (enc p).cells .live,.cells (enc q).cells .live,.cells zc .live,.cells zc .live]:H) H0 5:=b▸Pl.mk' _ 5;have c:H0.length=9:=a.len;clear b;have d:H0[0]?=some (.cells (enc p).cells .live):=a.get rfl;have f:H0[1]?=some (.cells (enc q).cells .live):=a.get rfl;have g:H0[2]?=some (.cells zc .live):=a.get rfl;have h:H0[3]?=some (.cells zc .live):=a.get rfl;have j:dX H0[4+0]?=true:=a.isV (i:=0) d_;have l:dX H0[4+1]?=true:=a.isV (i:=1) d_;have m:dX H0[4+2]?=true:=a.isV (i:=2) d_;have n:dX H0[4+3]?=true:=a.isV (i:=3) d_;have o:dX H0[4+4]?=true:=a.isV (i:=4) d_;refine eP (.ptr 0 0) (enc p) g_ (gH d) (kc o_) j (fV _ _ _) ?_;refine eP (.ptr 1 0) (enc q) (by simp only[ev];rw[nL _ _ _ _ o_,g3]) (gH f) (kc o_) l (fV _ _ _) ?_;refine nE 2 0 (enc p) (.cells (enc p).cells .live) ?_ ?_ (tu p g) o_ m ?_
 ·simp only[ev];rw[nL _ _ _ _ o_,nL _ _ _ _ o_,g4]
 ·simp only[ev];rw[nL _ _ _ _ o_,FJ]
 rw[sr];have r:dX (H0.set 2 (.cells (enc p).cells .live))[4+3]?=true:=kF n o_;have t:dX (H0.set 2 (.cells (enc p).cells .live))[4+4]?=true:=kF o o_;have u:(H0.set 2 (.cells (enc p).cells .live))[3]?=some (.cells zc .live):=by rw[aE o_];exact h
 refine nE 3 0 (enc q) (.cells (enc q).cells .live) ?_ ?_ (tu q u) o_ r ?_
 ·simp only[ev];rw[nL _ _ _ _ o_,nL _ _ _ _ o_,g5]
 ·simp only[ev];rw[FJ]
 rw[sr];refine bd (.int .i64 e) rfl rfl (kF t o_) rfl rfl ?_;refine⟨hf,hk _ _ ?_ ?_ ?_ ?_ ?_⟩
 ·rw[nL _ _ _ _ o_,nL _ _ _ _ o_,nL _ _ _ _ o_,g4]
 ·rw[nL _ _ _ _ o_,nL _ _ _ _ o_,nL _ _ _ _ o_,g5]
 ·rw[FJ]
 ·rw[aE o_,aJ o_]
 rw[aJ (by simp;omega)]
theorem sL(p q:T):aX C.P ([.cells (enc p).cells .live,.cells (enc q).cells .live,.cells zc .live,.cells zc .live]:H) 39 (.ptr 0 0)=some (enc p):=gH rfl
theorem sK(p q:T):aX C.P ([.cells (enc p).cells .live,.cells (enc q).cells .live,.cells zc .live,.cells zc .live]:H) 39 (.ptr 1 0)=some (enc q):=gH rfl
theorem B1(p q:T):aX C.P ([.cells (enc p).cells .live,.cells (enc q).cells .live,.cells zc .live,.cells zc .live]:H) 3 (.ptr 0 0)=some (.int .i64 p.kind):=by simp[aX,ae,a3,s3,bB]
theorem G0(p q:T):aX C.P ([.cells (enc p).cells .live,.cells (enc q).cells .live,.cells zc .live,.cells zc .live]:H) 3 (.ptr 1 0)=some (.int .i64 q.kind):=by simp[aX,ae,a3,s3,bB]
theorem xg(p q:T):aX C.P ([.cells (enc p).cells .live,.cells (enc q).cells .live,.cells zc .live,.cells zc .live]:H) 3 (.ptr 0 2)=some (.int .i64 p.sort):=by simp[aX,ae,a3,s3,bB]
theorem xf(p q:T):aX C.P ([.cells (enc p).cells .live,.cells (enc q).cells .live,.cells zc .live,.cells zc .live]:H) 3 (.ptr 1 2)=some (.int .i64 q.sort):=by simp[aX,ae,a3,s3,bB]
theorem B0(p q:T):∃g,cr C.P ([.cells (enc p).cells .live,.cells (enc q).cells .live,.cells zc .live,.cells zc .live]:H) 39 (.ptr 0 0) (enc q)=some g/\cr C.P g 39 (.ptr 1 0) (enc p)=some ([.cells (enc q).cells .live,.cells (enc p).cells .live,.cells zc .live,.cells zc .live]:H):=by
 refine⟨[.cells (enc q).cells .live,.cells (enc q).cells .live,.cells zc .live,.cells zc .live],?_,?_⟩
 ·simp[cr,s25,bB];rw[bJ];rfl
 simp[cr,s25,bB];rw[bJ];rfl
theorem JQ(a b:T) (ha:a.size<4000000) (hb:b.size<4000000):ay C 322 [enc a,enc b]=some (.tuple [enc (jR a b).1,enc (jR a b).2.1,.int .i64 (jR a b).2.2]):=by
 refine gu rfl func322 rfl k_ (by simp[f322]) λR V=>?_
 have fin:∀(u v:T) (e:Int),(u,v,e)=jR a b->∀(x:Ex),(x=.normal\/x=.ret)->∀(s:PT) (h:H),s.get 4=.ptr 2 0->s.get 5=.ptr 3 0->s.get 6=.int .i64 e->h[2]?=some (.cells (enc u).cells .live)->h[3]?=some (.cells (enc v).cells .live)->R x s h:=λu v e X x Y s h g i j k l=>by
  refine V _ _ _ Y ⟨.tuple [enc u,enc v,.int .i64 e],?_,?_⟩
  ·simp[ag,cG,df,f322,g,i,j,gH k,gH l]
  rw[<-X];exact cw (by rw[bJ,bJ];rfl) (by simp[aw,mP]) s_
 have⟨g1,G,I⟩:=B0 a b;have J:=B1 a b;have K:=sL a b;have L:=sK a b;simp[go_sem,CR,GM,aa];by_cases r:a.kind=1
 ·have _:=r;have t:=B1 a b;have w:=G0 a b;have y:=xg a b;have E:=xf a b;have B:=sL a b;have D:=sK a b;have Z:=sL b a;have z1:=sK b a;have N:=xg b a;have z3:=xf b a;have O:=rG a b ha hb;have F:=HC a b ha hb;have⟨g2,Q,S⟩:=B0 a b;have d:jR a b=jo a b:=by unfold jR;simp[r]
  have m:a.kind=1:=r;by_cases q:b.kind=1
  ·have _:=q;by_cases c:a.sort=b.sort
   ·have _:=c;by_cases f:a.cmp b<0
    ·have _:=f;simp[go_sem,r,t,w,y,E,B,D,O,Q,S,N,z3,q,c,f];refine je 10 57 58 0 (by rw[fu];decide) g_ g_ g_ g_ d_ k_ k_ ?_;intro z A g i j k l;simp[go_sem];exact fin b a 0 (by rw[d];unfold jo wm;simp[m,q,c,f]) _ (.inr rfl) _ _ g i j k l
    have _:=f;simp[go_sem,r,t,w,y,E,B,D,O,q,c,f];refine je 10 57 58 0 (by rw[fu];decide) g_ g_ g_ g_ d_ k_ k_ ?_;intro z A g i j k l;simp[go_sem];exact fin a b 0 (by rw[d];unfold jo wm;simp[m,q,c,f]) _ (.inr rfl) _ _ g i j k l
   have _:=c;have q':¬b.sort=a.sort:=λe=>c e.symm
   by_cases f:b.sort=0
   ·have _:=f;have U:¬a.sort=0:=λe=>c (e.trans f.symm)
    have M:¬0=a.sort:=λe=>U e.symm
    simp[go_sem,r,t,w,y,E,B,D,Q,S,N,z3,q,f,U,M];refine je 10 57 58 0 (by rw[fu];decide) g_ g_ g_ g_ d_ k_ k_ ?_;intro z A g i j k l;simp[go_sem];exact fin b a 0 (by rw[d];unfold jo wm;simp[m,q,f,U]) _ (.inr rfl) _ _ g i j k l
   have _:=f;by_cases n:a.sort=0
   ·have _:=n;have M:¬0=b.sort:=λe=>f e.symm
    simp[go_sem,r,t,w,y,E,B,D,q,f,n,M];refine je 10 57 58 0 (by rw[fu];decide) g_ g_ g_ g_ d_ k_ k_ ?_;intro z A g i j k l;simp[go_sem];exact fin a b 0 (by rw[d];unfold jo wm;simp[m,q,f,n,M]) _ (.inr rfl) _ _ g i j k l
   have _:=n;simp[go_sem,r,t,w,y,E,B,D,q,c,f,n];refine je 9 55 56 11 (by rw[fu];decide) g_ g_ g_ g_ d_ k_ k_ ?_;intro z A g i j k l;simp[go_sem];exact fin a b 11 (by rw[d];unfold jo wm;simp[m,q,c,f,n]) _ (.inr rfl) _ _ g i j k l
  have _:=q;by_cases c:a.sort=0
  ·have _:=c;by_cases o:occ a b=true
   ·have _:=o;simp[go_sem,r,t,w,y,B,D,F,q,o,c];refine je 14 79 80 12 (by rw[fu];decide) g_ g_ g_ g_ d_ k_ k_ ?_;intro z A g i j k l;simp[go_sem];exact fin a b 12 (by rw[d];unfold jo;simp[m,q,o,c]) _ (.inr rfl) _ _ g i j k l
   have _:=o;have p:occ a b=false:=by simpa using o
   simp[go_sem,r,t,w,y,B,D,F,q,p,c];refine je 15 81 82 0 (by rw[fu];decide) g_ g_ g_ g_ d_ k_ k_ ?_;intro z A g i j k l;simp[go_sem];exact fin a b 0 (by rw[d];unfold jo;simp[m,q,p,c]) _ (.inr rfl) _ _ g i j k l
  have _:=c;by_cases f:b.kind=2
  ·have _:=f;by_cases n:b.sort=a.sort
   ·have _:=n;by_cases o:occ a b=true
    ·have _:=o;simp[go_sem,r,t,w,y,E,B,D,F,o,c,f,n];refine je 14 79 80 12 (by rw[fu];decide) g_ g_ g_ g_ d_ k_ k_ ?_;intro z A g i j k l;simp[go_sem];exact fin a b 12 (by rw[d];unfold jo;simp[m,o,c,f,n]) _ (.inr rfl) _ _ g i j k l
    have _:=o;have p:occ a b=false:=by simpa using o
    simp[go_sem,r,t,w,y,E,B,D,F,p,c,f,n];refine je 15 81 82 0 (by rw[fu];decide) g_ g_ g_ g_ d_ k_ k_ ?_;intro z A g i j k l;simp[go_sem];exact fin a b 0 (by rw[d];unfold jo;simp[m,p,c,f,n]) _ (.inr rfl) _ _ g i j k l
   have _:=n;simp[go_sem,r,t,w,y,E,c,f,n];refine je 12 74 75 11 (by rw[fu];decide) g_ g_ g_ g_ d_ k_ k_ ?_;intro z A g i j k l;simp[go_sem];exact fin a b 11 (by rw[d];unfold jo;simp[m,c,f,n]) _ (.inr rfl) _ _ g i j k l
  have _:=f;simp[go_sem,r,t,w,y,q,c,f];refine je 12 74 75 11 (by rw[fu];decide) g_ g_ g_ g_ d_ k_ k_ ?_;intro z A g i j k l;simp[go_sem];exact fin a b 11 (by rw[d];unfold jo;simp[m,q,c,f]) _ (.inr rfl) _ _ g i j k l
 have _:=r;have t:=B1 b a;have w:=G0 b a;have y:=xg b a;have E:=xf b a;have B:=sL b a;have D:=sK b a;have Z:=sL a b;have z1:=sK a b;have N:=xg a b;have z3:=xf a b;have O:=rG b a hb ha;have F:=HC b a hb ha;have⟨g2,Q,S⟩:=B0 b a;have d:jR a b=jo b a:=by unfold jR;simp[r]
 by_cases m:b.kind=1
 ·have _:=m;have q:¬a.kind=1:=r;by_cases c:b.sort=0
  ·have _:=c;by_cases o:occ b a=true
   ·have _:=o;simp[go_sem,J,K,L,G,I,r,t,w,y,B,D,F,m,o,c];refine je 14 79 80 12 (by rw[fu];decide) g_ g_ g_ g_ d_ k_ k_ ?_;intro z A g i j k l;simp[go_sem];exact fin b a 12 (by rw[d];unfold jo;simp[m,q,o,c]) _ (.inr rfl) _ _ g i j k l
   have _:=o;have p:occ b a=false:=by simpa using o
   simp[go_sem,J,K,L,G,I,r,t,w,y,B,D,F,m,p,c];refine je 15 81 82 0 (by rw[fu];decide) g_ g_ g_ g_ d_ k_ k_ ?_;intro z A g i j k l;simp[go_sem];exact fin b a 0 (by rw[d];unfold jo;simp[m,q,p,c]) _ (.inr rfl) _ _ g i j k l
  have _:=c;by_cases f:a.kind=2
  ·have _:=f;by_cases n:a.sort=b.sort
   ·have _:=n;by_cases o:occ b a=true
    ·have _:=o;simp[go_sem,J,K,L,G,I,t,w,y,E,B,D,F,m,o,c,f,n];refine je 14 79 80 12 (by rw[fu];decide) g_ g_ g_ g_ d_ k_ k_ ?_;intro z A g i j k l;simp[go_sem];exact fin b a 12 (by rw[d];unfold jo;simp[m,o,c,f,n]) _ (.inr rfl) _ _ g i j k l
    have _:=o;have p:occ b a=false:=by simpa using o
    simp[go_sem,J,K,L,G,I,t,w,y,E,B,D,F,m,p,c,f,n];refine je 15 81 82 0 (by rw[fu];decide) g_ g_ g_ g_ d_ k_ k_ ?_;intro z A g i j k l;simp[go_sem];exact fin b a 0 (by rw[d];unfold jo;simp[m,p,c,f,n]) _ (.inr rfl) _ _ g i j k l
   have _:=n;simp[go_sem,J,K,L,G,I,t,w,y,E,m,c,f,n];refine je 12 74 75 11 (by rw[fu];decide) g_ g_ g_ g_ d_ k_ k_ ?_;intro z A g i j k l;simp[go_sem];exact fin b a 11 (by rw[d];unfold jo;simp[m,c,f,n]) _ (.inr rfl) _ _ g i j k l
  have _:=f;simp[go_sem,J,K,L,G,I,r,t,w,y,m,c,f];refine je 12 74 75 11 (by rw[fu];decide) g_ g_ g_ g_ d_ k_ k_ ?_;intro z A g i j k l;simp[go_sem];exact fin b a 11 (by rw[d];unfold jo;simp[m,q,c,f]) _ (.inr rfl) _ _ g i j k l
 have _:=m;simp[go_sem,J,K,L,G,I,r,t,m];refine je 4 15 16 11 (by rw[fu];decide) g_ g_ g_ g_ d_ k_ k_ ?_;intro z A g i j k l;simp[go_sem];exact fin b a 11 (by rw[d];unfold jo;simp[m]) _ (.inr rfl) _ _ g i j k l
theorem O7(a b:T) (ha:a.size<4000000) (hb:b.size<4000000) (h:H):az C h (.func 322 []) (some [enc a,enc b])=some (.tuple [enc (jR a b).1,enc (jR a b).2.1,.int .i64 (jR a b).2.2],h):=ah (kU _ _) (by simp[aw]) s_ (JQ a b ha hb)
theorem Hf:C.P.underlying 284=some (.slice 283):=underlying284
theorem En:cS C.P 283=some 8:=k_
theorem VL:eW C.P 283=some true:=k_
theorem Xx:gl C.P 283=some 112:=k_
theorem Tl:fe C.P 283=true:=k_
theorem Ua:iG C.P 284=some 283:=k_
theorem b86:gl C.P 84=some 112:=k_
theorem z86:fe C.P 84=true:=k_
theorem UZ:iG C.P 45=some 84:=k_
attribute [go_sem] Hf En VL Ua UZ
def z8:LA:=zc++zc
theorem Tg:gy C.P 283=some (.agg z8):=k_
theorem Jq:gy C.P 84=some (.agg z8):=k_
theorem yC(l:Lb):iN 8 (l.map bN)=true:=by cases l<;>simp[iN,bN,aa]
theorem Lj(e:AV):bH C.P 283 (.iptr e 0) 0=some (.iptr e 0):=k_
theorem Li(e:AV):bH C.P 283 (.iptr e 0) 1=some (.iptr e 4):=k_
theorem OM(i:Nat):bH C.P 283 (.ptr i 0) 0=some (.ptr i 0):=k_
theorem OL(i:Nat):bH C.P 283 (.ptr i 0) 1=some (.ptr i 4):=k_
attribute [go_sem] Lj Li OM OL
theorem Kw(l:Lb) (x:Ext):fW C.P 284 (.isl (l.map bN) x)=some (.int .i64 l.length):=by simp[fW,Hf]
theorem Nq(l:Lb):fW C.P 284 (binds l)=some (.int .i64 l.length):=Kw l _
theorem LK(l:Lb) (k:Nat) (hk:k<l.length) (x:Ext):bP C.P 284 (.isl (l.map bN) x) (.int .i64 k)=some (.iptr (bN l[k]) 0):=by simp[bP,Hf,En,hk,bN,aa]
theorem UW{h:H}{i:Nat}{b:T × T}(hi:h[i]?=some (.cells (bN b).cells .live)):aX C.P h 283 (.ptr i 0)=some (bN b):=by simp[aX,hi,ae,VL,En,bN,aa]
theorem Tu{h:H}{i:Nat}(b:T × T) (hi:h[i]?=some (.cells z8 .live)):cr C.P h 283 (.ptr i 0) (bN b)=some (h.set i (.cells (bN b).cells .live)):=by simp[cr,hi,En,bN,z8,zc,aa]
theorem J8{h:H}{i:Nat}(b:T × T) (hi:h[i]?=some (.cells z8 .live)):cr C.P h 84 (.ptr i 0) (bN b)=some (h.set i (.cells (bN b).cells .live)):=by simp[cr,hi,s86,bN,z8,zc,aa]
theorem MT(a b:T):fZ C.P 283 [(0,enc a),(1,enc b)]=some (bN (a,b)):=by
 rw[bJ a,bJ b];have e:∀(k s c d:Int) (n f:ByteArray) (l g:LA),fZ C.P 283 [(0,.agg [.int .i64 k,.str n,.int .i64 s,.isl l .unk]),(1,.agg [.int .i64 c,.str f,.int .i64 d,.isl g .unk])]=some (.agg [.int .i64 k,.str n,.int .i64 s,.isl l .unk,.int .i64 c,.str f,.int .i64 d,.isl g .unk]):=λk s c d n f l g=>k_
 exact e _ _ _ _ _ _ _ _
theorem th(a b:T):fZ C.P 84 [(0,enc a),(1,enc b)]=some (bN (a,b)):=by
 rw[bJ a,bJ b];have e:∀(k s c d:Int) (n f:ByteArray) (l g:LA),fZ C.P 84 [(0,.agg [.int .i64 k,.str n,.int .i64 s,.isl l .unk]),(1,.agg [.int .i64 c,.str f,.int .i64 d,.isl g .unk])]=some (.agg [.int .i64 k,.str n,.int .i64 s,.isl l .unk,.int .i64 c,.str f,.int .i64 d,.isl g .unk]):=λk s c d n f l g=>k_
 exact e _ _ _ _ _ _ _ _
theorem nq(b:T × T):bV (bN b)=true:=rfl
theorem mW(h:H) (b:T × T):cQ C.P h 284 1 [(0,bN b)]=some (.isl [bN b] .full,h):=cW Hf En Tl rfl o_ rfl rfl rfl s_ rfl
theorem eV(h:H) (b:T × T):cQ C.P h 45 1 [(0,bN b)]=some (.isl [bN b] .full,h):=cW u46 s86 z86 rfl o_ rfl rfl rfl s_ rfl
theorem wX{h:H}{v:AV}{xs ys:Lb}{x:Ext}(o:OwnR 283 h v (xs.map bN)) (hl:xs.length+ys.length<=100000000000) :
  ∃v' h',cL C.P false h 284 v (.isl (ys.map bN) x)=some (v',h')/\OwnR 283 h' v' ((xs++ys).map bN)/\Keep h h' (bj v)/\(bj v'=bj v\/bj v=none/\bj v'=some h.length):=by
 have:=jS (x:=x) Hf En Xx Tl rfl o (yC xs) (yC ys) (by simp only[aU];omega);rwa[<-bY]at this
theorem jb{h:H}{v:AV}{xs ys:Lb}{x:Ext}(o:OwnR 84 h v (xs.map bN)) (hl:xs.length+ys.length<=100000000000) :
  ∃v' h',cL C.P false h 45 v (.isl (ys.map bN) x)=some (v',h')/\OwnR 84 h' v' ((xs++ys).map bN)/\Keep h h' (bj v)/\(bj v'=bj v\/bj v=none/\bj v'=some h.length):=by
 have:=jS (x:=x) u46 s86 b86 z86 rfl o (yC xs) (yC ys) (by simp only[aU];omega);rwa[<-bY]at this
theorem ss(i k:Nat) (b:T × T):VObj.mv i k (.cells (bN b).cells .live)=.cells (bN b).cells .live:=rfl
theorem Gj(i k:Nat):VObj.mv i k (.cells z8 .live)=.cells z8 .live:=rfl
theorem ug{e e':TypeId}(hne:e≠e'){h:H}{v w:AV}{xs ys:LA}(o:OwnR e h v xs) (p:OwnR e' h w ys):∀i,bj v=some i->bj w≠some i:=by
 intro i c d;rcases o with rfl|⟨a,rfl,g⟩
 ·cases c
 rcases p with rfl|⟨b,rfl,f⟩
 ·cases d
 simp only[bj,aA]at c d;subst c;subst d;rw[g]at f;simp only[aA,VObj.tok.injEq]at f;exact hne f.2
end Go.VZ
