/- A part of the proof. -/
import Derived.Test.YtclakfnjdnibeaaGreatDoorSb
import Derived.Shelf.SlSortCmp.NoneTotal
set_option maxHeartbeats 4000000
set_option maxRecDepth 8000
namespace Go.VZ
open Go Go.V TL
theorem Rf:∀a b:T,enc a=enc b->a=b:=by
 refine T.ind λa c b h=>?_
 cases a with
 |mk k n s l=>cases b with
  |mk i j o d=>
   rw[bE,bE]at h;simp only[AV.agg.injEq,bw,AV.int.injEq,AV.str.injEq,true_and,and_true,T.kind,T.name,T.sort,T.kids,aM,AV.isl.injEq]at h c;obtain⟨rfl,rfl,rfl,h⟩:=h;congr 1
   clear k n s;induction l generalizing d with
   |nil=>cases d with
    |nil=>rfl
    |cons b m=>cases h
   |cons a l e=>cases d with
    |nil=>cases h
    |cons b m=>simp only[aS,bw]at h;rw[c a s_ b h.1,e (λk f b g=>c k (by simp[f]) b g) m h.2]
theorem Ao:∀l m:Lq,bQ l=bQ m->l=m
 |[],[],_=>rfl
 |[],b::m,h=>by rw[ip]at h;cases h
 |a::l,[],h=>by rw[ip]at h;cases h
 |a::l,b::m,h=>by rw[ip,ip]at h;simp only[cP,bk,bw]at h;have⟨h1,h2,h3,h4,h5⟩:=h;rw[Ao l m h5,Rf a b (by rw[bE,bE,h1,h2,h3,h4])]
theorem Ap{l:Lq}{j c:Nat}(hj:j<l.length) (hc:c<4):(bQ l)[4*j+c]?=(enc l[j]).cells[c]?:=by
 induction l generalizing j with
 |nil=>simp at hj
 |cons a l b=>
  have e:bQ (a::l)=(enc a).cells++bQ l:=rfl;have d:(enc a).cells.length=4:=by rw[au];rfl
  rw[e];cases j with
  |zero=>rw[aP o_];simp
  |succ j=>rw[aj o_,show 4*(j+1)+c-(enc a).cells.length=4*j+c by omega,b (by simpa using hj)];simp
end Go.VZ
namespace Go.Proofs
open Go.Shelf
def Tryz.laysSort_ren:Go.Shelf.Ren:=⟨fun|6=>250|15=>84|14=>301|28=>128|29=>129|20=>325|21=>326|22=>327|23=>328|24=>329|25=>330|26=>331|27=>332|46=>363|47=>182|48=>183|49=>364|50=>365|57=>396|n=>n,fun|22=>37|24=>39|25=>138|3=>3|39=>121|0=>0|53=>155|55=>157|4=>4|46=>148|45=>147|50=>152|5=>5|9=>9|66=>191|70=>195|76=>237|77=>238|n=>n,fun|n=>n⟩
theorem Tryz.laysSort:Go.Proofs.SlLaysF0.n6 Tryz.prog Tryz.laysSort_ren:={
 mixed:=k_
 f6:=⟨Tryz.f250.name,d_,Tryz.func250.trans (congrArg some k_)⟩
 f14:=⟨Tryz.f301.name,d_,Tryz.func301.trans (congrArg some k_)⟩
 f15:=Tryz.func84.trans (congrArg some k_)
 f20:=⟨Tryz.f325.name,d_,Tryz.func325.trans (congrArg some k_)⟩
 f21:=⟨Tryz.f326.name,d_,Tryz.func326.trans (congrArg some k_)⟩
 f22:=⟨Tryz.f327.name,d_,Tryz.func327.trans (congrArg some k_)⟩
 f23:=⟨Tryz.f328.name,d_,Tryz.func328.trans (congrArg some k_)⟩
 f24:=⟨Tryz.f329.name,d_,Tryz.func329.trans (congrArg some k_)⟩
 f25:=⟨Tryz.f330.name,d_,Tryz.func330.trans (congrArg some k_)⟩
 f26:=⟨Tryz.f331.name,d_,Tryz.func331.trans (congrArg some k_)⟩
 f27:=⟨Tryz.f332.name,d_,Tryz.func332.trans (congrArg some k_)⟩
 f28:=Tryz.func128.trans (congrArg some k_)
 f29:=Tryz.func129.trans (congrArg some k_)
 f46:=⟨Tryz.f363.name,d_,Tryz.func363.trans (congrArg some k_)⟩
 f47:=Tryz.func182.trans (congrArg some k_)
 f48:=Tryz.func183.trans (congrArg some k_)
 f49:=⟨Tryz.f364.name,d_,Tryz.func364.trans (congrArg some k_)⟩
 f50:=⟨Tryz.f365.name,d_,Tryz.func365.trans (congrArg some k_)⟩
 f57:=⟨Tryz.f396.name,d_,Tryz.func396.trans (congrArg some k_)⟩
 t0:=Tryz.underlying0
 a0:=Tryz.isAgg0
 z0:=Tryz.sizeOf0
 v0:=Tryz.zeroValue0
 t3:=Tryz.underlying3
 a3:=Tryz.isAgg3
 z3:=Tryz.sizeOf3
 v3:=Tryz.zeroValue3
 t4:=Tryz.underlying4
 a4:=Tryz.isAgg4
 z4:=Tryz.sizeOf4
 v4:=Tryz.zeroValue4
 t5:=Tryz.underlying5
 a5:=Tryz.isAgg5
 z5:=Tryz.sizeOf5
 v5:=Tryz.zeroValue5
 t9:=Tryz.underlying9
 a9:=Tryz.isAgg9
 z9:=Tryz.sizeOf9
 v9:=Tryz.zeroValue9
 t22:=Tryz.underlying37
 a22:=Tryz.isAgg37
 z22:=Tryz.sizeOf37
 v22:=Tryz.zeroValue37
 t25:=Tryz.underlying138
 a25:=Tryz.isAgg138
 z25:=Tryz.sizeOf138
 v25:=Tryz.zeroValue138
 t39:=Tryz.underlying121
 a39:=Tryz.isAgg121
 z39:=Tryz.sizeOf121
 v39:=Tryz.zeroValue121
 t45:=Tryz.underlying147
 a45:=Tryz.isAgg147
 z45:=Tryz.sizeOf147
 v45:=Tryz.zeroValue147
 t46:=Tryz.underlying148
 a46:=Tryz.isAgg148
 z46:=Tryz.sizeOf148
 v46:=Tryz.zeroValue148
 t50:=Tryz.underlying152
 a50:=Tryz.isAgg152
 z50:=Tryz.sizeOf152
 v50:=Tryz.zeroValue152
 t53:=Tryz.underlying155
 a53:=Tryz.isAgg155
 z53:=Tryz.sizeOf155
 v53:=Tryz.zeroValue155
 t55:=Tryz.underlying157
 a55:=Tryz.isAgg157
 z55:=Tryz.sizeOf157
 v55:=Tryz.zeroValue157
 t66:=Tryz.underlying191
 a66:=Tryz.isAgg191
 z66:=Tryz.sizeOf191
 v66:=Tryz.zeroValue191
 t70:=Tryz.underlying195
 a70:=Tryz.isAgg195
 z70:=Tryz.sizeOf195
 v70:=Tryz.zeroValue195
 t76:=Tryz.underlying237
 a76:=Tryz.isAgg237
 z76:=Tryz.sizeOf237
 v76:=Tryz.zeroValue237
 t77:=Tryz.underlying238
 a77:=Tryz.isAgg238
 z77:=Tryz.sizeOf238
 v77:=Tryz.zeroValue238}
end Go.Proofs
namespace Go.VZ
open Go Go.V Go.Proofs Go.RowKit Go.Sort TL
variable {B:Nat}{A0:Nat->Nat->Prop}{σ:List (Option Nat)}{h:H}{w:World}
structure El (A:Nat->Nat->Prop) (w:World) where
 t:T
 vs:List Value
 len:vs.length=4
 small:t.size<4000000
 rel:IRel A w (enc t) (.agg vs.toArray)
theorem OM{A:Nat->Nat->Prop}{w:World}(x:El A w){c:Nat}{a:AV}{v:Value}(ha:(enc x.t).cells[c]?=some a) (hv:x.vs[c]?=some v):IRel A w a v:=by
 have r:=x.rel;rw[bE]at r;cases r with
 |agg d e b=>rw[au]at ha;exact b c a v ha (by simpa using hv)
theorem VQ{A:Nat->Nat->Prop}{w:World}(x:El A w):∀v∈x.vs,v.oneCell'=true:=by
 intro v d;have⟨c,b⟩:=fG.1 d;have e:=(aB.1 b).1;have g:=x.len;have h:(enc x.t).cells.length=4:=by rw[au];rfl
 have f:(enc x.t).cells[c]?=some (enc x.t).cells[c]:=aC o_;refine qv (OM x f b) ?_;have:=aF (l:=(enc x.t).cells) (n:=c) o_;generalize (enc x.t).cells[c]=a at this;rw[au]at this;simp only[ao,cy,or_false]at this;rcases this with rfl|rfl|rfl|rfl<;>rfl
instance {A:Nat->Nat->Prop}{w:World}:Inhabited (El A w):=⟨⟨.mk 0 ⟨#[]⟩ 0 [],[.int .i64 0,.string ⟨#[]⟩,.int .i64 0,.slice none 0 0],rfl,d_,by
 rw[bE];refine .agg (by intro c hc;simp at hc;rcases hc with rfl|rfl|rfl|rfl<;>rfl) rfl λi a v ha hv=>?_
 match i,ha,hv with
 |0,ha,hv=>simp at ha hv;subst ha;subst hv;exact .int _ _
 |1,ha,hv=>simp at ha hv;subst ha;subst hv;exact .str _
 |2,ha,hv=>simp at ha hv;subst ha;subst hv;exact .int _ _
 |3,ha,hv=>simp at ha hv;subst ha;subst hv;exact .islNil
 |i+4,ha,hv=>simp at ha⟩⟩
theorem els{A:Nat->Nat->Prop}{w:World}{vs:Array Value}:∀(l:Lq) (off:Nat),(∀t∈l,t.size<4000000)->(∀(k:Nat) c v,(bQ l)[k]?=some c->vs[off+k]?=some v->IRel A w c v)->off+4*l.length<=vs.size ->
  ∃es:List (El A w),es.map El.t=l/\∀(j c:Nat) (hj:j<es.length),c<4->vs[off+(4*j+c)]?=(es[j]).vs[c]?
 |[],off,_,_,_=>⟨[],rfl,λj c hj=>by simp at hj⟩
 |a::l,off,hs,hr,hl=>by
  simp only[aG]at hl;obtain⟨es,h1,h2⟩:=els l (off+4) (λt ht=>hs t (by simp[ht])) (λk c v hc hv=>hr (4+k) c v (by
   have e:bQ (a::l)=(enc a).cells++bQ l:=rfl;have e4:(enc a).cells.length=4:=by rw[au];rfl
   rw[e,aj o_,show 4+k-(enc a).cells.length=k by omega];exact hc) (by rw[<-fe];exact hv)) o_
  have g:∀c,c<4->∃v,vs[off+c]?=some v:=λc hc=>⟨vs[off+c]'(by omega),aT (by omega)⟩
  have⟨v0,g0⟩:=g 0 o_;have⟨v1,g1⟩:=g 1 o_;have⟨v2,g2⟩:=g 2 o_;have⟨v3,g3⟩:=g 3 o_;have r:∀(c:Nat) x v,(enc a).cells[c]?=some x->c<4->vs[off+c]?=some v->IRel A w x v:=λc x v hx hc hv=>hr c x v (by
   have:=Ap (l:=a::l) (j:=0) (c:=c) s_ hc;rw[oe,cH]at this;rw[this];exact hx) hv
  refine⟨⟨a,[v0,v1,v2,v3],rfl,hs a s_,?_⟩::es,by simp[h1],?_⟩
  ·rw[bE];rw[au]at r;refine .agg (by intro c hc;simp at hc;rcases hc with rfl|rfl|rfl|rfl<;>rfl) rfl λi x v hx hv=>?_
   match i,hx,hv with
   |0,hx,hv=>simp at hv;subst hv;exact r 0 x _ hx o_ g0
   |1,hx,hv=>simp at hv;subst hv;exact r 1 x _ hx o_ g1
   |2,hx,hv=>simp at hv;subst hv;exact r 2 x _ hx o_ g2
   |3,hx,hv=>simp at hv;subst hv;exact r 3 x _ hx o_ g3
   |i+4,hx,hv=>simp at hx
  intro j c hj hc;cases j with
  |zero=>
   match c,hc with
   |0,_=>exact g0
   |1,_=>exact g1
   |2,_=>exact g2
   |3,_=>exact g3
  |succ j=>have:=h2 j c (by simpa using hj) hc;rw[show off+(4*(j+1)+c)=off+4+(4*j+c) by omega,this];rfl
end Go.VZ
namespace Go.VZ
open Go Go.V Go.Proofs Tryz Go.RowKit Go.Sort TL
variable {B:Nat}{A0:Nat->Nat->Prop}{σ:List (Option Nat)}{h:H}{w:World}
theorem DH{A:Nat->Nat->Prop}{x:Ext}{v:Value}(r:Rel prog A σ h w (.isl [] x) v):∃p cap,v=.slice p 0 cap:=by
 have b:∀u,IRel A w (.isl [] .unk) u->∃p cap,u=.slice p 0 cap:=λu r=>by
  cases r with
  |islNil=>exact⟨_,_,rfl⟩
  |islEmpty a cap g=>exact⟨_,_,rfl⟩
  |isl f=>exact⟨_,_,rfl⟩
 cases r with
 |data d=>
  cases d with
  |islNil=>exact⟨_,_,rfl⟩
  |islEmpty a cap g=>exact⟨_,_,rfl⟩
  |isl f=>exact⟨_,_,rfl⟩
 |full d=>have⟨p,c,e⟩:=b _ d;cases e;exact⟨_,_,rfl⟩
 |tok d _=>exact b _ d
theorem qw{A:Nat->Nat->Prop}{f:FuncId}{v:Value}(r:Rel prog A σ h w (.func f []) v):v=.func (.func f) #[] #[]:=by
 cases r with
 |data b=>cases b with
  |func a _=>simp only[aQ,Array.size_eq_zero_iff]at a;rw[a]
 |func a _=>simp only[aQ,Array.size_eq_zero_iff]at a;rw[a]
theorem Ho{A:Nat->Nat->Prop}{l:Lq}{k:Nat}{c:AV}{v:Value}(hc:(bQ l)[k]?=some c) (r:Rel prog A σ h w c v):IRel A w c v:=by have a:=ai hc;simp only[bQ,bR]at a;have⟨t,_,a⟩:=a;rw[au]at a;simp only[ao,cy,or_false]at a;rcases a with rfl|rfl|rfl|rfl<;>(cases r with|data hd=>exact hd)
theorem aAQ{A:Nat->Nat->Prop}{w:World}:SWO (ltOf λx y:El A w=>x.t.cmp y.t) where
 irrefl x:=by simp[ltOf,cmp_refl]
 trans x y z h1 h2:=by simp only[ltOf,decide_eq_true_eq]at *;exact cmp_trans h1 h2
 ntrans x y z h1 h2:=by simp only[ltOf,decide_eq_false_iff_not]at *;exact le_trans (x:=z.t) (y:=y.t) (z:=x.t) h2 h1
theorem rX{b:Nat}{vs:Array Value}{ty:TypeId}{fr:Nat × Nat}(f:Array Value->Array Value) (hb:w.heap[b]?=some (.cells vs ty fr)):mapBlock w b f=w.setRow b (f vs):=by
 unfold mapBlock World.setRow;congr 1
 apply pc;intro k;simp only[my];by_cases a:b=k
 ·subst a;simp only[if_true,hb,bq,onCells]
 simp[a]
theorem nF{E:Type} [Inhabited E] {ev:E->List Value}{k:Nat}{b m:Nat}{dk:Array E}{os:Array Obj}{g:Nat}{o:Obj}(hg:w.heap[g]?=some o) (hne:g≠b):(sortWorldK ev k w b 0 m dk os).heap[g]?=some o:=by have a:=(aO.1 hg).1;unfold sortWorldK;simp only[Go.Sort.grow];rw[cT (by unfold putRowK putRow mapBlock;simpa using a)];unfold putRowK putRow mapBlock;simp[my,Ne.symm hne,hg]
theorem GX [DFlag] (hr:HRel prog B A0 σ h w){i0 b c:Nat}{l:Lq}(hs:∀t∈l,t.size<4000000) (hid:h[i0]?=some (.cells (bQ l) .live)) (hb:σ[i0]?=some (some b)) (hl:l.length<4611686018427387904) :
  Calls prog 250 #[.slice (some ⟨b,0,none⟩) l.length c,.func (.func 144) #[] #[]] w (λe w'=>∃v,e=.returned v/\Go.V.er prog B A0 σ h w (.tuple []) (h.set i0 (.cells (bQ (srt l)) .live)) v w'):=by
 have⟨b',vs,ty,z,hB,d,q9,q7,hrel⟩:=hr.cells i0 _ .live hid s_;rw[hb]at z;simp only[aA]at z;subst z;have q8:=eR l;have⟨u,O,Q⟩:=els (A:=Alw prog B A0 σ h) (w:=w) (vs:=vs) l 0 hs (λk x v s F=>by rw[cH]at F;exact Ho s (hrel k x v s F)) o_
 have G:u.length=l.length:=by rw[<-O];simp
 have q':b<w.heap.size:=(aO.1 d).1;have q0:∀k o,Alw prog B A0 σ h k o->k≠b:=λk o D e=>by subst e;unfold Alw at D;rw[if_neg o_]at D;exact D.1 i0 _ hid hb
 have up:∀(m:Nat) (E:Array Obj) (S:Array (El (Alw prog B A0 σ h) w)) (k o:Nat) x,Alw prog B A0 σ h k o->w.cell? ⟨k,o,none⟩=some x->(sortWorldK El.vs 4 w b 0 m S E).cell? ⟨k,o,none⟩=some x:=λm E S k o x D Z=>by have hk:=World.block_lt_of_cell? w _ Z;unfold sortWorldK;rw[cell?_grow _ _ _ (by unfold putRowK putRow mapBlock;simpa using hk),cell?_putRowK_other (h:=q0 k o D)];exact Z
 have U:CmpLays prog 144 #[] El.vs 4 (λx y:El (Alw prog B A0 σ h) w=>x.t.cmp y.t) b 0 u.toArray.size w:=by
  intro m E S _ x y;have go:∀ {a:AV}{v:Value},IRel (Alw prog B A0 σ h) w a v->IRel (λ_ _=>True) (sortWorldK El.vs 4 w b 0 m S E) a v:=λr=>r.mono λk o x D Z=>⟨trivial,up m E S k o x D Z⟩
  exact Go.VP.LQ x.t y.t x.small y.small ⟨λg a N=>go (hr.gr.1 g a N),λg n N=>by have⟨z',f,q1,q2,z,e2⟩:=hr.tab g n N;exact⟨f,q1,q2,nF z o_,e2⟩⟩ (go x.rel) (go y.rel)
 have hH:HoldsK El.vs 4 w b 0 u.toArray:=by
  intro j I;have z0:j<4*l.length:=by simp[size_flatK]at I;omega
  have hd:j/4<u.length:=o_;have N:=Q (j/4) (j%4) hd (gq _ o_);rw[show 0+(4*(j/4)+j%4)=j by omega]at N;have h4:=(u[j/4]).len;have q:j%4<4:=gq _ o_;refine⟨?_,by simp[World.frozen?,d]⟩;rw[get_flatK _ _ _ _ (by simpa[size_flatK]using I)];simp only[World.cell?,d,cH,lw,aw,if_false,N,id];rw[getElem!_pos u.toArray (j/4) (by simpa using hd)];simp only[oD];rw[getElem!_pos _ _ o_,aC o_]
 have q3:u.toArray.size<4611686018427387904:=by simp;omega
 have J:=AnyQ.slices_SortFunc (P:=prog) laysSort 4 isAgg39 sizeOf39 (El.vs (A:=Alw prog B A0 σ h) (w:=w)) El.len VQ (λx y=>x.t.cmp y.t) aAQ 144 #[] b 0 c u.toArray w (enters_of func144 k_ rfl) U hH q' q3;change Calls prog 250 _ _ _ at J;rw[show u.toArray.size=l.length by simp[G]]at J;refine J.mono ?_;rintro e w' ⟨rfl,p,n,E,hp,q4,rfl⟩;have K:p.size=l.length:=by have:=hp.1;simpa[G]using this
 have hT:p.toList.map El.t=srt l:=by
  have p1:(p.toList.map El.t).Perm l:=by have:=hp.2.2;rw[show l.length=p.size from K.symm,iS,K,show l.length=u.toArray.size by simp[G],iS]at this;rw[<-O];exact this.map _
  refine perm_sorted_eq (p1.trans (srt_perm l).symm) ?_ (srt_sorted l);rw[gk,iZ];intro i j hi I q5;have:=q4 i j (aN _) q5 (by simpa[K]using I);simp only[ltOf,decide_eq_false_iff_not]at this;rw[getElem!_pos p i (by simpa using hi),getElem!_pos p j (by simpa using I)]at this;simpa[le]using this
 obtain⟨f,evs⟩:∃f,f=putCells id 0 (flatK El.vs 4 p) vs:=⟨_,rfl⟩
 have X:putRowK El.vs 4 w b 0 p=w.setRow b f:=by unfold putRowK putRow;rw[rX _ d,evs]
 have hw:sortWorldK El.vs 4 w b 0 n p E=Go.Sort.grow ((w.setRow b f).drewN n) E:=by rw[<-X];rfl
 have Y:f.size=vs.size:=by rw[evs];simp[putCells]
 have q6:(bQ (srt l)).length=4*l.length:=by rw[eR,srt_len]
 have L:∀(k:Nat) x v,(bQ (srt l))[k]?=some x->f[k]?=some v->Rel prog (Alw prog B A0 σ h) σ h w x v:=by
  intro k x v s F;have hk:k<4*l.length:=by rw[<-q6];exact(aB.1 s).1
  have hd:k/4<p.size:=o_;have q:k%4<4:=gq _ o_;have I:k/4<(srt l).length:=by rw[srt_len];omega
  have z:=Ap I q;rw[show 4*(k/4)+k%4=k by omega,s]at z;have et:(srt l)[k/4]=(p[k/4]).t:=by simp[<-hT]
  rw[et]at z;have ev:v=(p[k/4]).vs[k%4]'(by rw[(p[k/4]).len];exact q):=by rw[evs]at F;simp only[putCells,mz,aN,true_and,cH,size_flatK,Nat.sub_zero,id]at F;rw[aT o_,bq,if_pos o_,get_flatK _ _ _ _ o_,getElem!_pos p _ hd,getElem!_pos _ _ (by rw[(p[k/4]).len];exact q)]at F;simpa using F.symm
  exact .data (OM (p[k/4]) z.symm (by rw[ev];exact aC _))
 have M:∀x∈bQ (srt l),x.one=true:=by intro x s;simp only[bQ,bR]at s;have⟨t,_,s⟩:=s;rw[au]at s;simp only[ao,cy,or_false]at s;rcases s with rfl|rfl|rfl|rfl<;>rfl
 have k1:=HRel.write hr hid hb d Y (cs':=bQ (srt l)) o_ M L;have k2:=Step.write (cs':=bQ (srt l)) hr hid hb d Y;have g:Grows (w.setRow b f) (sortWorldK El.vs 4 w b 0 n p E):=by rw[hw];refine⟨rfl,rfl,rfl,by simp[Go.Sort.grow,World.drewN],λk hk=>?_,λ_=>by simp[Go.Sort.grow,World.drewN]⟩;simp only[Go.Sort.grow,World.drewN];exact cT hk
 exact⟨_,rfl,σ,k1.grows g,k2.trans (.grows k1 g),.data (.tuple rfl (λi a v D=>by simp at D))⟩
theorem ER [DFlag]:sN prog 250 sy:=by
 intro g h r E c B F σ w j k o b;unfold sy at c;split at c<;>try(cases c;done)
 ·rename_i x;simp only[aA,aD]at c;obtain⟨rfl,rfl⟩:=c;have⟨l⟩:=j;match l,o,b with
  |[u,v],_,b=>obtain⟨p,d,rfl⟩:=DH (b 0 _ u rfl rfl);have f:=qw (b 1 _ v rfl rfl);subst f;refine(show Calls prog 250 #[.slice p 0 d,.func (.func 144) #[] #[]] w _ from AnyF.slices_SortFunc_none (P:=prog) {laysSort with} p d _ w).mono ?_;rintro e G ⟨rfl,rfl⟩;exact⟨_,rfl,σ,k,.refl _ _ _,.data (.tuple rfl (λi a v b=>by simp at b))⟩
 rename_i I n;split at c<;>try(cases c;done)
 rename_i e;simp only[aA,aD]at c;obtain⟨rfl,rfl⟩:=c;have⟨q,y,s,c3⟩:=e.choose_spec;generalize e.choose=m at q s c3 y ⊢;subst q;have⟨l⟩:=j;match l,o,b with
 |[u,v],_,b=>
  have f:=qw (b 1 _ v rfl rfl);subst f;have z:=b 0 _ u rfl rfl;cases z with
  |data A=>cases A
  |msl D J K L M t N=>exact GX k s c3 D o_
end Go.VZ
namespace Go.VZ
open Go Go.V Go.Proofs Tryz TL
theorem Row.form{h:H}{v:AV}{l:Lq}(r:Row h v l):v=.isl [] .full\/∃id n,v=.msl id 0 4 n none:=by
 rcases r with⟨_,rfl⟩|⟨id,rfl,_⟩
 ·exact .inl rfl
 exact .inr ⟨_,_,rfl⟩
theorem Row.len{h:H}{v:AV}{l:Lq}(r:Row h v l):fB C.P 37 v=some (.int .i64 l.length):=by rcases r with⟨rfl,rfl⟩|⟨id,rfl,_⟩<;>simp[fB,u23]
theorem Row.keep{h h':H}{v:AV}{l:Lq}(r:Row h v l) (k:Keep h h' none):Row h' v l:=by
 rcases r with e|⟨id,rfl,a⟩
 ·exact .inl e
 exact .inr ⟨id,rfl,k.get a s_⟩
theorem TD(t:T) (h:H):cL C.P (h++[.cells [.int .i64 0,.str ⟨#[]⟩,.int .i64 0,.isl [] .full] .live]) 39 (.ptr h.length 0) (enc t)=some (h++[.cells (enc t).cells .live]):=by rw[Jt t _ _ _ _ h,au]
theorem DD(t:T) (h:H):aW C.P (h++[.cells (enc t).cells .live]) 39 (.ptr h.length 0)=some (enc t):=by rw[au];exact CD t h
theorem we:∀l:Lq,io 4 l.length (bQ l)=l.map enc
 |[]=>rfl
 |a::l=>by have:=we l;rw[ip];simp only[aG,io,cP,bk,dh,fo,dl,dO,aS,this,bE]
theorem oG:∀ {h:H}{i:Nat}{cs:LA},h[i]?=some (.cells cs .live)->(bj h)[i]?=some (.cells cs .frozen)
 |[],_,_,e=>by simp at e
 |o::r,0,cs,e=>by simp at e;subst e;rfl
 |o::r,i+1,cs,e=>by
  have:=oG (h:=r) (i:=i) (cs:=cs) (by simpa using e);cases o with
  |cells c a=>cases a<;>simpa[bj]using this
  |_=>simpa[bj]using this
theorem zr{h:H}{v:AV}{l:Lq}(r:Row h v l) (n:Nat) (hn:900000+(bQ l).length+3<=n):fc (bj h) (n+1) v=some (aM l):=by
 rcases r with⟨rfl,rfl⟩|⟨id,rfl,a⟩
 ·rfl
 have b:=oG a;have c:=(eo (h:=bj h) (td l) (rI l) n hn).1;have d:=eR l;simp only[fc,b,c];rw[if_pos o_,dO,we];rfl
def JG(P:Program) (a b:TypeId):AV->Option AV
 |.isl es _=>wa P a b es
 |v=>Ai P a b v
@[go_sem] theorem We (P:Program) (a b:TypeId) (k:IntKind) (x:Int):JG P a b (.int k x)=Ai P a b (.int k x):=(rfl)
@[go_sem] theorem Wn {C:Cfg}{cf:FuncId}{ops:Array Oper}{d:Tmp}{ty:TypeId}{p:String}{af:Array Edge}{l:List Oper}{s:PT}{h:H}{K:PT->H->Prop}(a b:TypeId) (x:Operand) :
  OW C cf ops (⟨some d,.convert a b x,ty,p,af,none⟩::l) s h K↔bO (bi1 (ev s x) (JG C.P a b)) λv=>OW C cf ops l (s.set d v) h K:=OWn (by simp only[opN,bi1,JG];cases ev s x<;>first|rfl|(rename_i c;cases c<;>rfl)) rfl rfl
def Inc(l:Lb):Prop:=∀(i j:Nat) (hi:i<j) (hj:j<l.length),(l[i]' o_).1.cmp l[j].1<0
theorem Jp{a b:Int}(h:thn a b=0):a=0/\b=0:=thn_zero.1 h
theorem xF:∀ {l:Lb}{p:Option T},pk p l=0->(∀b∈l,tt b=0)/\(∀q,p=some q->∀hb:0<l.length,q.cmp l[0].1<0)/\∀(i:Nat) (hi:i+1<l.length),(l[i]' o_).1.cmp l[i+1].1<0
 |[],_,_=>⟨s_,s_,s_⟩
 |b::l,p,h=>by
  rw[pk]at h;have⟨h1,h2⟩:=Jp h;by_cases a:later p b.1=true
  ·rw[if_pos a]at h2;cases h2
  rw[if_neg a]at h2;have⟨e,f,g⟩:=xF h2;refine⟨λc d=>?_,λq j _=>?_,λi hi=>?_⟩
  ·rcases ao.1 d with rfl|d
   ·exact h1
   exact e c d
  ·subst j;simp only[later,decide_eq_true_eq]at a;simpa using a
  cases i with
  |zero=>exact f b.1 rfl (by simpa using hi)
  |succ i=>exact g i (by simpa using hi)
theorem U1{l:Lb}(h:mR l=0):Inc l:=by
 unfold mR at h;split at h
 ·cases h
 have⟨_,_,a⟩:=xF h;intro i j c b;induction j with
 |zero=>omega
 |succ j d=>
  by_cases e:i=j
  ·subst e;exact a i b
  exact cmp_trans (d o_ o_) (a j b)
theorem dF{h:H}{l l':LA}(hd:jd l=some l') (hs:l.all short=true) (hl:l.length<=1000):fc h dD (.tuple l)=some (.tuple l'):=by
 have e:=(eo (h:=h) hd hs 999999 o_).1;have:fc h dD (.tuple l)=(match gE h 999999 l with
  |some l=>some (.tuple l)
  |none=>none):=rfl
 rw[this,e]
def Row2(h:H) (v:AV) (l:Lq):Prop:=(l=[]/\v=.isl [] .full)\/(v=.msl 2 0 4 l.length none/\h[2]?=some (.cells (bQ l) .live))
theorem Row2.row{h:H}{v:AV}{l:Lq}(r:Row2 h v l):Row h v l:=r.elim .inl λe=>.inr ⟨2,e⟩
def zT:T:=.mk 0 ⟨#[]⟩ 0 []
theorem cz{t:T}(h:bh t=0):dS t=0/\t.size<=400/\t.depth<=40:=by
 unfold bh at h;have⟨b,a⟩:=thn_zero.1 h;split at a
 ·cases a
 exact⟨b,o_,o_⟩
theorem E0:∀(l:Lb) (t:T),fk l t=t\/∃b∈l,fk l t=b.2
 |[],_=>.inl rfl
 |b::l,t=>by
  rw[fk];split
  ·exact .inr ⟨b,s_,rfl⟩
  rcases E0 l t with h|⟨c,hc,h⟩
  ·exact .inl h
  exact .inr ⟨c,by simp[hc],h⟩
theorem Bs(l:Lb) (hl:∀b∈l,b.2.size<=400) (t:T):(dK l t).size<=400*t.size:=by
 induction t using T.ind with
 |_ t e=>
  have i:=size_kids t;rw[jM];split
  ·rcases E0 l t with h|⟨b,f,h⟩
   ·rw[h];omega
   rw[h];have:=hl b f;omega
  rw[size_kids];show sizes (t.kids.map (dK l))+1<=_;have:∀m:Lq,(∀k∈m,(dK l k).size<=400*k.size)->sizes (m.map (dK l))<=400*sizes m:=by
   intro m;induction m with
   |nil=>intro _;simp[sizes]
   |cons a m c=>
    intro d;have j:=d a s_;have n:=c λk g=>d k (by simp[g])
    rw[aS,sizes,sizes];omega
  have:=this t.kids e;omega
def fZ(l:Lb) (t:T):T × Int:=if mR l≠0 then(zT,mR l)else if bh t≠0 then(zT,bh t)else if bh (dK l t)≠0 then(zT,bh (dK l t))else(dK l t,0)
theorem sk{l:Lb}(h:mR l=0):Inc l/\l.length<=200/\∀b∈l,b.1.size<=400/\b.2.size<=400:=by
 refine⟨U1 h,?_,λb d=>?_⟩
 ·unfold mR at h;split at h
  ·cases h
  omega
 unfold mR at h;split at h
 ·cases h
 have c:=(xF h).1 b d;unfold tt at c;have⟨e,a⟩:=thn_zero.1 c;split at a
 ·cases a
 have⟨f,_⟩:=thn_zero.1 a;exact⟨(cz e).2.1,(cz f).2.1⟩
def iC(r:T × Int):AV:=.tuple [enc r.1,.int .i64 r.2]
theorem rG(h:H) (t:T) (e:Int):fc h dD (iC (t,e))=some (iC (t,e)):=dF (by rw[bE];rfl) (by simp[aq,mC]) s_
theorem xI(h:H) (e:Int):fc h dD (.tuple [.agg [.int .i64 0,.str ⟨#[]⟩,.int .i64 0,.isl [] .full],.int .i64 e])=some (iC (zT,e)):=dF rfl rfl s_
@[go_sem] theorem aAE {C:Cfg}{cf:FuncId}{ops:Array Oper}{d:Tmp}{ty:TypeId}{p:String}{af:Array Edge}{l:List Oper}{s:PT}{h:H}{K:PT->H->Prop}(t:TypeId) (parts:List (Nat × Operand)) :
  OW C cf ops (⟨some d,.build t parts.toArray,ty,p,af,none⟩::l) s h K↔bO (bi1 (gJ s parts) (fK C.P t)) λv=>OW C cf ops l (s.set d v) h K:=OWn (by simp only[opN,bi1];cases gJ s parts<;>rfl) rfl rfl
theorem A2:fK C.P 39 []=some (.agg [.int .i64 0,.str ⟨#[]⟩,.int .i64 0,.isl [] .full]):=k_
theorem Ma(a b c d:AV) (y:VObj) (l:List VObj) (a' b' c' d':AV):cL C.P (y::.cells [a,b,c,d] .live::l) 39 (.ptr 1 0) (.agg [a',b',c',d'])=some (y::.cells [a',b',c',d'] .live::l):=by simp[cL,s25]
theorem W8(t:T) (a b c d:AV) (y:VObj) (l:List VObj):cL C.P (y::.cells [a,b,c,d] .live::l) 39 (.ptr 1 0) (enc t)=some (y::.cells (enc t).cells .live::l):=by simp[cL,s25,au];rw[bE];rfl
theorem TQ(t:T) (x y:VObj):aW C.P [x,y,.cells (enc t).cells .live] 39 (.ptr 2 0)=some (enc t):=DD t [x,y]
theorem fI(l:Lq):fB C.P 37 (aM l)=some (.int .i64 l.length):=by simp[aM,dX]
theorem eJ(l:Lq) (k:Nat) (hk:k<l.length):bH C.P 37 (aM l) (.int .i64 k)=some (.iptr (enc l[k]) 0):=kM l k hk .unk
theorem pM{cs:LA}:∀(h:H) (i:Nat),h[i]?=some (.cells cs .live)->(bj h)[i]?=some (.cells cs .frozen)
 |[],i,e=>by cases e
 |o::r,0,e=>by
  have:o=.cells cs .live:=by simpa using e
  subst this;rfl
 |o::r,i+1,e=>by
  have a:r[i]?=some (.cells cs .live):=by simpa using e
  have:=pM r i a;cases o with
  |cells c b=>cases b<;>simpa[bj]using this
  |_=>simpa[bj]using this
theorem L8{C:Cfg}{cf:FuncId}{R:Ex->PT->H->Prop}{k:List It}{s s':PT}{h h':H}(id:Nat) (ops:Array Oper) (hm:C.mix cf id=true) (hc:C.cut cf id=none) (hx:ym C (Go.V.Call C) cf ops s h=some (s',h')) (hk:N C cf R k s' h'):W C cf R (.region id ops true) k s h:=
 ⟨.normal,s',h',by rw[S8 id ops hm hc,hx],hk⟩
end Go.VZ
namespace Go.V
open Go
def MX(C:Cfg) (cf:FuncId) (ops:Array Oper) (base:Nat) (K:PT->H->List FP->Prop):Nat->List Oper->PT->H->List FP->Prop
 |_,[],s,h,F=>K s h F
 |i,o::l,s,h,F=>∃v h2 f,gg C (Call C) cf ops base i o s h=some (v,h2,f)/\MX C cf ops base K (i+1) l (jB s o.dst v) h2 (F++[f])
theorem Tg{C:Cfg}{cf:FuncId}{ops:Array Oper}{base:Nat}{K:PT->H->List FP->Prop}{s0:PT}{h0:H}:∀(l:List Oper) (i:Nat) (s:PT) (h:H) (F:List FP),i+l.length=ops.size->ops.toList.drop i=l ->
  lM C (Call C) cf ops base i s0 h0=some (s,h,F)->MX C cf ops base K i l s h F->∃s' h' F',lM C (Call C) cf ops base ops.size s0 h0=some (s',h',F')/\K s' h' F'
 |[],i,s,h,F,hi,_,hs,hm=>⟨s,h,F,by rw[<-hi];exact hs,hm⟩
 |o::l,i,s,h,F,hi,hd,hs,⟨v,h2,f,e,hm⟩=>by
  have hlt:i<ops.size:=by simp only[aG]at hi;omega
  have a:ops[i]?=some o:=by have:=congrArg (λl=>l[0]?) hd;simpa using this
  refine Tg l (i+1) _ _ _ (by simp only[aG]at hi;omega) (by rw[<-List.tail_drop,hd];rfl) ?_ hm;simp only[lM,hs,a,e]
def nH:AV->List Nat
 |.ptr id _=>[id]
 |_=>[]
section
variable {C:Cfg}{cf:FuncId}{ops:Array Oper}{base:Nat}{K:PT->H->List FP->Prop}{i:Nat}{l:List Oper}{s:PT}{h:H}{F:List FP}
theorem K1{o:Oper}(ha:dW o=false) (hl:jS o=false):ll C s h o=some ([],false):=by
 unfold ll;rw[if_neg (by rw[ha];simp)];unfold jS at hl;split
 ·rename_i e;rw[e]at hl;cases hl
 rfl
theorem Pj{o:Oper}(v:AV) (hg:o.guard=none) (ha:dW o=false) (hl:jS o=false) (hp:dZ h[base+i]?=true) (hv:opN C.P s o=some v) (hm:v.mv h.length (base+i)=v)
  (hk:MX C cf ops base K (i+1) l (jB s o.dst v) h (F++[([],[])])):MX C cf ops base K i (o::l) s h F:=by
 refine⟨v,h,([],[]),?_,hk⟩;unfold gg;rw[if_pos (by simp[Region.wanted,hg]),K1 ha hl,wF ha hl,hv];dsimp only;rw[if_pos ⟨o_,rfl,hp⟩,hm];rfl
theorem bc{d:Tmp}{op:Op}{ty:TypeId}{p:String}{af:Array Edge}(v:AV) (ha:dW ⟨some d,op,ty,p,af,none⟩=false) (hl:jS ⟨some d,op,ty,p,af,none⟩=false) (hp:dZ h[base+i]?=true) (hv:opN C.P s ⟨some d,op,ty,p,af,none⟩=some v) (hm:v.mv h.length (base+i)=v)
  (hk:MX C cf ops base K (i+1) l (s.set d v) h (F++[([],[])])):MX C cf ops base K i (⟨some d,op,ty,p,af,none⟩::l) s h F:=Pj v rfl ha hl hp hv hm hk
theorem eF{d:Tmp}{t ty:TypeId}{x:Operand}{p:String}{af:Array Edge}(a v:AV) (hx:ev s x=some a) (hv:aW C.P h t a=some v) (hn:(nH a).contains (base+i)=false) (hp:dZ h[base+i]?=true) (hm:v.mv h.length (base+i)=v)
  (hk:MX C cf ops base K (i+1) l (s.set d v) h (F++[(nH a,[])])):MX C cf ops base K i (⟨some d,.load t x,ty,p,af,none⟩::l) s h F:=by
 refine⟨v,h,(nH a,[]),?_,hk⟩;have b:ll C s h ⟨some d,.load t x,ty,p,af,none⟩=some (nH a,false):=by simp only[ll,dW,aw,if_false,hx];cases a<;>rfl
 unfold gg;rw[if_pos (by simp[Region.wanted]),b,AK rfl];simp only[hx,hv];rw[if_pos ⟨o_,hn,hp⟩,hm];rfl
theorem wT(p:Nat) (h:H):fin p [] h h=h:=by apply cU;intro j;rw[nY];simp
theorem tY{p:Nat}{h:H}{y:VObj}(hp:p<h.length):fin p [] h (h++[y])=h.set p (y.mv h.length p):=by
 apply cU;intro j;rw[nY,dq];by_cases e:p=j
 ·subst e;simp[hp]
 simp[e,show ¬j=p from λh=>e h.symm]
theorem uV{p id:Nat}{h:H}{z:VObj}(hp:id≠p):fin p [id] h (h.set id z)=h.set id (z.mv h.length p):=by
 apply cU;intro j;rw[nY];by_cases e:id=j
 ·subst e;by_cases b:id<h.length
  ·simp[b,hp]
  simp[b]
 by_cases c:j=p
 ·subst c;have d:(h.set id z)[h.length]?=none:=s_;rw[d,aE e (a:=z.mv h.length j)];simp
 simp[e,c,show ¬j=id from λh=>e h.symm]
theorem xX{h:H}{p:Nat}(hp:dZ h[p]?=true):p<h.length:=by
 cases e:h[p]? with
 |none=>rw[e]at hp;cases hp
 |some x=>exact(aB.1 e).1
theorem wu{d:Tmp}{ty:TypeId}{p:String}{af:Array Edge}{f:FuncId}{args:List Operand}{at_:Array TypeId}(al:LA) (v:AV) (hb:eE C.P f=true) (hmd:C.mode f=.strip) (hx:evs s args=some al) (hr:cY h dD al=[])
  (hc:ak C h (.func f []) (some al)=some (v,h)) (hp:dZ h[base+i]?=true) (hm:v.mv h.length (base+i)=v)
  (hk:MX C cf ops base K (i+1) l (s.set d v) h (F++[([base+i],[base+i])])):MX C cf ops base K i (⟨some d,.call {callee:=.value (.func f),args:=args.toArray,argTypes:=at_},ty,p,af,none⟩::l) s h F:=by
 refine⟨v,h,([base+i],[base+i]),?_,hk⟩;have a:ll C s h ⟨some d,.call {callee:=.value (.func f),args:=args.toArray,argTypes:=at_},ty,p,af,none⟩=some ([],true):=by simp only[ll,dW,if_true,hx,ev,hb,hmd,bm,hr]
 have b:opV C (Call C) cf s h ⟨some d,.call {callee:=.value (.func f),args:=args.toArray,argTypes:=at_},ty,p,af,none⟩=some (v,h):=by rw[lh rfl,<-hc];simp only[opA,hx,ev,ak]
 unfold gg;rw[if_pos (by simp[Region.wanted]),a,b];dsimp only;rw[if_pos ⟨o_,rfl,hp⟩,hm,if_pos rfl,if_pos rfl,wT]
theorem GE{o:Oper}(v:AV) (y:VObj) (hg:o.guard=none) (hf:ll C s h o=some ([],true)) (ho:opV C (Call C) cf s h o=some (v,h++[y])) (hp:dZ h[base+i]?=true)
  (hk:MX C cf ops base K (i+1) l (jB s o.dst (v.mv h.length (base+i))) (h.set (base+i) (y.mv h.length (base+i))) (F++[([base+i],[base+i])])):MX C cf ops base K i (o::l) s h F:=by
 refine⟨v.mv h.length (base+i),h.set (base+i) (y.mv h.length (base+i)),([base+i],[base+i]),?_,hk⟩;unfold gg;rw[if_pos (by simp[Region.wanted,hg]),hf,ho];dsimp only;rw[if_pos ⟨s_,rfl,hp⟩,if_pos rfl,if_pos rfl,tY (xX hp)]
theorem rA{d:Tmp}{t ty:TypeId}{p:String}{af:Array Edge}(z:AV) (hz:iH C.P t=some z) (hp:dZ h[base+i]?=true)
  (hk:MX C cf ops base K (i+1) l (s.set d (.ptr (base+i) 0)) (h.set (base+i) ((VObj.cells z.cells .live).mv h.length (base+i))) (F++[([base+i],[base+i])])):MX C cf ops base K i (⟨some d,.alloc t,ty,p,af,none⟩::l) s h F:=by
 refine GE (.ptr h.length 0) (.cells z.cells .live) rfl rfl ?_ hp ?_
 ·rw[lh rfl];simp only[opA,hz]
 have:(AV.ptr h.length 0).mv h.length (base+i)=.ptr (base+i) 0:=by simp[AV.mv]
 rw[this];exact hk
theorem lR{t ty:TypeId}{a x:Operand}{p:String}{af:Array Edge}(id off:Nat) (v:AV) (z:VObj) (hx:ev s a=some (.ptr id off)) (hv:ev s x=some v) (hs:cL C.P h t (.ptr id off) v=some (h.set id z)) (hn:id≠base+i) (hp:dZ h[base+i]?=true)
  (hk:MX C cf ops base K (i+1) l (s) (h.set id (z.mv h.length (base+i))) (F++[([base+i,id],[base+i,id])])):MX C cf ops base K i (⟨none,.store t a x,ty,p,af,none⟩::l) s h F:=by
 refine⟨AV.undef,h.set id (z.mv h.length (base+i)),([base+i,id],[base+i,id]),?_,hk⟩;have b:ll C s h ⟨none,.store t a x,ty,p,af,none⟩=some ([id],true):=by simp only[ll,dW,if_true,hx]
 have c:opV C (Call C) cf s h ⟨none,.store t a x,ty,p,af,none⟩=some (AV.undef,h.set id z):=by rw[lh rfl];simp only[opA,hx,hv,hs]
 unfold gg;rw[if_pos (by simp[Region.wanted]),b,c];dsimp only;rw[if_pos ⟨s_,by simpa using λe=>hn e.symm,hp⟩,if_pos rfl,if_pos rfl,uV hn];rfl
end
end Go.V
namespace Go.VZ
open Go Go.V Go.Proofs Tryz TL
theorem ue{C:Cfg}{cf:FuncId}{R:Ex->PT->H->Prop}{k:List It}{s:PT}{h:H}(id:Nat) (ops:Array Oper) (hm:C.mix cf id=true) (ht:sO ops=true)
  (hx:MX C cf ops h.length (λs' h' F=>ri ops F=true/\N C cf R k s' h') 0 ops.toList s (h++List.replicate ops.size .void) []) (hc:C.cut cf id=none:=by rfl):W C cf R (.region id ops true) k s h:=by
 have⟨s',h',F,e,a,b⟩:=Tg ops.toList 0 s _ [] s_ rfl rfl hx;exact L8 id ops hm hc (by simp only[ym,ht,if_true,e,a]) b
end Go.VZ
namespace Go.VZ
open Go Go.V Go.Proofs Tryz TL
theorem fR(i k:Nat) (t:T):(enc t).mv i k=enc t:=by cases t;simp only[enc,AV.mv,AV.mvs]
theorem uM(i k:Nat) (t:T):VObj.mv i k (.cells (enc t).cells .live)=.cells (enc t).cells .live:=by rw[au];rfl
structure Pl (h H0:H) (n:Nat):Prop where
 len:H0.length=h.length+n
 old:∀j,j<h.length->H0[j]?=h[j]?
 void:∀i,i<n->H0[h.length+i]?=some .void
theorem Pl.mk'(h:H) (n:Nat):Pl h (h++List.replicate n .void) n:=⟨s_,λj a=>aP a,λi b=>by rw[aj o_];simp[b]⟩
theorem Pl.isV{h H0:H}{n:Nat}(p:Pl h H0 n){i:Nat}(hi:i<n):dZ H0[h.length+i]?=true:=by rw[p.void i hi];rfl
theorem Pl.get{h H0:H}{n:Nat}(p:Pl h H0 n){j:Nat}{o:VObj}(hj:h[j]?=some o):H0[j]?=some o:=by rw[p.old j (aB.1 hj).1];exact hj
theorem kw{H0:H}{a b:Nat}{y:VObj}(hb:dZ H0[b]?=true) (h:a≠b):dZ (H0.set a y)[b]?=true:=by rw[aE h];exact hb
theorem wM{h:H}{i:Nat}(t:T) (hi:h[i]?=some (.cells (enc t).cells .live)):aW C.P h 39 (.ptr i 0)=some (enc t):=by rw[au]at hi;simp[aW,hi,aZ,a25,s25];rw[bE]
theorem ig{i o k:Nat}(h:i≠k):(nH (.ptr i o)).contains k=false:=by simpa[nH]using λe=>h e.symm
end Go.VZ
namespace Go.V
open Go
section
variable {C:Cfg}{cf:FuncId}{ops:Array Oper}{base:Nat}{K:PT->H->List FP->Prop}{i:Nat}{l:List Oper}{s:PT}{h:H}{F:List FP}
theorem Pk{o:Oper}(T:List Nat) (v:AV) (h' g:H) (hg:o.guard=none) (hf:ll C s h o=some (T,true)) (ho:opV C (Call C) cf s h o=some (v,h')) (hl:h'.length<=h.length+1) (hT:T.contains (base+i)=false) (hp:dZ h[base+i]?=true)
  (hfin:fin (base+i) T h h'=g) (hk:MX C cf ops base K (i+1) l (jB s o.dst (v.mv h.length (base+i))) g (F++[((base+i)::T,(base+i)::T)])):MX C cf ops base K i (o::l) s h F:=by
 refine⟨v.mv h.length (base+i),g,((base+i)::T,(base+i)::T),?_,hk⟩;unfold gg;rw[if_pos (by simp[Region.wanted,hg]),hf,ho];dsimp only;rw[if_pos ⟨hl,hT,hp⟩,if_pos rfl,if_pos rfl,hfin]
theorem CJ{d:Tmp}{ty:TypeId}{p:String}{af:Array Edge}{f:FuncId}{args:List Operand}{at_:Array TypeId}{al:LA}(hb:eE C.P f=true) (hmd:C.mode f=.strip\/C.mode f=.ownM) (hx:evs s args=some al) (hr:cY h dD al=[]) :
  ll C s h ⟨some d,.call {callee:=.value (.func f),args:=args.toArray,argTypes:=at_},ty,p,af,none⟩=some ([],true):=by
 rcases hmd with e|e<;>simp only[ll,dW,if_true,hx,ev,hb,e,bm,hr]
theorem EX{d:Tmp}{ty:TypeId}{p:String}{af:Array Edge}{f:FuncId}{args:List Operand}{at_:Array TypeId}{al:LA}{v:AV}{h':H}(hx:evs s args=some al) (hc:ak C h (.func f []) (some al)=some (v,h')) :
  opV C (Call C) cf s h ⟨some d,.call {callee:=.value (.func f),args:=args.toArray,argTypes:=at_},ty,p,af,none⟩=some (v,h'):=by
 rw[lh rfl,<-hc];simp only[opA,hx,ev,ak]
theorem Pm{d:Tmp}{ty:TypeId}{p:String}{af:Array Edge}{f:FuncId}{args:List Operand}{at_:Array TypeId}(al:LA) (v:AV) (y:VObj) (hb:eE C.P f=true) (hmd:C.mode f=.strip\/C.mode f=.ownM) (hx:evs s args=some al) (hr:cY h dD al=[])
  (hc:ak C h (.func f []) (some al)=some (v,h++[y])) (hp:dZ h[base+i]?=true)
  (hk:MX C cf ops base K (i+1) l (s.set d (v.mv h.length (base+i))) (h.set (base+i) (y.mv h.length (base+i))) (F++[([base+i],[base+i])])):MX C cf ops base K i (⟨some d,.call {callee:=.value (.func f),args:=args.toArray,argTypes:=at_},ty,p,af,none⟩::l) s h F:=
 GE v y rfl (CJ hb hmd hx hr) (EX hx hc) hp hk
theorem GF{d:Tmp}{ty:TypeId}{p:String}{af:Array Edge}{f:FuncId}{args:List Operand}{at_:Array TypeId}(al:LA) (v:AV) (hb:eE C.P f=true) (hmd:C.mode f=.strip\/C.mode f=.ownM) (hx:evs s args=some al) (hr:cY h dD al=[])
  (hc:ak C h (.func f []) (some al)=some (v,h)) (hp:dZ h[base+i]?=true)
  (hk:MX C cf ops base K (i+1) l (s.set d (v.mv h.length (base+i))) h (F++[([base+i],[base+i])])):MX C cf ops base K i (⟨some d,.call {callee:=.value (.func f),args:=args.toArray,argTypes:=at_},ty,p,af,none⟩::l) s h F:=
 Pk [] v h h rfl (CJ hb hmd hx hr) (EX hx hc) o_ rfl hp (wT _ _) hk
theorem pV{d:Tmp}{t ty:TypeId}{len:Nat}{parts:List (Nat × Operand)}{p:String}{af:Array Edge}(ps:List (Nat × AV)) (v:AV) (hx:gJ s parts=some ps) (hr:cY h dD (ps.map (·.2))=[])
  (hc:cI C.P h t len ps=some (v,h)) (hp:dZ h[base+i]?=true)
  (hk:MX C cf ops base K (i+1) l (s.set d (v.mv h.length (base+i))) h (F++[([base+i],[base+i])])):MX C cf ops base K i (⟨some d,.buildSlice t len parts.toArray,ty,p,af,none⟩::l) s h F:=by
 refine Pk [] v h h rfl ?_ ?_ o_ rfl hp (wT _ _) hk
 ·simp only[ll,dW,if_true,hx,hr]
 rw[lh rfl];simp only[opA,hx,hc]
theorem nS{d:Tmp}{ty t:TypeId}{a b:Operand}{p:String}{af:Array Edge}(va vb v:AV) (h' g:H) (hx:ev s a=some va) (hy:ev s b=some vb) (hc:bu C.P (C.wr cf d) h t va vb=some (v,h')) (hl:h'.length<=h.length+1)
  (hT:(ce va++iV va++ce vb).contains (base+i)=false) (hp:dZ h[base+i]?=true) (hfin:fin (base+i) (ce va++iV va++ce vb) h h'=g)
  (hk:MX C cf ops base K (i+1) l (s.set d (v.mv h.length (base+i))) g (F++[((base+i)::(ce va++iV va++ce vb),(base+i)::(ce va++iV va++ce vb))])):MX C cf ops base K i (⟨some d,.call {callee:=.builtin .append,args:=#[a,b],argTypes:=#[t,t]},ty,p,af,none⟩::l) s h F:=by
 refine Pk _ v h' g rfl ?_ ?_ hl hT hp hfin hk
 ·simp only[ll,dW,if_true,hx,hy]
 rw[lh rfl];simp only[opA,hx,hy,wrO,hc,if_true]
theorem E5{p id:Nat}{h:H}{z y:VObj}(hp:p<h.length) (hn:id≠p):fin p [id] h (h.set id z++[y])=(h.set id (z.mv h.length p)).set p (y.mv h.length p):=by
 apply cU;intro j;rw[nY,dq,dq];by_cases e:p=j
 ·subst e;simp[hp]
 by_cases a:id=j
 ·subst a;by_cases b:id<h.length
  ·simp[e,b,hn,aP]
  simp[e,b,hn]
 simp[e,a,show ¬j=p from λh=>e h.symm,show ¬j=id from λh=>a h.symm]
end
end Go.V
namespace Go.VZ
open Go Go.V Go.Proofs Tryz TL
theorem Ed(l:LA) (h:∀a∈l,∀i k,a.mv i k=a) (i k:Nat):AV.mvs i k l=l:=tH λ_j a b=>h a (ai b) i k
theorem xL{s:PT}{x:Operand}{v:AV}(h:ev s x=some v) (hn:bf v=true):gJ s [(0,x)]=some [(0,v)]:=by simp[gJ,h,hn]
theorem ga{h g:H}{j:Nat}{o:VObj}(e:h[j]?=some o):(h++g)[j]?=some o:=by rw[aP (aB.1 e).1];exact e
theorem cM{e:TypeId}{h:H}{v:AV}{xs:LA}(o:OwnR e h v xs){i:Nat}{cs:LA}{st:OSt}(hi:h[i]?=some (.cells cs st)):bv v≠some i:=by
 intro b;rcases o with rfl|⟨a,rfl,c⟩
 ·cases b
 simp only[bv,aA]at b;subst b;rw[c]at hi;cases hi
def aA6(l:List Int):AV:=.isl (l.map (AV.int .i64)) .unk
theorem s4:cr C.P 4=some 1:=k_
theorem a4:fJ C.P 4=some false:=k_
attribute [go_sem] s4 a4
theorem DE(v:Int) (h:H):aW C.P h 3 (.iptr (.int .i64 v) 0)=some (.int .i64 v):=by simp[aW,aZ,a3,s3,AV.cells]
theorem b3:hG C.P 3=some 8:=k_
theorem b4:hG C.P 4=some 1:=k_
theorem z3:gH C.P 3=true:=k_
def Ok3(i3:Nat) (pr:List (Nat × VObj)) (h:H) (l:Lq):Prop:=∃v,h[i3]?=some (.cells [v] .live)/\Row h v l/\∀p∈pr,h[p.1]?=some p.2/\p.1≠i3/\bv v≠some p.1
theorem Mq{h:H}{v:AV}{l:Lq}(r:Row h v l){i:Nat}(e:bv v=some i):i<h.length:=by
 rcases r with⟨rfl,rfl⟩|⟨id,rfl,a⟩
 ·cases e
 simp only[bv,aA]at e;subst e;exact(aB.1 a).1
theorem Gl{h g:H}{v:AV}{l:Lq}(r:Row h v l):Row (h++g) v l:=by
 rcases r with⟨rfl,rfl⟩|⟨id,rfl,a⟩
 ·exact .inl ⟨rfl,rfl⟩
 exact .inr ⟨id,rfl,ga a⟩
theorem Ok3.push{i3:Nat}{pr:List (Nat × VObj)}{h:H}{l:Lq}(k:Ok3 i3 pr h l) (o:VObj):Ok3 i3 ((h.length,o)::pr) (h++[o]) l:=by
 have⟨v,b,c,d⟩:=k;refine⟨v,ga b,Gl c,λp a=>?_⟩;rcases ao.1 a with rfl|a
 ·exact⟨s_,λe=>by have:=(aB.1 b).1;simp only at e;omega,λe=>by have:=Mq c e;simp only at this;omega⟩
 exact⟨ga (d p a).1,(d p a).2⟩
theorem Ok3.less{i3:Nat}{pr pr':List (Nat × VObj)}{h:H}{l:Lq}(k:Ok3 i3 pr h l) (hp:∀p∈pr',p∈pr):Ok3 i3 pr' h l:=by have⟨v,a,b,c⟩:=k;exact⟨v,a,b,λp h=>c p (hp p h)⟩
theorem Ok3.at_{i3:Nat}{pr:List (Nat × VObj)}{h:H}{l:Lq}(k:Ok3 i3 pr h l){j:Nat}{o:VObj}(hp:(j,o)∈pr):h[j]?=some o:=by have⟨v,b,c,a⟩:=k;exact(a _ hp).1
def Clo(g:FuncId) (caps:LA) (i3:Nat) (pr0:List (Nat × VObj)) (f:T->Lq):Prop:=∀(t:T) (h:H) (l:Lq),t.size<4000000->l.length<100000000->Ok3 i3 pr0 h l ->
 ∃h',ak C h (.func g caps) (some [enc t])=some (.tuple [],h')/\∀pr,Ok3 i3 pr h l->Ok3 i3 pr h' (l++f t)
def zt:AV:=.agg [.int .i64 0,.str ⟨#[]⟩,.int .i64 0,.isl [] .full]
def zu:AV:=.agg [.int .i64 0,.str ⟨#[]⟩,.int .i64 0,.isl [] .unk]
def zuc:LA:=[.int .i64 0,.str ⟨#[]⟩,.int .i64 0,.isl [] .unk]
theorem Lu(h:H):cI C.P h 37 1 [(0,zt)]=some (.isl [zu] .full,h):=cG u23 s25 z25 rfl o_ rfl (es:=[zu]) rfl rfl s_ rfl
theorem KA(h:H):cY h dD [zt]=[]:=(eo (h:=h) (l:=[zt]) (l':=[zu]) rfl rfl dD (by simp[dD])).2
theorem Yd(h:H):bu C.P true h 37 (.isl [] .full) (.isl [zu] .full)=some (.msl h.length 0 4 1 none,h++[.cells zuc .live]):=by
 have a:qM h 4 (.isl [zu] .full)=some (zuc,1):=by simp[qM,gn,zu,aV,zuc]
 simp only[bu,mX,du,if_false,aw,fM,u23,s25,b25,z25,a];simp[gn]
theorem Yc{h:H}{id:Nat}{l:Lq}(hid:h[id]?=some (.cells (bQ l) .live)) (hl:l.length<100000000):bu C.P true h 37 (.msl id 0 4 l.length none) (.isl [zu] .full)=some (.msl h.length 0 4 (l.length+1) none,h.set id (.cells (bQ l) .dead)++[.cells (bQ l++zuc) .live]):=by
 have a:qM h 4 (.isl [zu] .full)=some (zuc,1):=by simp[qM,gn,zu,aV,zuc]
 have b:=eR l;simp only[bu,mX,du,if_false,aw,fM,u23,s25,b25,z25,a,hid];rw[if_neg s_,if_neg s_,if_pos ⟨trivial,trivial,o_,o_⟩,cq o_]
theorem W7{h:H}{id:Nat}{l:Lq}(x:T) (hid:h[id]?=some (.cells (bQ l++zuc) .live)):cL C.P h 39 (.ptr id (4*l.length)) (enc x)=some (h.set id (.cells (bQ (l++[x])) .live)):=by
 have a:=eR l;have e:bQ (l++[x])=bQ l++(enc x).cells:=by simp[bQ]
 rw[e];simp only[cL,hid,s25];rw[bE];have b:(bQ l++zuc).length=4*l.length+4:=by simp[a,zuc]
 simp only[aG,aQ,b];rw[if_pos ⟨trivial,o_⟩,dV o_,cq o_,eH o_,bm];rfl
theorem Gz(l:Lq) (i k:Nat):AV.mvs i k (bQ l)=bQ l:=Ed _ (by
 intro a b i k;simp only[bQ,bR]at b;have⟨f,_,b⟩:=b;rw[au]at b;simp only[ao,cy,or_false]at b;rcases b with rfl|rfl|rfl|rfl<;>rfl) i k
theorem uN(l:Lq) (i k:Nat):VObj.mv i k (.cells (bQ l) .live)=.cells (bQ l) .live:=by simp[VObj.mv,Gz]
theorem G0(l:Lq) (i k:Nat):VObj.mv i k (.cells (bQ l++zuc) .live)=.cells (bQ l++zuc) .live:=by
 have:AV.mvs i k (bQ l++zuc)=bQ l++zuc:=Ed _ (by
  intro a b i k;rcases ac.1 b with b|b
  ·simp only[bQ,bR]at b;have⟨f,_,b⟩:=b;rw[au]at b;simp only[ao,cy,or_false]at b;rcases b with rfl|rfl|rfl|rfl<;>rfl
  simp only[zuc,ao,cy,or_false]at b;rcases b with rfl|rfl|rfl|rfl<;>rfl) i k
 simp[VObj.mv,this]
theorem Ib{h:H}{v:AV}{l:Lq}(r:Row h v l){i:Nat}{x:AV}{st:OSt}(hi:h[i]?=some (.cells [x] st)):bv v≠some i:=by
 intro e;rcases r with⟨rfl,rfl⟩|⟨id,rfl,a⟩
 ·cases e
 simp only[bv,aA]at e;subst e;rw[a]at hi;have:=eR l;simp only[aA,VObj.cells.injEq]at hi;rw[hi.1]at this;simp at this;omega
theorem TS{h:H}{i:Nat}{v:AV}{l:Lq}(hi:h[i]?=some (.cells [v] .live)) (r:Row h v l):aW C.P h 37 (.ptr i 0)=some v:=by rcases r with⟨rfl,rfl⟩|⟨id,rfl,a⟩<;>simp[aW,hi,aZ,a23,s23]
theorem W9{h:H}{i:Nat}{v u:AV}(hi:h[i]?=some (.cells [v] .live)) (hu:∃id n,u=.msl id 0 4 n none):cL C.P h 37 (.ptr i 0) u=some (h.set i (.cells [u] .live)):=by obtain⟨id,n,rfl⟩:=hu;simp[cL,hi,s23]
theorem Ud{h:H}{v:AV}{l:Lq}(r:Row h v l):fB C.P 37 v=some (.int .i64 l.length):=by
 rcases r with⟨rfl,rfl⟩|⟨id,rfl,a⟩
 ·simp[fB,u23]
 simp[fB,u23]
theorem evc(s:PT):ev s (.const (.agg #[.int .i64 0,.string ⟨#[]⟩,.int .i64 0,.slice none 0 0]))=some zt:=k_
theorem zH{i o n k:Nat}(h:i<n):(AV.ptr i o).mv n k=.ptr i o:=by simp[AV.mv];omega
theorem FX{f:FuncId}{args caps:LA}{h:H}(hb:eE C.P f=true) (hm:C.mode f=.openH):ak C h (.func f caps) (some args)=Go.V.Call C f (args++caps) h:=by simp only[ak,hb,if_true];unfold dM;rw[hm]
theorem NC{i3 b:Nat}{h H2:H}{l:Lq}{t:T}{v:AV}(k1:h[i3]?=some (.cells [v] .live)) (_k2:Row h v l) (hb:h.length<=b) (e3:H2[i3]?=some (.cells [.msl b 0 4 (l.length+1) none] .live)) (eb:H2[b]?=some (.cells (bQ (l++[t])) .live))
  (ho:∀j,j<h.length->j≠i3->bv v≠some j->H2[j]?=h[j]?):∀pr,Ok3 i3 pr h l->Ok3 i3 pr H2 (l++[t]):=by
 rintro pr ⟨m,f,_,i⟩;rw[k1]at f;simp only[aA,VObj.cells.injEq,bw,and_true]at f;subst f;refine⟨_,e3,.inr ⟨b,s_,eb⟩,λp k=>?_⟩;have⟨a,c,d⟩:=i p k;have g:=(aB.1 a).1;exact⟨by rw[ho _ g c d];exact a,c,λe=>by simp only[bv,aA]at e;omega⟩
def gY(k:Int) (t:T):Lq:=if t.kind=k then [t]else []
end Go.VZ
namespace TL
mutual
def cZ(f:T->Lq):T->Lq
 |.mk k n s l=>f (.mk k n s l)++gm f l
def gm(f:T->Lq):Lq->Lq
 |[]=>[]
 |t::l=>cZ f t++gm f l
end
theorem qb(f:T->Lq) (t:T):cZ f t=f t++gm f t.kids:=by cases t;rfl
theorem nA(f:T->Lq):∀l,gm f l=l.flatMap (cZ f)
 |[]=>rfl
 |t::l=>by rw[gm,nA f l];rfl
theorem ui(f:T->Lq) (l m:Lq):gm f (l++m)=gm f l++gm f m:=by simp[nA]
mutual
theorem kE(f:T->Lq) (hf:∀t,(f t).length<=1):∀t:T,(cZ f t).length<=t.size
 |.mk k n s l=>by have:=ow f hf l;have:=hf (.mk k n s l);rw[cZ,aL,T.size];omega
theorem ow(f:T->Lq) (hf:∀t,(f t).length<=1):∀l:Lq,(gm f l).length<=sizes l
 |[]=>by simp[gm]
 |t::l=>by have:=kE f hf t;have:=ow f hf l;rw[gm,aL,sizes];omega
end
end TL
namespace Go.VZ
open Go Go.V Go.Proofs Tryz TL
def Wk(g:FuncId) (caps:LA) (i3:Nat) (pr0:List (Nat × VObj)) (f:T->Lq) (t:T):Prop:=∀(h:H) (l:Lq),t.size<4000000->l.length+t.size<=90000000->Ok3 i3 pr0 h l ->
 ∃h',Go.V.Call C 199 [enc t,.func g caps] h=some (.tuple [],h')/\∀pr,Ok3 i3 pr h l->Ok3 i3 pr h' (l++cZ f t)
def ZY(g:FuncId) (caps:LA) (i3:Nat) (f:T->Lq) (t:T) (h0:H) (l:Lq) (n:Nat) (st:PT) (h:H):Prop:=∃k:Nat,n=t.kids.length-k/\k<=t.kids.length/\st.get 1=.func g caps/\st.get 10=aM t.kids/\st.get 11=.int .i64 t.kids.length/\st.get 12=.int .i64 k /\
 ∀pr,Ok3 i3 pr h0 l->Ok3 i3 pr h (l++(f t++gm f (t.kids.take k)))
theorem Pv(g:FuncId) (caps:LA) (i3:Nat) (pr0:List (Nat × VObj)) (f:T->Lq) (hf:∀t,(f t).length<=1) (hg:Clo g caps i3 pr0 f):∀t,Wk g caps i3 pr0 f t:=by
 refine T.ind λt J i l K hl ok=>?_
 suffices hh:∃r v,Go.V.Call C 199 [enc t,.func g caps] i=some (r,v)/\(r=.tuple []/\∀d,Ok3 i3 d i l->Ok3 i3 d v (l++cZ f t)) by
  obtain⟨r,v,a,rfl,c⟩:=hh;exact⟨v,a,c⟩
 refine lC rfl func199 rfl k_ (by simp[f199]) λR L=>?_
 have w:∀(h:H) (m:Lq) (o:VObj) d,Ok3 i3 d h m->Ok3 i3 d (h++[o]) m:=λh m o d k=>(k.push o).less λp M=>bZ _ M
 have N:=size_kids t;have E:=DD t i;have⟨F,G,j⟩:=hg t (i++[.cells (enc t).cells .live]) l K o_ (w _ _ _ _ ok);have x:F[i.length]?=some (.cells (enc t).cells .live):=(j _ (ok.push (.cells (enc t).cells .live))).at_ (cJ ..);have I:aW C.P F 37 (.ptr i.length 3)=some (aM t.kids):=by rw[au]at x;simp[aW,x,aZ,a23,s23,aM]
 have y:=fI t.kids;simp[go_sem,kf];rw[<-au];simp[go_sem,E,G,I,y];refine bL (ZY g caps i3 f t i l) t.kids.length ⟨0,rfl,aN _,g_,g_,g_,g_,λd k=>by simpa[gm]using j _ (w _ _ _ _ k)⟩ ?_;clear E I G x j;rintro n st h ⟨k,rfl,hk,O,z,q,s,e⟩;have A:(l++(f t++gm f (t.kids.take k))).length<=l.length+1+sizes (t.kids.take k):=by have:=hf t;have:=ow f hf (t.kids.take k);simp only[aL];omega
 by_cases b:k<t.kids.length
 ·have u:(k:Int)<t.kids.length:=o_;have B:=eJ t.kids k b;have Q:=TD t.kids[k] h;have S:=DD t.kids[k] h;have U:IntKind.i64.wrap ((k:Int)+1)=((k+1:Nat):Int):=by have:=len_sizes t.kids;rw[av o_];omega
  have X:=kid_size (aF b);have Y:=take_sizes b;have Z:=take_sizes_le t.kids (k+1);have⟨h2,c2,ok2⟩:=J t.kids[k] (aF b) (h++[.cells (enc t.kids[k]).cells .live]) (l++(f t++gm f (t.kids.take k))) o_ o_ (w _ _ _ _ (e _ ok));have cv:=(gQ (f:=199) k_ rfl).trans c2;simp[go_sem,O,z,q,s,u,B,gd,Q,S,cv,-Int.natCast_add,U];refine⟨t.kids.length-(k+1),o_,k+1,rfl,b,g_,g_,g_,g_,λd D=>?_⟩;have:=ok2 _ (w _ _ (.cells (enc t.kids[k]).cells .live) _ (e _ D));rw[aJ b,ui];simpa[gm,List.append_assoc]using this
 have:k=t.kids.length:=o_;subst this;rw[ah]at e;simp[go_sem,q,s];refine L _ _ _ (.inl rfl) ⟨.tuple [],rfl,rfl,λd D=>?_⟩;rw[qb];exact e _ D
end Go.VZ
namespace Go.VZ
open Go Go.V Go.Proofs Tryz TL
theorem RL{h:H}{v:AV}{xs:Lq}{i o:Nat}{cs:LA}(y:T) (go:OwnR 39 h v (xs.map enc)) (hi:h[i]?=some (.cells cs .live)) (ho:o<cs.length) (hl:xs.length<10000000) :
  ∃v' h',bu C.P false h 37 v (.isl [enc y] .full)=some (v',h')/\cL C.P h' 37 (.ptr i o) v'=some (h'.set i (.cells (cs.set o v') .live))/\OwnR 39 (h'.set i (.cells (cs.set o v') .live)) v' ((xs++[y]).map enc) /\
   (∀(j:Nat) c st,j≠i->h[j]?=some (.cells c st)->(h'.set i (.cells (cs.set o v') .live))[j]?=some (.cells c st))/\(h'.set i (.cells (cs.set o v') .live))[i]?=some (.cells (cs.set o v') .live):=by
 have⟨v',h',p,l,d,g⟩:=eW (ys:=[y]) (x:=.full) go (by simp;omega);have a:∀(j:Nat) c st,h[j]?=some (.cells c st)->bv v≠some j:=λj c st b=>cM go b
 have f:=d.get hi (a _ _ _ hi);have k:=(aB.1 f).1;refine⟨v',h',by simpa using p,?_,?_,?_,aH k⟩
 ·obtain⟨x,rfl⟩:=l.isl;simp[cL,f,s23,ho]
 ·refine l.keep (Keep.set _ _ _) (λj b e=>?_);simp only[aA]at e;subst e;rcases g with m|⟨m,q⟩
  ·exact a _ _ _ hi (m▸b)
  have:=(aB.1 hi).1;rw[q]at b;simp only[aA]at b;omega
 intro j c st b n;rw[aE (λe=>b e.symm)];exact d.get n (a _ _ _ n)
def tcv(t:T) (v:AV):LA:=[.int .i64 t.kind,.str t.name,.int .i64 t.sort,v]
def ZN(t:T) (m:Nat) (s:PT) (h:H):Prop:=∃(k:Nat) (v:AV),m=t.kids.length-k/\k<=t.kids.length/\s.get 1=.ptr 0 0/\s.get 2=.ptr 1 0/\s.get 9=aM t.kids/\s.get 10=.int .i64 t.kids.length/\s.get 11=.int .i64 k/\h[0]?=some (.cells (tcv t v) .live)/\h[1]?=some (.cells zc .live) /\
 OwnR 39 h v ((t.kids.take k).map enc)
theorem Oh(t:T) (hv:t.size<4000000) (hc:∀k∈t.kids,az C 253 [enc k]=some (enc k)):az C 253 [enc t]=some (enc t):=by
 refine ay func253 rfl λR V=>?_
 have X:=size_kids t;have L:=len_sizes t.kids;have A:=fI t.kids;have Y:∀(y:VObj) (a b c:AV),cL C.P [.cells [a,b,c,aM t.kids] .live,y] 37 (.ptr 0 3) (.isl [] .full)=some [.cells [a,b,c,.isl [] .full] .live,y]:=λy a b c=>by simp[cL,s23]
 have Z:∀(y:VObj) (a b c:AV),aW C.P [.cells [a,b,c,aM t.kids] .live,y] 37 (.ptr 0 3)=some (aM t.kids):=λy a b c=>by simp[aW,aZ,a23,s23,aM]
 simp[go_sem,kf,Y,Z,A];refine bL (ZN t) t.kids.length ⟨0,.isl [] .full,rfl,aN _,g_,g_,g_,g_,g_,rfl,rfl,.inl rfl⟩ ?_;rintro m s h ⟨k,v,rfl,hk,M,N,g9,n,j,O,B,z⟩;have D:=z.isl;have q':bf v=true:=by obtain⟨x,rfl⟩:=D;rfl
 by_cases e:k<t.kids.length
 ·have p:(k:Int)<t.kids.length:=o_;have E:=eJ t.kids k e;have w2:=wS k o_;have ck:∀h,ak C h (.func 253 []) (some [enc t.kids[k]])=some (enc t.kids[k],h):=λh=>aX (cg _) (by simp[aq]) s_ (hc _ (aF e))
  have Q:=TD t.kids[k] h;have q:=DD t.kids[k] h;obtain⟨r,d⟩:∃g,g=h++[.cells (enc t.kids[k]).cells .live]:=⟨_,rfl⟩
  have F:r[0]?=some (.cells (tcv t v) .live):=by rw[d];exact ga O
  have n1:r[1]?=some (.cells zc .live):=by rw[d];exact ga B
  have f:OwnR 39 r v ((t.kids.take k).map enc):=by rw[d];exact z.keep (Keep.append _ _ none) s_
  have nb:r[h.length]?=some (.cells (enc t.kids[k]).cells .live):=by rw[d];simp
  have l0:aW C.P r 37 (.ptr 0 3)=some v:=by simp[aW,F,tcv,aZ,a23,s23]
  rw[<-d]at Q q;have⟨v',h',ha,G,S,u,l⟩:=RL (i:=0) (o:=3) t.kids[k] f F (by simp[tcv]) (by simp;omega);have I:t.kids.take k++[t.kids[k]]=t.kids.take (k+1):=dL e;rw[I]at S;have J:=cM f F;have K:=cM f nb;simp[go_sem,g9,n,j,p,E,gd,Q];refine gS 6 _ (by simp[gM]) rfl ?_;simp[go_sem,M,j,l0,q,ck,dp,ha,G,-Int.natCast_add,w2];refine⟨?_,t.kids.length-(k+1),o_,k+1,v',rfl,e,g_,g_,g_,g_,g_,l,u 1 _ _ o_ n1,S⟩;rcases f with rfl|⟨id,rfl,hd⟩
  ·simp[go_sem,ij,iK,iO,kW,fL,ce]
  simp only[bv,ne_eq,aA]at J K;simp[go_sem,ij,iK,iO,kW,fL,ce]
  (try omega)
 have:k=t.kids.length:=o_;subst this;rw[ah]at z;obtain⟨x,rfl⟩:=z.isl;have q:aW C.P h 39 (.ptr 0 0)=some (.agg [.int .i64 t.kind,.str t.name,.int .i64 t.sort,.isl (t.kids.map enc) x]):=by simp[aW,O,aZ,a25,s25,tcv]
 have U:cL C.P h 39 (.ptr 1 0) (.agg [.int .i64 t.kind,.str t.name,.int .i64 t.sort,.isl (t.kids.map enc) x])=some (h.set 1 (.cells [.int .i64 t.kind,.str t.name,.int .i64 t.sort,.isl (t.kids.map enc) x] .live)):=by simp[cL,B,s25,zc]
 have e7:=(aB.1 B).1;generalize w:AV.agg [.int .i64 t.kind,.str t.name,.int .i64 t.sort,.isl (t.kids.map enc) x]=zz at q U;simp[go_sem,M,N,n,j,q,U];refine V ⟨zz,?_,?_⟩
 ·simp[aY,cC,f253,go_sem,N,aW,aH e7,aZ,a25,s25,<-w]
 rw[bE,<-w];exact aK rfl rfl
theorem Db(t:T):t.size<4000000->az C 253 [enc t]=some (enc t):=by
 induction t using T.ind with
 |_ t b=>exact λc=>Oh t c (λk a=>b k a (by have:=kid_size a;omega))
theorem SH(t:T) (hv:t.size<4000000) (h:H):ak C h (.func 253 []) (some [enc t])=some (enc t,h):=aX (cg _) (by simp[aq]) s_ (Db t hv)
end Go.VZ
namespace TL
def ddj(l:Lq):Nat->Lq
 |0=>[]
 |j+1=>if j≠0/\(l.getD j default).cmp (l.getD (j-1) default)=0 then ddj l j else ddj l j++[l.getD j default]
def dd(l:Lq):Lq:=ddj l l.length
theorem JD(l:Lq):∀j,(ddj l j).length<=j
 |0=>aR _
 |j+1=>by
  have:=JD l j;rw[ddj];split
  ·omega
  simp;omega
theorem wZ{l:Lq}:∀j,j<=l.length->(∀i,0<i->i<j->(l.getD i default).cmp (l.getD (i-1) default)≠0)->ddj l j=l.take j
 |0,_,_=>by simp[ddj]
 |j+1,hj,h=>by rw[ddj,if_neg (λe=>h j o_ o_ e.2),wZ j o_ (λi a b=>h i a o_),aJ o_];simp[aC (show j<l.length by omega)]
theorem DA{l:Lq}{x:T}:∀j,j<=l.length->x∈ddj l j->x∈l
 |0,_,h=>by simp[ddj]at h
 |j+1,hj,h=>by
  rw[ddj]at h;split at h
  ·exact DA j o_ h
  rcases ac.1 h with h|h
  ·exact DA j o_ h
  simp only[bJ]at h;rw[h,bK,aC o_];exact aF _
theorem Uc{l:Lq}{x:T}(h:x∈dd l):x∈l:=DA _ (aR _) h
end TL
namespace Go.V
open Go
section
variable {C:Cfg}{cf:FuncId}{ops:Array Oper}{K:PT->H->Prop}{l:List Oper}{s:PT}{h:H}{d:Option Tmp}{ty:TypeId}{p:String}{af:Array Edge}
@[go_sem] theorem aAZ {P:Program}(t:TypeId) (x lo:Operand) (g:Option (Nat × Bool)):opN P s ⟨d,.slice t x (some lo) none none,ty,p,af,g⟩=bi2 (ev s x) (ev s lo) λa b=>fP P t a (some b) none none:=by simp only[opN,bi2,bq,Option.map_none];cases ev s x<;>cases ev s lo<;>rfl
@[go_sem] theorem aAa {P:Program}(t:TypeId) (x hi:Operand) (g:Option (Nat × Bool)):opN P s ⟨d,.slice t x none (some hi) none,ty,p,af,g⟩=bi2 (ev s x) (ev s hi) λa b=>fP P t a none (some b) none:=by simp only[opN,bi2,bq,Option.map_none];cases ev s x<;>cases ev s hi<;>rfl
@[go_sem] theorem aAC (t:TypeId) (x:Operand):OW C cf ops (⟨none,.call {callee:=.builtin .clear,args:=#[x],argTypes:=#[t]},ty,p,af,none⟩::l) s h K↔bO (bi1 (ev s x) (vc C.P h t)) λh'=>OW C cf ops l s h' K:=by
 rw[qX rfl,bO_iff];simp only[opA,bi1];constructor
 ·rintro⟨v,h',c,e⟩;split at c<;>try(cases c;done)
  rename_i a d;split at c<;>try(cases c;done)
  rename_i f b;simp only[aA,aD]at c;obtain⟨rfl,rfl⟩:=c;exact⟨f,by rw[d];exact b,e⟩
 rintro⟨h',b,e⟩;cases d:ev s x with
 |none=>rw[d]at b;cases b
 |some a=>
  rw[d]at b
  replace b:vc C.P h t a=some h':=b
  exact⟨AV.undef,h',by simp only[b],e⟩
end
end Go.V
namespace Go.VZ
open Go Go.V Go.Proofs Tryz TL
def Zs(r:LA):Prop:=∀x∈r,x=.int .i64 0\/x=.str ⟨#[]⟩\/x=.isl [] .full\/x=.isl [] .unk
def RowZ(N:Nat) (h:H) (v:AV) (l:Lq):Prop:=(l=[]/\v=.isl [] .full)\/∃id rest,v=.msl id 0 4 l.length none/\h[id]?=some (.cells (bQ l++rest) .live)/\Zs rest/\4*l.length+rest.length<=N
theorem Row.z{h:H}{v:AV}{l:Lq}(r:Row h v l):RowZ (4*l.length) h v l:=by
 rcases r with e|⟨id,rfl,a⟩
 ·exact .inl e
 exact .inr ⟨id,[],rfl,by simpa using a,λx b=>by simp at b,s_⟩
theorem tL{h:H}{l:Lq}{rest:LA}{id k:Nat}(hid:h[id]?=some (.cells (bQ l++rest) .live)) (hk:k<l.length):aW C.P h 39 (.ptr id (4*k))=some (enc l[k]):=by
 have b:=sD hk;have a:=eR (l.take k);have c:(l.take k).length=k:=by simp;omega
 rw[c]at a;have d:((bQ l++rest).drop (4*k)).take 4=(enc l[k]).cells:=by rw[b,List.append_assoc,List.append_assoc,List.drop_append_of_le_length o_,<-a,ae,bk,dV (by simp[au])];simp[au]
 have e:=eR l;have f:(bQ l++rest).length=4*l.length+rest.length:=by rw[aL,e]
 simp only[aW,hid,aZ,a25,s25];simp only[d,f];rw[if_pos o_];simp only[au];rw[bE]
theorem Bj{h:H}{l:Lq}{rest:LA}{id k:Nat}(x:T) (hid:h[id]?=some (.cells (bQ l++rest) .live)) (hk:k<l.length):cL C.P h 39 (.ptr id (4*k)) (enc x)=some (h.set id (.cells (bQ (l.set k x)++rest) .live)):=by
 have a:=eR (l.take k);have c:(l.take k).length=k:=by simp;omega
 rw[c]at a;have d:=eR l;have e:bQ (l.set k x)=(bQ l).take (4*k)++(enc x).cells++(bQ l).drop (4*k+4):=by
  have b:=sD hk;have f:=sD (l:=l.set k x) (k:=k) (by simpa using hk);rw[f];have g:(bQ l).take (4*k)=bQ (l.take k):=by rw[b,List.append_assoc,dV o_,cq o_]
  have i:(bQ l).drop (4*k+4)=bQ (l.drop (k+1)):=by
   rw[b,List.drop_append];have:(bQ (l.take k)++(enc l[k]).cells).length=4*k+4:=by simp[a,au]
   rw[this,eH o_];simp
  rw[g,i,List.take_set_of_le o_,List.drop_set_of_lt o_];simp
 have j:(bQ l++rest).length=4*l.length+rest.length:=by rw[aL,d]
 rw[e];simp only[cL,hid,s25];rw[bE];simp only[aG,aQ,j];rw[if_pos ⟨trivial,o_⟩,dV o_,List.drop_append_of_le_length o_];simp[aV,List.append_assoc]
theorem Tj:Zs zc:=λx a=>by simp only[zc,ao,cy,or_false]at a;rcases a with rfl|rfl|rfl|rfl<;>simp
theorem LY{h:H}{l:Lq}{rest:LA}{id k:Nat}(hid:h[id]?=some (.cells (bQ l++rest) .live)) (hk:k<=l.length) (hz:Zs rest) :
  ∃rest',vc C.P h 37 (.msl id (4*k) 4 (l.length-k) none)=some (h.set id (.cells (bQ (l.take k)++rest') .live))/\Zs rest'/\4*k+rest'.length=4*l.length+rest.length:=by
 have c:=eR l;have d:(bQ l++rest).length=4*l.length+rest.length:=by rw[aL,c]
 have e:(bQ l).take (4*k)=bQ (l.take k):=by
  have f:bQ l=bQ (l.take k)++bQ (l.drop k):=by unfold bQ;rw[<-eP,fF]
  have b:=eR (l.take k);rw[f,dV (by rw[b];simp;omega),cq (by rw[b];simp;omega)]
 refine⟨(List.replicate (l.length-k) zc).flatten++rest,?_,?_,by simp[zc];omega⟩
 ·simp only[vc,u23,hid,Jd,s25,aV,d];rw[if_pos ⟨trivial,o_⟩,dV o_,e,List.drop_append,eH (by omega:(bQ l).length<=4*k+(l.length-k)*4)];rw[show 4*k+(l.length-k)*4-(bQ l).length=0 by omega];simp[zc,List.append_assoc]
 intro x a;rcases ac.1 a with a|a
 ·simp only[List.mem_flatten,pX]at a;obtain⟨m,⟨_,rfl⟩,a⟩:=a;exact Tj x a
 exact hz x a
theorem QO(a b:T) (hs:a.size<4000000) (hs2:b.size<4000000):az C 252 [enc a,enc b]=some (.bool (decide (a.cmp b=0))):=by
 refine ay func252 rfl λR c=>?_
 have q:=zU a b hs hs2;simp[go_sem,yz,qd,qc,q];refine c ⟨_,rfl,?_⟩;simp[go_sem];exact aK rfl rfl
theorem JK(a b:T) (hs:a.size<4000000) (hs2:b.size<4000000) (h:H):ak C h (.func 252 []) (some [enc a,enc b])=some (.bool (decide (a.cmp b=0)),h):=aX (jU _ _) (by simp[aq]) s_ (QO a b hs hs2)
theorem I4{id o n k:Nat}(hk:k<n):bH C.P 37 (.msl id (4*o) 4 n none) (.int .i64 k)=some (.ptr id (4*(o+k))):=by simp[bH,u23,s25,hk];omega
theorem PF{n k:Nat}(hk:k<=n):qy n (.int .i64 k)=some k:=by unfold qy;dsimp only;rw[if_pos ⟨o_,o_⟩];simp
theorem IZ{id n k:Nat}(hk:k<n):fP C.P 37 (.msl id 0 4 n none) (some (.int .i64 k)) none none=some (.msl id (4*k) 4 (n-k) none):=by
 have e:=PF (jw hk);by_cases a:k=0
 ·subst a;simp only[Int.natCast_zero]at e ⊢;simp[fP,u23,s25,mb,e]
 simp[fP,u23,s25,mb,e,a,hk];omega
theorem QK{id n k:Nat}(hk:k<=n):fP C.P 37 (.msl id 0 4 n none) none (some (.int .i64 k)) none=some (.msl id 0 4 k none):=by have e:=PF hk;simp[fP,u23,s25,mb,e]
end Go.VZ
namespace Go.VZ
open Go Go.V Go.Proofs Tryz TL
theorem pL{l:Lq}{j:Nat}(h:j<l.length):l.getD j default=l[j]:=by rw[bK,aC h];rfl
def NIA(l:Lq) (rest:LA) (id n:Nat) (m:Nat) (st:PT) (h:H):Prop:=∃k:Nat,m=n-k/\1<=k/\k<=n/\h[id]?=some (.cells (bQ l++rest) .live)/\st.get 0=.msl id 0 4 n none/\st.get 1=.func 252 []/\st.get 5=.int .i64 k /\
 ∀i,0<i->i<k->(l.getD i default).cmp (l.getD (i-1) default)≠0
def NIB(l:Lq) (rest:LA) (id n k0:Nat) (m:Nat) (st:PT) (h:H):Prop:=∃(j p:Nat),m=n-j/\k0+1<=j/\j<=n/\p=(ddj l j).length/\p+1<=j/\h[id]?=some (.cells (bQ (ddj l j++l.drop p)++rest) .live)/\st.get 0=.msl id 0 4 n none/\st.get 1=.func 252 []/\st.get 5=.int .i64 p /\
 st.get 6=.msl id (4*k0) 4 (n-k0) none/\st.get 7=.int .i64 ((j-k0:Nat):Int)
theorem Hf{N:Nat}{h0:H}{v:AV}{l:Lq}(r:RowZ N h0 v l) (hs:∀t∈l,t.size<4000000) (hl:l.length<1000000000):∃v' h',Go.V.Call C 251 [v,.func 252 []] h0=some (v',h')/\RowZ N h' v' (dd l):=by
 refine lC rfl func251 rfl k_ (by simp[f251]) λR hR=>?_
 rcases r with⟨rfl,rfl⟩|⟨id,d,rfl,c,hz,hN⟩
 ·simp[go_sem,kC,dX];exact hR _ _ _ (.inr rfl) ⟨.isl [] .full,by simp[aY,cC,f251,go_sem],.inl ⟨rfl,rfl⟩⟩
 have f:fB C.P 37 (.msl id 0 4 l.length none)=some (.int .i64 l.length):=by simp[fB,u23]
 obtain⟨n,E⟩:∃n,n=l.length:=⟨_,rfl⟩
 rw[<-E]at f hl ⊢;by_cases q3:n<2
 ·have o:(n:Int)<2:=o_;simp[go_sem,kC,f,o];refine hR _ _ _ (.inr rfl) ⟨.msl id 0 4 n none,by simp[aY,cC,f251,go_sem],.inr ⟨id,d,?_,?_,hz,?_⟩⟩;all_goals
   have e:dd l=l:=by unfold dd;rw[wZ _ (aR _) (λi a b=>o_),ah]
   rw[e]
  ·rw[E]
  ·exact ga c
  exact hN
 have o:¬(n:Int)<2:=o_;simp[go_sem,f,o];refine bL (NIA l d id n) (n-1) ⟨1,rfl,aR _,o_,ga c,g_,g_,g_,λi a b=>o_⟩ ?_;clear c;rintro m st h ⟨k,rfl,q4,hk,c,F,M,G,A⟩;have O:IntKind.i64.wrap ((k:Int)-1)=((k-1:Nat):Int):=by rw[av o_];omega
 by_cases X:k<n
 rotate_left
 ·have:k=n:=o_;subst this;simp[go_sem,F,G,f];refine hR _ _ _ (.inr rfl) ⟨.msl id 0 4 k none,by simp[aY,cC,f251,go_sem],.inr ⟨id,d,?_,?_,hz,?_⟩⟩;all_goals
   have e:dd l=l:=by unfold dd;rw[wZ _ (aR _) (λi a b=>A i a o_),ah]
   rw[e]
  ·rw[E]
  ·exact c
  exact hN
 have q:(k:Int)<n:=o_;have I:k<l.length:=o_;have s:k-1<l.length:=o_;have Q:bH C.P 37 (.msl id 0 4 n none) (.int .i64 k)=some (.ptr id (4*k)):=AS X;have S:bH C.P 37 (.msl id 0 4 n none) (.int .i64 ((k-1:Nat):Int))=some (.ptr id (4*(k-1))):=AS o_;have J:=tL c I;have K:=tL c s;have U:=JK l[k] l[k-1] (hs _ (aF _)) (hs _ (aF _));have Y:=wS k o_;by_cases z:l[k].cmp l[k-1]=0
 rotate_left
 ·simp[go_sem,F,M,G,f,q,O,Q,S,J,K,U,z,-Int.natCast_add,Y];refine⟨n-(k+1),o_,k+1,rfl,o_,o_,c,g_,g_,g_,λi a b=>?_⟩;by_cases e:i<k
  ·exact A i a e
  have:i=k:=o_;subst this;rw[pL I,pL s];exact z
 have s1:fP C.P 37 (.msl id 0 4 n none) (some (.int .i64 k)) none none=some (.msl id (4*k) 4 (n-k) none):=IZ X;simp[go_sem,F,M,G,f,q,O,Q,S,J,K,U,z,s1];have Z:ddj l k=l.take k:=wZ k o_ A;have u:ddj l (k+1)=l.take k:=by rw[ddj,if_pos ⟨o_,by rw[pL I,pL s];exact z⟩,Z]
 refine bL (NIB l d id n k) (n-(k+1)) ⟨k+1,k,rfl,aR _,o_,by rw[u];simp;omega,aR _,by rw[u,fF];exact c,g_,g_,g_,g_,g_⟩ ?_;clear c F M G J K U z s1 Q S O Y A Z u q;rintro m st h ⟨j,p,rfl,q5,hj,B,q6,c,F,M,G,g6,g7⟩;have w:fB C.P 37 (.msl id (4*k) 4 (n-k) none)=some (.int .i64 ((n-k:Nat):Int)):=by simp[fB,u23]
 have q0:(ddj l j++l.drop p).length=l.length:=by simp[<-B];omega
 by_cases q7:j<n
 ·have D:((j-k:Nat):Int)<((n-k:Nat):Int):=o_;have q1:j<l.length:=o_;have q':j-1<l.length:=o_;have Q:bH C.P 37 (.msl id (4*k) 4 (n-k) none) (.int .i64 ((j-k:Nat):Int))=some (.ptr id (4*j)):=by rw[I4 o_,show k+(j-k)=j by omega]
  have S:bH C.P 37 (.msl id (4*k) 4 (n-k) none) (.int .i64 ((j-k-1:Nat):Int))=some (.ptr id (4*(j-1))):=by rw[I4 o_,show k+(j-k-1)=j-1 by omega]
  have i3:bH C.P 37 (.msl id 0 4 n none) (.int .i64 p)=some (.ptr id (4*p)):=AS o_;have O:IntKind.i64.wrap (((j-k:Nat):Int)-1)=((j-k-1:Nat):Int):=by rw[av o_];omega
  have Y:IntKind.i64.wrap (((j-k:Nat):Int)+1)=((j+1-k:Nat):Int):=by rw[av o_];omega
  have w3:=wS p o_;have J:=tL c (k:=j) o_;have K:=tL c (k:=j-1) o_;have e1:(ddj l j++l.drop p)[j]' o_=l[j]:=by rw[List.getElem_append_right o_];simp only[<-B,List.getElem_drop];congr 1;omega
  have e2:(ddj l j++l.drop p)[j-1]' o_=l[j-1]:=by rw[List.getElem_append_right o_];simp only[<-B,List.getElem_drop];congr 1;omega
  rw[e1]at J;rw[e2]at K;have U:=JK l[j] l[j-1] (hs _ (aF _)) (hs _ (aF _));have g:ddj l (j+1)=if l[j].cmp l[j-1]=0 then ddj l j else ddj l j++[l[j]]:=by
   rw[ddj,pL q1,pL q'];by_cases e:l[j].cmp l[j-1]=0
   ·rw[if_pos ⟨o_,e⟩,if_pos e]
   rw[if_neg (λx=>e x.2),if_neg e]
  by_cases z:l[j].cmp l[j-1]=0
  ·rw[if_pos z]at g;simp[go_sem,M,g6,g7,w,D,O,Q,S,J,K,U,z,-Int.natCast_add,Y];exact⟨n-(j+1),o_,j+1,p,rfl,o_,o_,by rw[g];exact B,o_,by rw[g];exact c,g_,g_,g_,g_,g_⟩
  rw[if_neg z]at g;have s2:=Bj l[j] c (k:=p) o_;have e3:(ddj l j++l.drop p).set p l[j]=ddj l j++[l[j]]++l.drop (p+1):=by rw[List.set_append_right _ _ o_,<-B,Nat.sub_self,aI (by omega:p<l.length)];simp only[List.set_cons_zero,List.append_assoc,List.singleton_append]
  rw[e3]at s2;have y:=(aB.1 c).1;simp[go_sem,F,M,G,g6,g7,w,D,O,Q,S,J,K,U,z,i3,s2,-Int.natCast_add,Y,w3,-List.append_assoc];exact⟨n-(j+1),o_,j+1,p+1,rfl,o_,o_,by rw[g];simp[<-B],o_,by rw[g];exact aH y,g_,g_,g_,g_,g_⟩
 have:j=n:=o_;subst this;have s1:fP C.P 37 (.msl id 0 4 j none) (some (.int .i64 p)) none none=some (.msl id (4*p) 4 (j-p) none):=IZ o_;have s2:fP C.P 37 (.msl id 0 4 j none) none (some (.int .i64 p)) none=some (.msl id 0 4 p none):=QK o_;have⟨L,hc,q2,q8⟩:=LY c (k:=p) o_ hz;rw[q0,<-E]at hc;have y:=(aB.1 c).1;have et:(ddj l j++l.drop p).take p=dd l:=by unfold dd;rw[<-E,dV o_,cq o_]
 rw[et]at hc;simp[go_sem,F,G,g6,g7,w,s1,s2,hc];refine hR _ _ _ (.inr rfl) ⟨.msl id 0 4 p none,by simp[aY,cC,f251,go_sem],.inr ⟨id,L,?_,aH y,q2,?_⟩⟩
 ·unfold dd;rw[<-E,<-B]
 unfold dd;rw[<-E,<-B];omega
end Go.VZ
namespace TL
def vN(l:Lq):Lq:=dd (srt l)
theorem NP{l:Lq}{t:T}(h:t∈vN l):t∈l:=mem_srt.1 (Uc h)
theorem M7(l:Lq):(vN l).length<=l.length:=by have:=JD (srt l) (srt l).length;have e:=srt_len l;unfold vN dd;omega
end TL
namespace Go.VZ
open Go Go.V Go.Proofs Tryz TL
theorem SI{h:H}{v:AV}{l:Lq}(r:Row h v l) (hs:∀t∈l,t.size<4000000) (hl:l.length<1000000000):∃h',ak C h (.func 250 []) (some [v,.func 144 []])=some (.tuple [],h')/\Row h' v (srt l)/\h'.length=h.length:=by
 rw[gQ k_ rfl];rcases r with⟨rfl,rfl⟩|⟨id,rfl,b⟩
 ·refine⟨h,oo (C:=C) (fn:=f250) func250 rfl,.inl ⟨?_,rfl⟩,rfl⟩;have:=srt_len [];simpa using this
 refine⟨h.set id (.cells (bQ (srt l)) .live),oo (C:=C) (fn:=f250) func250 ?_,.inr ⟨id,by rw[srt_len],aH (aB.1 b).1⟩,s_⟩;have d:∀a,C.prim 250 a h=sy a h:=λa=>by have:C.prim=Go.VZ.prim:=rfl;rw[this];rfl
 rw[d];have e:∃l':Lq,l.length=l'.length/\l'.length<1000000000/\(∀t∈l',t.size<4000000)/\h[id]?=some (.cells (l'.flatMap λt=>(enc t).cells) .live):=⟨l,rfl,hl,hs,b⟩
 have f:e.choose=l:=by have c:=e.choose_spec.2.2.2;generalize e.choose=m at c;rw[b]at c;simp only[aA,VObj.cells.injEq,and_true]at c;exact(Ao _ _ c).symm
 have g:sy [.msl id 0 4 l.length none,.func 144 []] h=@dite _ (∃l':Lq,l.length=l'.length/\l'.length<1000000000/\(∀t∈l',t.size<4000000)/\h[id]?=some (.cells (l'.flatMap λt=>(enc t).cells) .live)) (Classical.propDecidable _) (λe=>some (.tuple [],h.set id (.cells ((srt e.choose).flatMap λt=>(enc t).cells) .live))) (λ_=>none):=rfl;rw[g,dif_pos e,f];rfl
def ZX(N:Nat) (l:Lq) (v:AV) (m:Nat) (st:PT) (h:H):Prop:=∃k:Nat,m=l.length-k/\k<=l.length/\RowZ N h v l/\st.get 0=v/\st.get 9=.int .i64 l.length/\st.get 10=.int .i64 k
theorem RowZ.len{N:Nat}{h:H}{v:AV}{l:Lq}(r:RowZ N h v l):fB C.P 37 v=some (.int .i64 l.length):=by rcases r with⟨rfl,rfl⟩|⟨id,a,rfl,_⟩<;>simp[fB,u23]
theorem Gt{h0:H}{v:AV}{l:Lq}(r:Row h0 v l) (hs:∀t∈l,t.size<4000000) (hl:l.length<1000000000):∃v' h',Go.V.Call C 201 [v] h0=some (v',h')/\RowZ (4*l.length) h' v' (vN l):=by
 refine lC rfl func201 rfl k_ (by simp[f201]) λR s=>?_
 have⟨O,x,y,_⟩:=SI (h:=h0++[.tok 0 39]) (Gl r) hs hl;have⟨q,F,A,b⟩:=Hf y.z (λt u=>hs t (mem_srt.1 u)) (by rw[srt_len];exact hl);have i:=(gQ (f:=251) k_ rfl).trans A;have c:=b.len;have w:(vN l).length<1000000000:=by have:=M7 l;omega
 have j:∀t∈vN l,t.size<4000000:=λt u=>hs t (NP u)
 rw[srt_len]at b;change RowZ (4*l.length) F q (vN l)at b;change fB C.P 37 q=some (.int .i64 (vN l).length)at c;generalize vN l=m at b c w j s;generalize 4*l.length=N at b s;simp[go_sem,x,i,c];refine bL (ZX N m q) m.length ⟨0,rfl,aN _,b,g_,g_,g_⟩ ?_;clear b A i x y c;rintro _ Q h ⟨k,rfl,S,b,B,D,n⟩;by_cases a:k<m.length
 ·have o:(k:Int)<m.length:=o_;rcases b with⟨e,_⟩|⟨id,d,rfl,g,G,I⟩
  ·subst e;simp at a
  have J:=wS k o_;have K:bH C.P 37 (.msl id 0 4 m.length none) (.int .i64 k)=some (.ptr id (4*k)):=AS a;have L:=tL g a;have E:=Bj m[k] g a;rw[List.set_getElem_self]at E;have M:=SH m[k] (j _ (aF a));have p:=(aB.1 g).1;simp[go_sem,B,D,n,o,K,L,E,M,-Int.natCast_add,J];exact⟨m.length-(k+1),o_,k+1,rfl,a,.inr ⟨id,d,rfl,aH p,G,I⟩,g_,g_,g_⟩
 have:k=m.length:=o_;subst this;simp[go_sem,B,D,n];refine s _ _ _ (.inr rfl) ⟨q,?_,b⟩;rcases b with⟨_,rfl⟩|⟨id,d,rfl,_⟩<;>simp[aY,cC,f201,go_sem]
end Go.VZ
namespace TL
end TL
namespace Go.VZ
open Go Go.V Go.Proofs Tryz TL
end Go.VZ
namespace TL
def bY(t:T):Lq:=[t]
theorem jj(t:T):(bY t).length<=1:=aR _
theorem ot{f:T->Lq}(hf:∀t,∀x∈f t,x=t){n:Nat}:∀t:T,t.size<n->∀x∈cZ f t,x.size<n:=by
 refine T.ind λt c d x a=>?_
 rw[qb]at a;rcases ac.1 a with a|a
 ·rw[hf t x a];exact d
 rw[nA,bR]at a;have⟨k,b,a⟩:=a;exact c k b (by have:=kid_size b;omega) x a
theorem rH(t:T):∀x∈bY t,x=t:=λx a=>by simpa[bY]using a
end TL
namespace Go.VZ
open Go Go.V Go.Proofs Tryz TL
theorem Wq:iH C.P 37=some (.isl [] .full):=k_
theorem JE:∀ {r:LA},Zs r->∃r',jd r=some r'/\Zs r'/\r'.length=r.length
 |[],_=>⟨[],rfl,λx hx=>by simp at hx,rfl⟩
 |a::r,hz=>by
  have⟨r',h1,h2,h3⟩:=JE (r:=r) λx hx=>hz x (by simp[hx])
  have:∃b,dat a=some b/\(b=.int .i64 0\/b=.str ⟨#[]⟩\/b=.isl [] .full\/b=.isl [] .unk):=by
   rcases hz a s_ with rfl|rfl|rfl|rfl
   ·exact⟨_,rfl,.inl rfl⟩
   ·exact⟨_,rfl,.inr (.inl rfl)⟩
   ·exact⟨.isl [] .unk,rfl,.inr (.inr (.inr rfl))⟩
   exact⟨.isl [] .unk,rfl,.inr (.inr (.inr rfl))⟩
  have⟨b,e,c⟩:=this;refine⟨b::r',by simp only[jd,e,h1],λx hx=>?_,by simp[h3]⟩;rcases ao.1 hx with rfl|hx
  ·exact c
  exact h2 x hx
theorem Ml{r:LA}(hz:Zs r):r.all short=true:=by rw[bI];intro x a;rcases hz x a with rfl|rfl|rfl|rfl<;>rfl
end Go.VZ
namespace Go.VZ
open Go Go.V Go.Proofs Tryz TL
theorem uz:∀(l:Lq) (r:LA),io 4 l.length (bQ l++r)=l.map enc
 |[],r=>rfl
 |a::l,r=>by have:=uz l r;rw[ip];simp only[aG,io,cP,bk,dh,fo,dl,dO,aS,this,bE]
theorem J1{N:Nat}{h:H}{v:AV}{l:Lq}(r:RowZ N h v l) (hN:N<=80000):fc (bj h) dD v=some (aM l):=by
 rcases r with⟨rfl,rfl⟩|⟨id,a,rfl,b,c,j⟩
 ·exact aK rfl rfl
 have⟨k,f,m,n⟩:=JE c;have d:=eR l;have g:=oG b;have e:(bQ l++a).length<=80000:=by rw[aL,d];omega
 have i:=(eo (h:=bj h) (tf (td l) f) (by rw[oM,rI,Ml c];rfl) 999999 o_).1;have:dD=999999+1:=rfl;rw[this];simp only[fc,g,i];rw[if_pos (by rw[aL,d];omega),dO,uz];rfl
def Ba(t:T):Lq:=vN (cZ (gY 1) t)
theorem Nh(k:Int) (t:T):∀x∈gY k t,x=t:=λx a=>by
 unfold gY at a;split at a
 ·simpa using a
 simp at a
theorem En(k:Int) (t:T):(gY k t).length<=1:=by unfold gY;split<;>simp
theorem Qx{h:H}{i:Nat}{b:T × T}(hi:h[i]?=some (.cells (bS b).cells .live)):aW C.P h 39 (.ptr i 0)=some (enc b.1):=by simp only[bS,aV]at hi;simp[aW,hi,aZ,a25,s25];rw[bE]
theorem Qw{h:H}{i:Nat}{b:T × T}(hi:h[i]?=some (.cells (bS b).cells .live)):aW C.P h 39 (.ptr i 4)=some (enc b.2):=by simp only[bS,aV]at hi;simp[aW,hi,aZ,a25,s25];rw[bE]
theorem ldB{h:H}{i:Nat}{b:T × T}(hi:h[i]?=some (.cells (bS b).cells .live)):aW C.P h 84 (.ptr i 0)=some (bS b):=by simp only[bS,aV]at hi;simp[aW,hi,aZ,a86,s86,bS]
end Go.VZ
namespace TL
def oB(t:T):Lq->Lq
 |[]=>[t]
 |x::r=>if t.cmp x<0 then t::x::r else if t.cmp x=0 then x::r else x::oB t r
def mo(l:Lq):Lq:=l.foldl (λs t=>oB t s) []
theorem mem_addS{t x:T}:∀ {s:Lq},x∈oB t s↔x=t\/x∈s
 |[]=>by simp[oB]
 |y::r=>by
  rw[oB];split
  ·simp
  split
  ·rename_i h1 h2;have e:=cmp_zero.1 h2;subst e;simp
  rw[ao,mem_addS (s:=r),ao];constructor
  ·rintro(h|h|h)
   ·exact .inr (.inl h)
   ·exact .inl h
   exact .inr (.inr h)
  rintro(h|h|h)
  ·exact .inr (.inl h)
  ·exact .inl h
  exact .inr (.inr h)
theorem GC(t:T):∀s:Lq,(oB t s).length<=s.length+1
 |[]=>by simp[oB]
 |x::r=>by
  rw[oB];split
  ·simp
  split
  ·simp
  have:=GC t r;simp;omega
theorem mem_setS{x:T}{l:Lq}:x∈mo l↔x∈l:=by
 have b:∀(l s:Lq),x∈l.foldl (λs t=>oB t s) s↔x∈s\/x∈l:=by
  intro l;induction l with
  |nil=>intro s;simp
  |cons a l c=>
   intro s;rw[gG,c,mem_addS,ao];constructor
   ·rintro((h|h)|h)
    ·exact .inr (.inl h)
    ·exact .inl h
    exact .inr (.inr h)
   rintro(h|h|h)
   ·exact .inl (.inr h)
   ·exact .inl (.inl h)
   exact .inr h
 simpa[mo]using b l []
theorem nq(l:Lq):(mo l).length<=l.length:=by
 have b:∀(l s:Lq),(l.foldl (λs t=>oB t s) s).length<=s.length+l.length:=by
  intro l;induction l with
  |nil=>intro s;simp
  |cons a l c=>intro s;have:=c (oB a s);have:=GC a s;rw[gG,aG];omega
 simpa[mo]using b l []
theorem J2{l:Lq}{k:Nat}(hk:k<l.length):mo (l.take (k+1))=oB l[k] (mo (l.take k)):=by rw[aJ hk,mo,List.foldl_append];rfl
def jv(t:T) (s:Lq):Nat->Lq × Bool
 |0=>([],false)
 |j+1=>
  let x:=s.getD j default
  let (o,d):=jv t s j
  if d=false/\t.cmp x<=0 then((if t.cmp x<0 then o++[t]else o)++[x],true)else(o++[x],d)
def IJ(t:T) (s:Lq):Lq:=if(jv t s s.length).2=true then(jv t s s.length).1 else(jv t s s.length).1++[t]
theorem JV(t:T) (s:Lq):∀k,k<=s.length->((jv t s k).2=false->jv t s k=(s.take k,false)/\oB t s=s.take k++oB t (s.drop k))/\((jv t s k).2=true->oB t s=(jv t s k).1++s.drop k)
 |0,_=>by simp[jv]
 |k+1,hk=>by
  have⟨h1,h2⟩:=JV t s k o_;have a:k<s.length:=o_;have f:s.getD k default=s[k]:=by rw[bK,aC a];rfl
  have g:jv t s (k+1)=if(jv t s k).2=false/\t.cmp s[k]<=0 then((if t.cmp s[k]<0 then(jv t s k).1++[t]else(jv t s k).1)++[s[k]],true)else((jv t s k).1++[s[k]],(jv t s k).2):=by rw[jv,f]
  rw[g];cases e:(jv t s k).2 with
  |true=>rw[if_neg s_];refine⟨λx=>by simp at x,λ_=>?_⟩;rw[h2 e,aI a];simp
  |false=>
   have⟨h,c⟩:=h1 e;rw[h];by_cases d:t.cmp s[k]<=0
   ·rw[if_pos ⟨rfl,d⟩];refine⟨λx=>by simp at x,λ_=>?_⟩;rw[c,aI a,oB];by_cases b:t.cmp s[k]<0
    ·rw[if_pos b,if_pos b];simp
    rw[if_neg b,if_neg b,if_pos o_];simp
   rw[if_neg (λx=>d x.2)];refine⟨λ_=>⟨by rw[aJ a],?_⟩,λx=>by simp at x⟩;rw[c,aI a,oB,if_neg o_,if_neg o_,aJ a,List.append_assoc,List.singleton_append]
theorem So(t:T) (s:Lq):IJ t s=oB t s:=by
 have⟨a,b⟩:=JV t s s.length (aR _);unfold IJ;by_cases e:(jv t s s.length).2=true
 ·rw[if_pos e,b e];simp
 have c:(jv t s s.length).2=false:=by simpa using e
 have⟨d,f⟩:=a c;rw[if_neg e,d,f];simp[oB]
end TL
namespace Go.VZ
open Go Go.V Go.Proofs Tryz TL
def ZK(t:T) (m:Nat) (st:PT) (h:H):Prop:=∃k:Nat,m=t.kids.length-k/\k<=t.kids.length/\st.get 1=.ptr 0 0/\st.get 4=.int .i64 k/\h[0]?=some (.cells (enc t).cells .live)/\OwnR 39 h (st.get 3) ((bY t++gm bY (t.kids.take k)).map enc)
theorem Iv{h:H}{i:Nat}{t:T}(hi:h[i]?=some (.cells (enc t).cells .live)):aW C.P h 37 (.ptr i 3)=some (aM t.kids):=by rw[au]at hi;simp[aW,hi,aZ,a23,s23,aM]
theorem Vo(t:T) (hs:t.size<4000000) (hc:∀k∈t.kids,az C 63 [enc k]=some (aM (cZ bY k))):az C 63 [enc t]=some (aM (cZ bY t)):=by
 refine ay func63 rfl λR B=>?_
 have D:=size_kids t;have q:=len_sizes t.kids;have c:=fI t.kids;obtain⟨r,b⟩:∃g:H,g=[.cells (enc t).cells .live,.tok 0 39]:=⟨_,rfl⟩
 have s:aW C.P r 39 (.ptr 0 0)=some (enc t):=wM t (by rw[b];rfl);simp[go_sem,kf];rw[<-au,<-b];simp[go_sem,s,dp];refine bL (ZK t) t.kids.length ⟨0,rfl,aN _,g_,g_,rfl,.inl (by simp[go_sem,bY,gm])⟩ ?_;clear s b r;rintro m E h ⟨k,rfl,O,u,w,i,d⟩;have y:=Iv i;obtain⟨F,j⟩:∃v,v=E.get 3:=⟨_,rfl⟩
 rw[<-j]at d;by_cases a:k<t.kids.length
 ·have e:(k:Int)<t.kids.length:=o_;have l:=eJ t.kids k a;have G:=wS k o_;have I:∀h,ak C h (.func 63 []) (some [enc t.kids[k]])=some (aM (cZ bY t.kids[k]),h):=λh=>aX (cg _) (by simp[aq]) s_ (hc _ (aF a))
  have n:=ow bY jj (t.kids.take (k+1));have J:=take_sizes_le t.kids (k+1);have f:gm bY (t.kids.take (k+1))=gm bY (t.kids.take k)++cZ bY t.kids[k]:=by rw[aJ a,ui];simp[gm]
  rw[f,aL]at n;have⟨K,L,z,A,o,M⟩:=eW (ys:=cZ bY t.kids[k]) (x:=.unk) d (by simp only[bY,aL,aG,aQ];omega);rw[List.append_assoc,<-f]at A;change bu C.P false h 37 F (aM (cZ bY t.kids[k]))=some (K,L)at z;have p:=o.get i (cM d i);simp[go_sem,u,w,<-j,y,c,e,l,gd,I,z,-Int.natCast_add,G];exact⟨t.kids.length-(k+1),o_,k+1,rfl,a,g_,g_,p,by simpa[go_sem]using A⟩
 have:k=t.kids.length:=o_;subst this;rw[ah]at d;have⟨x,N⟩:=d.isl;simp[go_sem,u,w,<-j,y,c];refine B ⟨.isl ((cZ bY t).map enc) x,by rw[qb,<-N];simp[aY,cC,f63,go_sem],aK rfl rfl⟩
theorem IH(t:T):t.size<4000000->az C 63 [enc t]=some (aM (cZ bY t)):=by
 induction t using T.ind with
 |_ t b=>exact λc=>Vo t c (λk a=>b k a (by have:=kid_size a;omega))
theorem wl(t:T) (hv:t.size<4000000) (h:H):ak C h (.func 63 []) (some [enc t])=some (aM (cZ bY t),h):=aX (cg _) (by simp[aq]) s_ (IH t hv)
def ZS(t:T) (s:Lq) (m:Nat) (st:PT) (h:H):Prop:=∃k:Nat,m=s.length-k/\k<=s.length/\st.get 0=aM s/\st.get 3=.ptr 0 0/\st.get 6=.bool (jv t s k).2/\st.get 7=.int .i64 k/\h[0]?=some (.cells (enc t).cells .live)/\OwnR 39 h (st.get 5) ((jv t s k).1.map enc)
theorem GD(t:T) (s:Lq):∀k,(jv t s k).1.length<=k+(if(jv t s k).2=true then 1 else 0)
 |0=>by simp[jv]
 |k+1=>by
  have:=GD t s k;rw[jv];generalize jv t s k=r at this;have⟨o,d⟩:=r;dsimp only at this ⊢;split
  ·rename_i a;rw[a.1]at this;simp only[aw,if_false]at this;split<;>simp<;>omega
  simp only[aL,aG,aQ];omega
theorem Vq(s:Lq) (t:T) (hs:∀x∈s,x.size<4000000) (ht:t.size<4000000) (hl:s.length<4000000):az C 79 [aM s,enc t]=some (aM (IJ t s)):=by
 refine ay func79 rfl λR V=>?_
 have g:=fI s;simp[go_sem,kf];rw[<-au];refine bL (ZS t s) s.length ⟨0,rfl,aN _,g_,g_,by simp[go_sem,jv],g_,rfl,.inr ⟨2,by simp[go_sem,jv]⟩⟩ ?_;rintro m Z h ⟨k,rfl,hk,w,F,i,z,p,j⟩;have G:=wM t p;obtain⟨v5,q⟩:∃v,v=Z.get 5:=⟨_,rfl⟩
 rw[<-q]at j;have N:=GD t s k;have n:(jv t s k).1.length<=k+1:=by split at N<;>omega
 by_cases b:k<s.length
 ·have c:(k:Int)<s.length:=o_;have l:=eJ s k b;have K:=wS k o_;have L:=sM t s[k] ht (hs _ (aF b));have a:jv t s (k+1)=if(jv t s k).2=false/\t.cmp s[k]<=0 then((if t.cmp s[k]<0 then(jv t s k).1++[t]else(jv t s k).1)++[s[k]],true)else((jv t s k).1++[s[k]],(jv t s k).2):=by rw[jv,pL b]
  generalize jv t s k=r at a i j n;have⟨o,d⟩:=r;dsimp only at a i j n;have one:∀ {h:H}{v:AV}{o:Lq}(y:T),OwnR 39 h v (o.map enc)->h[0]?=some (.cells (enc t).cells .live)->o.length<10000000->∃I A,bu C.P false h 37 v (.isl [enc y] .full)=some (I,A)/\OwnR 39 A I ((o++[y]).map enc)/\A[0]?=some (.cells (enc t).cells .live):=λy j p hl=>by have⟨I,A,M,O,J,_⟩:=eW (ys:=[y]) (x:=.full) j (by simp;omega);exact⟨I,A,by simpa using M,O,J.get p (cM j p)⟩
  by_cases u:d=false/\t.cmp s[k]<=0
  ·rw[if_pos u]at a;obtain⟨rfl,u⟩:=u;by_cases f:t.cmp s[k]<0
   ·rw[if_pos f]at a;have⟨v1,h1,a1,o1,n1⟩:=one t j p o_;have⟨X,Y,B,D,E⟩:=one s[k] o1 n1 (by simp;omega);simp[go_sem,w,F,i,z,<-q,g,c,l,gd,L,G,u,f,dp,a1,B,-Int.natCast_add,K];exact⟨s.length-(k+1),o_,k+1,rfl,b,g_,g_,by simp[go_sem,a],g_,E,by simpa[go_sem,a]using D⟩
   rw[if_neg f]at a;have⟨X,Y,B,D,E⟩:=one s[k] j p o_;simp[go_sem,w,F,i,z,<-q,g,c,l,gd,L,G,u,f,dp,B,-Int.natCast_add,K];exact⟨s.length-(k+1),o_,k+1,rfl,b,g_,g_,by simp[go_sem,a],g_,E,by simpa[go_sem,a]using D⟩
  rw[if_neg u]at a;have⟨X,Y,B,D,E⟩:=one s[k] j p o_;cases d with
  |true=>simp[go_sem,w,F,i,z,<-q,g,c,l,gd,L,G,dp,B,-Int.natCast_add,K];exact⟨s.length-(k+1),o_,k+1,rfl,b,g_,g_,by simp[go_sem,a,i],g_,E,by simpa[go_sem,a]using D⟩
  |false=>
   have Q:¬t.cmp s[k]<=0:=λe=>u ⟨rfl,e⟩
   simp[go_sem,w,F,i,z,<-q,g,c,l,gd,L,G,Q,dp,B,-Int.natCast_add,K];exact⟨s.length-(k+1),o_,k+1,rfl,b,g_,g_,by simp[go_sem,a,i],g_,E,by simpa[go_sem,a]using D⟩
 have:k=s.length:=o_;subst this;by_cases a:(jv t s s.length).2=true
 ·have⟨x,S⟩:=j.isl;rw[a]at i;simp[go_sem,w,i,z,<-q,g];refine V ⟨.isl ((IJ t s).map enc) x,by rw[IJ,if_pos a,<-S];simp[aY,cC,f79,go_sem],aK rfl rfl⟩
 have U:(jv t s s.length).2=false:=by simpa using a
 rw[U]at i;have⟨I,A,M,O,J,_⟩:=eW (ys:=[t]) (x:=.full) j (by simp;omega);have⟨x,S⟩:=O.isl;simp only[aS,bD]at M;simp[go_sem,w,F,i,z,<-q,g,G,dp,M];refine V ⟨.isl ((IJ t s).map enc) x,by rw[IJ,if_neg a,<-S];simp[aY,cC,f79,go_sem],aK rfl rfl⟩
theorem SK(s:Lq) (x:Ext) (t:T) (hs:∀x∈s,x.size<4000000) (ht:t.size<4000000) (hl:s.length<4000000) (h:H):ak C h (.func 79 []) (some [.isl (s.map enc) x,enc t])=some (aM (oB t s),h):=by rw[<-So];exact aX (args':=[aM s,enc t]) (by rw[bE];rfl) (by rw[bE];rfl) s_ (Vq s t hs ht hl)
def Zc(l:Lq) (m:Nat) (st:PT) (_h:H):Prop:=∃k:Nat,m=l.length-k/\k<=l.length/\st.get 0=aM l/\st.get 4=.int .i64 k/\∃x,st.get 3=.isl ((mo (l.take k)).map enc) x
theorem UB(l:Lq) (hs:∀x∈l,x.size<4000000) (hl:l.length<4000000):az C 42 [aM l]=some (aM (mo l)):=by
 refine ay func42 rfl λR n=>?_
 have b:=fI l;simp[go_sem];refine bL (Zc l) l.length ⟨0,rfl,aN _,g_,g_,_,by simp[go_sem,mo];rfl⟩ ?_;rintro m q h ⟨k,rfl,r,g,i,x,d⟩;by_cases a:k<l.length
 ·have c:(k:Int)<l.length:=o_;have e:=eJ l k a;have o:=wS k o_;have f:=nq (l.take k);have j:=SK (mo (l.take k)) x l[k] (λy p=>hs y (bW (mem_setS.1 p))) (hs _ (aF a)) (by simp only[ag]at f;omega);rw[<-J2 a]at j;simp[go_sem,g,d,i,b,c,e,gd,j,-Int.natCast_add,o];exact⟨l.length-(k+1),o_,k+1,rfl,a,g_,g_,.unk,by simp[go_sem,aM]⟩
 have:k=l.length:=o_;subst this;rw[ah]at d;simp[go_sem,g,d,i,b];exact n ⟨.isl ((mo l).map enc) x,by simp[aY,cC,f42,go_sem],aK rfl rfl⟩
theorem zR(l:Lq) (x:Ext) (hs:∀x∈l,x.size<4000000) (hl:l.length<4000000) (h:H):ak C h (.func 42 []) (some [.isl (l.map enc) x])=some (aM (mo l),h):=aX (args':=[aM l]) rfl rfl s_ (UB l hs hl)
def isK(k:Int) (t:T):Bool:=decide (t.kind=k)
def ZT(t:T) (c:Int) (m:Nat) (st:PT) (h:H):Prop:=∃k:Nat,m=(cZ bY t).length-k/\k<=(cZ bY t).length/\st.get 1=.int .i64 c/\st.get 6=aM (cZ bY t)/\st.get 7=.int .i64 k/\OwnR 39 h (st.get 5) ((((cZ bY t).take k).filter (isK c)).map enc)
theorem CF(t:T) (h:H):aW C.P h 3 (.iptr (enc t) 0)=some (.int .i64 t.kind):=by simp[aW,aZ,a3,s3,au]
theorem nZ(e:AV):bF C.P 39 (.iptr e 0) 0=some (.iptr e 0):=k_
theorem Qz(t:T) (c:Int) (hs:t.size<4000000):az C 78 [enc t,.int .i64 c]=some (aM (mo ((cZ bY t).filter (isK c)))):=by
 refine ay func78 rfl λR I=>?_
 have J:=kE bY jj t;have s:=ot rH t hs;have z:=wl t hs;obtain⟨A,i⟩:∃g:H,g=[.cells (enc t).cells .live,.tok 0 39,.tok 0 39]:=⟨_,rfl⟩
 have B:aW C.P A 39 (.ptr 0 0)=some (enc t):=wM t (by rw[i];rfl);simp[go_sem,kf];rw[<-au,<-i];simp[go_sem,B,z];generalize a:cZ bY t=w at *;have j:=fI w;refine bL (ZT t c) w.length ⟨0,by rw[a];rfl,aN _,g_,by simp[go_sem,a],g_,.inr ⟨2,g_⟩⟩ ?_;clear B i A z;rintro m K h ⟨k,rfl,L,D,l,u,n⟩;rw[a]at L l n;obtain⟨Q,q⟩:∃v,v=K.get 5:=⟨_,rfl⟩
 rw[<-q]at n;have o:=dA (isK c) (w.take k);by_cases b:k<w.length
 ·have f:(k:Int)<w.length:=o_;have p:=eJ w k b;have E:=wS k o_;have d:(w.take (k+1)).filter (isK c)=if w[k].kind=c then(w.take k).filter (isK c)++[w[k]]else(w.take k).filter (isK c):=by rw[aJ b,iP];by_cases e:w[k].kind=c<;>simp[e,isK]
  by_cases r:w[k].kind=c
  ·rw[if_pos r]at d;have⟨S,U,F,G,_,_⟩:=eW (ys:=[w[k]]) (x:=.full) n (by simp only[ag,aG,aQ]at o ⊢;omega);rw[<-d]at G;simp only[aS,bD]at F;simp[go_sem,D,l,u,<-q,j,f,p,gd,CF,nZ,r,dp,F,-Int.natCast_add,E];exact⟨(cZ bY t).length-(k+1),by rw[a];omega,k+1,rfl,by rw[a];exact b,g_,by simp[go_sem,l,a],g_,by rw[a];simpa[go_sem]using G⟩
  rw[if_neg r]at d;simp[go_sem,D,l,u,j,f,p,CF,nZ,r,-Int.natCast_add,E];exact⟨(cZ bY t).length-(k+1),by rw[a];omega,k+1,rfl,by rw[a];exact b,g_,by simp[go_sem,l,a],g_,by rw[a,d];simpa[go_sem,<-q]using n⟩
 have:k=w.length:=o_;subst this;rw[ah]at n o;have⟨x,M⟩:=n.isl;have N:=zR (w.filter (isK c)) x (λy O=>s y (cO.1 O).1) o_;simp[go_sem,l,u,<-q,j,M,N];exact I ⟨aM (mo (w.filter (isK c))),by simp[aY,cC,f78,go_sem],aK rfl rfl⟩
end Go.VZ
