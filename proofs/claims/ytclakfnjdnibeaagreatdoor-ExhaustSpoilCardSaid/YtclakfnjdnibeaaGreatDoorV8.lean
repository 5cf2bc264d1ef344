/- A part of the proof. -/
import Derived.Test.YtclakfnjdnibeaaGreatDoorV7
set_option maxHeartbeats 400000
namespace Go.V
open Go
section
variable {P:Program}{B:Nat}{A0:Nat->Nat->Prop}{σ:List (Option Nat)}{h:H}{w:World}
structure Grows [DFlag] (w w':World):Prop where
 os:w'.os=w.os
 tape:w'.tape=w.tape
 output:w'.output=w.output
 size:w.heap.size<=w'.heap.size
 block:∀k:Nat,k<w.heap.size->w'.heap[k]?=w.heap[k]?
 drawn:DFlag.D->w.drawn<=w'.drawn
theorem Grows.refl [DFlag] (w:World):Grows w w:=⟨rfl,rfl,rfl,aR _,λ_ _=>rfl,λ_=>aR _⟩
theorem Grows.alloc [DFlag] (w:World) (o:Obj):Grows w (w.alloc o):=⟨rfl,rfl,rfl,s_,λk a=>heap_alloc_old w o k a,λ_=>aR _⟩
theorem Grows.drew [DFlag] (w:World):Grows w w.drew:=⟨rfl,rfl,rfl,aR _,λ_ _=>rfl,λ_=>Nat.le_succ _⟩
theorem Grows.trans [DFlag] {a b c:World}(h:Grows a b) (k:Grows b c):Grows a c:=
 ⟨k.os.trans h.os,k.tape.trans h.tape,k.output.trans h.output,cW h.size k.size,λi e=>(k.block i (eG e h.size)).trans (h.block i e),λd=>cW (h.drawn d) (k.drawn d)⟩
theorem Grows.cell [DFlag] {w w':World}(g:Grows w w'){b o:Nat}{x:Value}(hc:w.cell? ⟨b,o,none⟩=some x):w'.cell? ⟨b,o,none⟩=some x:=by have a:=World.block_lt_of_cell? w _ hc;rw[World.cell?_of_block (w:=w) (g.block b a)];exact hc
theorem Grows.shapes [DFlag] {w w':World}(g:Grows w w'):Shapes w w':=λb c e d a=>⟨c,d,by rw[g.block b (aO.1 a).1];exact a,rfl⟩
theorem Grows.below [DFlag] {w w':World}(g:Grows w w'){B:Nat}(hB:B<=w.heap.size):RowKit.Below B w w':=⟨g.os,g.tape,g.output,g.size,λk a=>g.block k (eG a hB)⟩
theorem HRel.lt(hr:HRel P B A0 σ h w){i b:Nat}{x:VObj}(hx:h[i]?=some x) (hd:x.gone=false) (hs:σ[i]?=some (some b)):b<w.heap.size/\B<=b:=by
 cases x with
 |cells m f=>have⟨j,n,k,a,c,d,_⟩:=hr.cells i m f hx (λe=>by subst e;cases hd);rw[hs]at a;simp only[aA]at a;subst a;exact⟨(aO.1 d).1,c⟩
 |tok u k=>
  rcases hr.tok i u k hx with⟨a,_⟩|⟨j,n,r,o,a,c,d,_⟩
  ·rw[hs]at a;cases a
  rw[hs]at a;simp only[aA]at a;subst a;exact⟨(aO.1 d).1,c⟩
 |loop L f=>have⟨l,s,t,D,a,c,d,_⟩:=hr.loop i L f hx (λe=>by subst e;cases hd);rw[hs]at a;simp only[aA]at a;subst a;exact⟨(aO.1 d).1,c⟩
 |map p=>have⟨j,q,g,a,c,d,_⟩:=hr.map i p hx;rw[hs]at a;simp only[aA]at a;subst a;exact⟨(aO.1 d).1,c⟩
 |void=>cases hd
theorem Step.grows [DFlag] (hr:HRel P B A0 σ h w){w':World}(g:Grows w w'):Step P B A0 σ h w σ h w':=
 ⟨g.below hr.base,g.shapes,λ_ _ _ a c=>⟨a,g.cell c⟩,λ_ f d b=>⟨rfl,f,d,b⟩,λ_ u _ b=>⟨u,b,aR _,λ_=>rfl⟩,λ_ _ d b=>⟨rfl,d,b⟩,λ_ i b=>⟨rfl,i,b⟩,λk e=>by rw[g.block k (aO.1 e).1];exact e,g.drawn⟩
theorem HRel.grows [DFlag] (hr:HRel P B A0 σ h w){w':World}(g:Grows w w'):HRel P B A0 σ h w' where
 base:=cW hr.base g.size
 len:=hr.len
 cells:=λi E r d s=>by have⟨b,x,y,f,j,a,o,p,F⟩:=hr.cells i E r d s;exact⟨b,x,y,f,j,by rw[g.block b (aO.1 a).1];exact a,o,p,λk c v G I=>(F k c v G I).step (.grows hr g)⟩
 tok:=λi u y d=>by
  rcases hr.tok i u y d with k|⟨b,x,J,z,f,j,a,k⟩
  ·exact .inl k
  exact .inr ⟨b,x,J,z,f,j,by rw[g.block b (aO.1 a).1];exact a,k⟩
 loop:=λi L r d s=>by have⟨l,K,M,D,f,j,a,o,p⟩:=hr.loop i L r d s;exact⟨l,K,M,D,f,j,by rw[g.block l (aO.1 a).1];exact a,o,λt=>(p t).step (.grows hr g)⟩
 map:=λi N d=>by have⟨b,A,n,f,j,a,o,p⟩:=hr.map i N d;exact⟨b,A,n,f,j,by rw[g.block b (aO.1 a).1];exact a,o,λk e m O Q=>let q:=p k e m O Q;⟨q.1,q.2.1,q.2.2.step (.grows hr g)⟩⟩
 uniq:=hr.uniq
 glob:=hr.globBelow (g.below hr.base)
 tab:=hr.tabBelow (g.below hr.base)
theorem getElem?_push_lt{α:Type}(l:List α) (x:α){i:Nat}(hi:i<l.length):(l++[x])[i]?=l[i]?:=aP hi
theorem ar{α:Type}(l:List α) (x:α):(l++[x])[l.length]?=some x:=s_
theorem bX{α:Type}{l:List α}{x y:α}{i:Nat}(hi:(l++[x])[i]?=some y):(i<l.length/\l[i]?=some y)\/(i=l.length/\y=x):=by
 rcases Nat.lt_trichotomy i l.length with c|c|c
 ·exact .inl ⟨c,by rwa[getElem?_push_lt l x c]at hi⟩
 ·subst c;rw[ar]at hi;simp only[aA]at hi;exact .inr ⟨rfl,hi.symm⟩
 rw[cK (by simp;omega)]at hi;cases hi
theorem HRel.tok00(hr:HRel P B A0 σ h w){t u b:Nat}{ty ty':TypeId}{vs:Array Value}(ht:h[t]?=some (.tok u ty)) (q1:σ[t]?=some (some b)) (q3:∃fr,w.heap[b]?=some (.cells vs ty' fr)) :
  w.heap[b]?=some (.cells vs ty' (0,0)):=by
 have⟨fr,q3⟩:=q3;rcases hr.tok t _ _ ht with⟨a,_⟩|⟨b3,c,_,_,a,_,z3,_⟩
 ·rw[q1]at a;cases a
 rw[q1]at a;simp only[aA]at a;subst a;rw[q3]at z3;simp only[aA,Obj.cells.injEq]at z3;rw[q3,z3.2.2]
theorem Step.push [DFlag] (hr:HRel P B A0 σ h w){w':World}(g:Grows w w') (x:VObj) (y:Option Nat) (hy:∀b,y=some b->w.heap.size<=b) :
  Step P B A0 σ h w (σ++[y]) (h++[x]) w' where
 below:=g.below hr.base
 shapes:=g.shapes
 kept:=λb o v j p=>by
  refine⟨?_,g.cell p⟩;have q:=World.block_lt_of_cell? w _ p;unfold Alw at *;split
  ·rename_i l;simpa[l]using j
  rename_i l;rw[if_neg l]at j;refine⟨λi m a=>?_,λi u r a f=>?_⟩
  ·rcases bX a with⟨c,a⟩|⟨rfl,_⟩
   ·rw[getElem?_push_lt σ y (by rw[hr.len];exact c)];exact j.1 i m a
   rw[<-hr.len,ar];intro e;simp only[aA]at e;have:=hy b e;dsimp at q;omega
  rcases bX a with⟨c,a⟩|⟨rfl,_⟩
  ·rw[getElem?_push_lt σ y (by rw[hr.len];exact c)]at f;exact j.2 i u r a f
  rw[<-hr.len,ar]at f;simp only[aA]at f;have:=hy b f;dsimp at q;omega
 cells:=λi m n a=>by have d:i<h.length:=(aB.1 a).1;exact⟨getElem?_push_lt σ y (by rw[hr.len];exact d),m,n,by rw[getElem?_push_lt h x d];exact a⟩
 toks:=λi u r a=>by have d:i<h.length:=(aB.1 a).1;exact⟨u,by rw[getElem?_push_lt h x d];exact a,aR _,λ_=>getElem?_push_lt σ y (by rw[hr.len];exact d)⟩
 loops:=λi L n a=>by have d:i<h.length:=(aB.1 a).1;exact⟨getElem?_push_lt σ y (by rw[hr.len];exact d),n,by rw[getElem?_push_lt h x d];exact a⟩
 maps:=λi t a=>by have d:i<h.length:=(aB.1 a).1;exact⟨getElem?_push_lt σ y (by rw[hr.len];exact d),t,by rw[getElem?_push_lt h x d];exact a⟩
 marks:=λk s=>by rw[g.block k (aO.1 s).1];exact s
 drawn:=g.drawn
theorem HRel.push [DFlag] (hr:HRel P B A0 σ h w){w':World}(g:Grows w w') (x:VObj) (y:Option Nat) (hy:∀b,y=some b->w.heap.size<=b)
  (hcells:∀cs st,x=.cells cs st->∃b vs ty,y=some b/\w'.heap[b]?=some (.cells vs ty (0,0))/\cs.length<=vs.size/\(∀c∈cs,c.one=true) /\
   ∀(k:Nat) c v,cs[k]?=some c->vs[k]?=some v->Rel P (Alw P B A0 σ h) σ h w c v)
  (htok:∀u ty,x=.tok u ty->(y=none/\u=0)\/∃b vs sz cap,y=some b/\w'.heap[b]?=some (.cells vs ty (0,0))/\cr P ty=some sz/\vs.size=cap*sz/\u<=cap/\cap<=maxLen)
  (hloop:∀L st,x=.loop L st->st≠.over->∃l fn tm D,y=some l/\w'.heap[l]?=some (.loop (mr L fn tm D st))/\tm.size=L.n /\
   ∀t,Rel P (Alw P B A0 σ h) σ h w (L.s.get t) (tm.getD t undef):=by intro _ _ e;cases e)
  (hmap:∀es,x=.map es->∃b mes clock,y=some b/\w'.heap[b]?=some (.map mes clock)/\mes.size=es.length /\
   ∀(k:Nat) e m,es[k]?=some e->mes[k]?=some m->fH e.1=some m.key/\bf e.2=true/\Rel P (Alw P B A0 σ h) σ h w e.2 m.val:=by intro _ e;cases e) :
  HRel P B A0 (σ++[y]) (h++[x]) w' where
 base:=cW hr.base g.size
 glob:=hr.globBelow (g.below hr.base)
 tab:=hr.tabBelow (g.below hr.base)
 len:=by simp[hr.len]
 cells:=λi cs st d F=>by
  rcases bX d with⟨c,d⟩|⟨rfl,e⟩
  ·have⟨b,vs,ty,a,o,f,r,z,U⟩:=hr.cells i cs st d F;exact⟨b,vs,ty,by rw[getElem?_push_lt σ y (by rw[hr.len];exact c)];exact a,o,by rw[g.block b (aO.1 f).1];exact f,r,z,
    λk c v I J=>(U k c v I J).step (.push hr g x y hy)⟩
  have⟨b,vs,ty,a,o,f,r,z⟩:=hcells cs st e.symm;exact⟨b,vs,ty,by rw[<-hr.len,ar,a],cW hr.base (hy b a),o,f,r,λk c v I J=>(z k c v I J).step (.push hr g x y hy)⟩
 tok:=λi u ty d=>by
  rcases bX d with⟨c,d⟩|⟨rfl,e⟩
  ·rw[getElem?_push_lt σ y (by rw[hr.len];exact c)];rcases hr.tok i u ty d with k|⟨b,vs,sz,cap,a,o,f,k⟩
   ·exact .inl k
   exact .inr ⟨b,vs,sz,cap,a,o,by rw[g.block b (aO.1 f).1];exact f,k⟩
  rw[<-hr.len,ar];rcases htok u ty e.symm with⟨a,o⟩|⟨b,vs,sz,cap,a,k⟩
  ·exact .inl ⟨by rw[a],.inl o⟩
  exact .inr ⟨b,vs,sz,cap,by rw[a],cW hr.base (hy b a),k⟩
 loop:=λi L st d F=>by
  rcases bX d with⟨c,d⟩|⟨rfl,e⟩
  ·have⟨l,fn,tm,D,a,o,f,r,z⟩:=hr.loop i L st d F;exact⟨l,fn,tm,D,by rw[getElem?_push_lt σ y (by rw[hr.len];exact c)];exact a,o,by rw[g.block l (aO.1 f).1];exact f,r,λt=>(z t).step (.push hr g x y hy)⟩
  have⟨l,fn,tm,D,a,f,r,z⟩:=hloop L st e.symm F;exact⟨l,fn,tm,D,by rw[<-hr.len,ar,a],cW hr.base (hy l a),f,r,λt=>(z t).step (.push hr g x y hy)⟩
 map:=λi es d=>by
  rcases bX d with⟨c,d⟩|⟨rfl,e⟩
  ·have⟨b,mes,clock,a,o,f,r,z⟩:=hr.map i es d;exact⟨b,mes,clock,by rw[getElem?_push_lt σ y (by rw[hr.len];exact c)];exact a,o,by rw[g.block b (aO.1 f).1];exact f,r,λk e m K M=>let q:=z k e m K M;⟨q.1,q.2.1,q.2.2.step (.push hr g x y hy)⟩⟩
  have⟨b,mes,clock,a,f,r,z⟩:=hmap es e.symm;exact⟨b,mes,clock,by rw[<-hr.len,ar,a],cW hr.base (hy b a),f,r,λk e m K M=>let q:=z k e m K M;⟨q.1,q.2.1,q.2.2.step (.push hr g x y hy)⟩⟩
 uniq:=λi j b p q d G A E N O=>by
  rcases bX d with⟨Q,d⟩|⟨rfl,_⟩<;>rcases bX G with⟨S,G⟩|⟨rfl,_⟩
  ·rw[getElem?_push_lt σ y (by rw[hr.len];exact Q)]at A;rw[getElem?_push_lt σ y (by rw[hr.len];exact S)]at E;exact hr.uniq i j b p q d G A E N O
  ·rw[getElem?_push_lt σ y (by rw[hr.len];exact Q)]at A;rw[<-hr.len,ar]at E;simp only[aA]at E;have:=hr.lt d N A;have:=hy b E;omega
  ·rw[getElem?_push_lt σ y (by rw[hr.len];exact S)]at E;rw[<-hr.len,ar]at A;simp only[aA]at A;have:=hr.lt G O E;have:=hy b A;omega
  rfl
theorem HRel.pushF [DFlag] (hr:HRel P B A0 σ h w){w':World}(g:Grows w w') (x:VObj) (y:Option Nat) (hy:∀b,y=some b->w.heap.size<=b){cs:LA}{st:OSt}(hx:x=.cells cs st:=by rfl)
  (hcells:∃b vs ty,y=some b/\w'.heap[b]?=some (.cells vs ty (0,0))/\cs.length<=vs.size/\(∀c∈cs,c.one=true) /\
   ∀(k:Nat) c v,cs[k]?=some c->vs[k]?=some v->Rel P (Alw P B A0 (σ++[y]) (h++[x])) (σ++[y]) (h++[x]) w' c v):HRel P B A0 (σ++[y]) (h++[x]) w' where
 base:=cW hr.base g.size
 glob:=hr.globBelow (g.below hr.base)
 tab:=hr.tabBelow (g.below hr.base)
 len:=by simp[hr.len]
 cells:=λi F G a I=>by
  rcases bX a with⟨c,a⟩|⟨rfl,e⟩
  ·have⟨b,vs,ty,f,n,d,o,r,S⟩:=hr.cells i F G a I;exact⟨b,vs,ty,by rw[getElem?_push_lt σ y (by rw[hr.len];exact c)];exact f,n,by rw[g.block b (aO.1 d).1];exact d,o,r,
    λk c v U V=>(S k c v U V).step (.push hr g x y hy)⟩
  have⟨b,vs,ty,f,n,d,o,r⟩:=hcells;rw[hx]at e;simp only[VObj.cells.injEq]at e;obtain⟨rfl,rfl⟩:=e;exact⟨b,vs,ty,by rw[<-hr.len,ar,f],cW hr.base (hy b f),n,d,o,r⟩
 tok:=λi u ty a=>by
  rcases bX a with⟨c,a⟩|⟨_,e⟩
  ·rw[getElem?_push_lt σ y (by rw[hr.len];exact c)];rcases hr.tok i u ty a with k|⟨b,vs,X,J,f,n,d,k⟩
   ·exact .inl k
   exact .inr ⟨b,vs,X,J,f,n,by rw[g.block b (aO.1 d).1];exact d,k⟩
  rw[hx]at e;cases e
 loop:=λi L st a I=>by
  rcases bX a with⟨c,a⟩|⟨_,e⟩
  ·have⟨l,Y,Z,D,f,n,d,o,r⟩:=hr.loop i L st a I;exact⟨l,Y,Z,D,by rw[getElem?_push_lt σ y (by rw[hr.len];exact c)];exact f,n,by rw[g.block l (aO.1 d).1];exact d,o,λt=>(r t).step (.push hr g x y hy)⟩
  rw[hx]at e;cases e
 map:=λi es a=>by
  rcases bX a with⟨c,a⟩|⟨_,e⟩
  ·have⟨b,K,s,f,n,d,o,r⟩:=hr.map i es a;exact⟨b,K,s,by rw[getElem?_push_lt σ y (by rw[hr.len];exact c)];exact f,n,by rw[g.block b (aO.1 d).1];exact d,o,λk e m he hm=>let q:=r k e m he hm;⟨q.1,q.2.1,q.2.2.step (.push hr g x y hy)⟩⟩
  rw[hx]at e;cases e
 uniq:=λi j b p q a E z A M N=>by
  rcases bX a with⟨O,a⟩|⟨rfl,_⟩<;>rcases bX E with⟨Q,E⟩|⟨rfl,_⟩
  ·rw[getElem?_push_lt σ y (by rw[hr.len];exact O)]at z;rw[getElem?_push_lt σ y (by rw[hr.len];exact Q)]at A;exact hr.uniq i j b p q a E z A M N
  ·rw[getElem?_push_lt σ y (by rw[hr.len];exact O)]at z;rw[<-hr.len,ar]at A;simp only[aA]at A;have:=hr.lt a M z;have:=hy b A;omega
  ·rw[getElem?_push_lt σ y (by rw[hr.len];exact Q)]at A;rw[<-hr.len,ar]at z;simp only[aA]at z;have:=hr.lt E N A;have:=hy b z;omega
  rfl
theorem xd(h:H) (i j:Nat):(uU h i)[j]? =
  (match h[j]? with|some (.cells cs .live)=>some (if j=i then .cells cs .frozen else .cells cs .live)|x=>x):=by
 unfold uU;by_cases b:j=i
 ·subst b;split
  ·rename_i cs a;have:j<h.length:=(aB.1 a).1;rw[aH this,a];simp
  rename_i c;cases g:h[j]? with
  |none=>rfl
  |some x=>cases x with
   |tok u k=>rfl
   |loop L f=>rfl
   |map l=>rfl
   |void=>rfl
   |cells cs f=>cases f<;>first|rfl|exact absurd g (c cs)
 have d:i≠j:=λe=>b e.symm
 split
 ·rw[aE d];split
  ·rename_i a;simp[a,b]
  rfl
 split
 ·rename_i a;simp[a,b]
 rfl
theorem mI:∀(l:List Nat) (h:H) (j:Nat),(freeze h l)[j]?=(match h[j]? with|some (.cells cs .live)=>some (if j∈l then .cells cs .frozen else .cells cs .live)|x=>x):=by
 intro l;induction l with
 |nil=>intro h j;simp only[freeze];split<;>simp_all
 |cons i l c=>
  intro h j;simp only[freeze];rw[c,xd];by_cases a:j=i
  ·subst a;cases d:h[j]? with
   |none=>rfl
   |some x=>cases x with
    |tok u e=>rfl
    |loop L b=>rfl
    |map f=>rfl
    |void=>rfl
    |cells cs b=>cases b<;>simp
  cases d:h[j]? with
  |none=>rfl
  |some x=>cases x with
   |tok u e=>rfl
   |loop L b=>rfl
   |map f=>rfl
   |void=>rfl
   |cells cs b=>cases b<;>simp[a]
structure Stiller (h h':H):Prop where
 len:h'.length=h.length
 at_:∀j:Nat,h'[j]?=h[j]?\/∃cs,h[j]?=some (.cells cs .live)/\h'[j]?=some (.cells cs .frozen)
theorem BL:∀(l:List Nat) (h:H),(freeze h l).length=h.length:=by
 intro l;induction l with
 |nil=>intro h;rfl
 |cons i l a=>intro h;simp only[freeze];rw[a];unfold uU;split<;>simp
theorem iM(h:H) (l:List Nat):Stiller h (freeze h l):=⟨BL l h,λj=>by
 rw[mI];cases d:h[j]? with
 |none=>exact .inl rfl
 |some x=>cases x with
  |tok u e=>exact .inl rfl
  |loop L a=>exact .inl rfl
  |map f=>exact .inl rfl
  |void=>exact .inl rfl
  |cells c a=>
   cases a
   ·by_cases b:j∈l
    ·exact .inr ⟨c,rfl,by simp[b]⟩
    exact .inl (by simp[b])
   ·exact .inl rfl
   exact .inl rfl⟩
theorem da:∀(h:H),Stiller h (bj h):=by
 intro h;induction h with
 |nil=>exact⟨rfl,λj=>.inl rfl⟩
 |cons x h a=>
  cases x with
  |tok u d=>
   refine⟨by simp[bj,a.len],λj=>?_⟩;cases j with
   |zero=>exact .inl rfl
   |succ j=>simpa[bj]using a.at_ j
  |loop L b=>
   refine⟨by simp[bj,a.len],λj=>?_⟩;cases j with
   |zero=>exact .inl rfl
   |succ j=>simpa[bj]using a.at_ j
  |map e=>
   refine⟨by simp[bj,a.len],λj=>?_⟩;cases j with
   |zero=>exact .inl rfl
   |succ j=>simpa[bj]using a.at_ j
  |void=>
   refine⟨by simp[bj,a.len],λj=>?_⟩;cases j with
   |zero=>exact .inl rfl
   |succ j=>simpa[bj]using a.at_ j
  |cells c b=>
   cases b
   ·refine⟨by simp[bj,a.len],λj=>?_⟩;cases j with
    |zero=>exact .inr ⟨c,rfl,rfl⟩
    |succ j=>simpa[bj]using a.at_ j
   all_goals
    refine⟨by simp[bj,a.len],λj=>?_⟩;cases j with
    |zero=>exact .inl rfl
    |succ j=>simpa[bj]using a.at_ j
theorem Stiller.alw{h':H}(s:Stiller h h'){b o:Nat}(ha:Alw P B A0 σ h b o):Alw P B A0 σ h' b o:=by
 unfold Alw at *;split
 ·rename_i c;simpa[c]using ha
 rename_i c;rw[if_neg c]at ha;refine⟨λi f a=>?_,λi u g a=>?_⟩
 ·rcases s.at_ i with e|⟨d,_,e⟩
  ·exact ha.1 i f (e▸a)
  rw[e]at a;cases a
 rcases s.at_ i with e|⟨d,_,e⟩
 ·exact ha.2 i u g (e▸a)
 rw[e]at a;cases a
theorem Step.stiller [DFlag] (_:HRel P B A0 σ h w){h':H}(s:Stiller h h'):Step P B A0 σ h w σ h' w where
 below:=.refl _ _
 shapes:=.refl _
 kept:=λb o v g j=>⟨s.alw g,j⟩
 cells:=λi k f a=>⟨rfl,by
  rcases s.at_ i with e|⟨c,_,e⟩
  ·exact⟨k,f,e.trans a⟩
  exact⟨c,_,e⟩⟩
 toks:=λi u n a=>by
  refine⟨u,?_,aR _,λ_=>rfl⟩;rcases s.at_ i with e|⟨c,d,e⟩
  ·exact e.trans a
  rw[a]at d;cases d
 loops:=λi L f a=>by
  refine⟨rfl,f,?_⟩;rcases s.at_ i with e|⟨c,d,e⟩
  ·exact e.trans a
  rw[a]at d;cases d
 maps:=λi l a=>by
  refine⟨rfl,l,?_⟩;rcases s.at_ i with e|⟨c,d,e⟩
  ·exact e.trans a
  rw[a]at d;cases d
 marks:=λ_ m=>m
 drawn:=λ_=>aR _
theorem HRel.stiller(hr:HRel P B A0 σ h w){h':H}(s:Stiller h h'):HRel P B A0 σ h' w where
 base:=hr.base
 glob:=hr.glob
 tab:=hr.tab
 len:=hr.len.trans s.len.symm
 cells:=λi U F a G=>by
  have:∃d,h[i]?=some (.cells U d)/\d≠.dead:=by
   rcases s.at_ i with e|⟨f,I,e⟩
   ·exact⟨F,e▸a,G⟩
   rw[e]at a;simp only[aA,VObj.cells.injEq]at a;obtain⟨rfl,rfl⟩:=a;exact⟨_,I,s_⟩
  have⟨d,g,J⟩:=this;have⟨b,V,K,o,r,x,y,z,X⟩:=hr.cells i U d g J;exact⟨b,V,K,o,r,x,y,z,λk c v Y Z=>(X k c v Y Z).step (.stiller hr s)⟩
 tok:=λi u K a=>by
  rcases s.at_ i with e|⟨f,_,e⟩
  ·exact hr.tok i u K (e▸a)
  rw[e]at a;cases a
 loop:=λi L F a G=>by
  rcases s.at_ i with e|⟨f,_,e⟩
  ·have⟨l,fn,tm,D,o,r,x,y,z⟩:=hr.loop i L F (e▸a) G;exact⟨l,fn,tm,D,o,r,x,y,λt=>(z t).step (.stiller hr s)⟩
  rw[e]at a;cases a
 map:=λi es a=>by
  rcases s.at_ i with e|⟨f,_,e⟩
  ·have⟨b,M,n,o,r,x,y,z⟩:=hr.map i es (e▸a);exact⟨b,M,n,o,r,x,y,λk e m he hm=>let q:=z k e m he hm;⟨q.1,q.2.1,q.2.2.step (.stiller hr s)⟩⟩
  rw[e]at a;cases a
 uniq:=λi j b p q a hj si sj N dj=>by
  have A:∀(i:Nat) p,h'[i]?=some p->p.gone=false->∃E,h[i]?=some E/\E.gone=false:=λi p a N=>by
   rcases s.at_ i with e|⟨f,I,e⟩
   ·exact⟨p,e▸a,N⟩
   exact⟨_,I,rfl⟩
  have⟨E,g,O⟩:=A i p a N;have⟨q',Q,S⟩:=A j q hj dj;exact hr.uniq i j b E q' g Q si sj O S
theorem HRel.frozen_alw(hr:HRel P B A0 σ h w){id b:Nat}{cs:LA}(hi:h[id]?=some (.cells cs .frozen)) (hs:σ[id]?=some (some b)) (o:Nat):Alw P B A0 σ h b o:=by
 have⟨g,j,e,d,k,_⟩:=hr.cells id cs _ hi s_;rw[hs]at d;simp only[aA]at d;subst d;unfold Alw;rw[if_neg o_];refine⟨λi f a c=>?_,λi u e a c=>?_⟩
 ·have:=hr.uniq i id b _ _ a hi c hs rfl rfl;subst this;rw[hi]at a;cases a
 have:=hr.uniq i id b _ _ a hi c hs rfl rfl;subst this;rw[hi]at a;cases a
theorem LZ(sz:Nat):∀(n:Nat) (cs:LA) (i:Nat),i<n->(io sz n cs)[i]?=some (match sz,cs.drop (i*sz)with|1,c::_=>c|_,r=>.agg (r.take sz)):=by
 intro n;induction n with
 |zero=>intro cs i a;omega
 |succ n b=>
  intro cs i a;cases i with
  |zero=>simp only[io,Nat.zero_mul,dO,be,aA];split<;>(split<;>simp_all)
  |succ i=>simp only[io,dH];rw[b _ i o_];simp only[List.drop_drop];rw[show sz+i*sz=(i+1)*sz by rw[fD];omega]
theorem rz(sz:Nat):∀(n:Nat) (cs:LA),(io sz n cs).length=n:=by
 intro n;induction n with
 |zero=>intro cs;rfl
 |succ n a=>intro cs;simp[io,a]
theorem kc{sz n:Nat}{cs:LA}(hl:n*sz<=cs.length) (h0:0<sz) (h1:∀c∈cs,c.one=true){i:Nat}{e:AV}(he:(io sz n cs)[i]?=some e) :
  e.cells=(cs.drop (i*sz)).take sz/\e.cells.length=sz/\bf e=true:=by
 have b:i<n:=by have:=(aB.1 he).1;rwa[rz]at this
 have f:i*sz+sz<=cs.length:=cW (by rw[<-gW];exact cQ _ b) hl;rw[LZ sz n cs i b]at he;simp only[aA]at he;split at he
 ·rename_i c r d;subst he;have g:c.one=true:=h1 c (dE (i:=i*1) (by rw[d];simp));have a:c.cells=[c]:=by cases c<;>simp_all [AV.cells,AV.one]
  refine⟨by rw[a,d];rfl,by rw[a];rfl,by cases c<;>simp_all [bf,AV.one]⟩
 subst he;exact⟨rfl,by simp only[AV.cells,ag,dJ];omega,rfl⟩
theorem um{n:Nat}{a a':AV}(hh:fc h n a=some a') (hn:bf a=true):bf a'=true:=by
 cases n with
 |zero=>simp[fc]at hh
 |succ n=>
  cases a<;>simp only[fc]at hh<;>first|(cases hn;done)|(simp only[aA]at hh;subst hh;rfl)|skip
  all_goals
   repeat' split at hh
   all_goals first|(cases hh;done)|(simp only[aA]at hh;subst hh;rfl)
theorem Mi{n:Nat}{a a':AV}(hh:fc h n a=some a') (hn:a.one=true):a'.one=true:=by
 cases n with
 |zero=>simp[fc]at hh
 |succ n=>
  cases a<;>simp only[fc]at hh<;>first|(cases hn;done)|(simp only[aA]at hh;subst hh;rfl)|skip
  all_goals
   repeat' split at hh
   all_goals first|(cases hh;done)|(simp only[aA]at hh;subst hh;rfl)
mutual
theorem ji(hr:HRel P B A0 σ h w):∀(n:Nat) (a a':AV) (v:Value),fc h n a=some a'->Rel P (Alw P B A0 σ h) σ h w a v->IRel (Alw P B A0 σ h) w a' v
 |0,a,a',v,hh,_=>by simp[fc]at hh
 |n+1,a,a',v,hh,r=>by
  simp only[fc]at hh;split at hh
  ·simp only[aA]at hh;subst hh;exact mT r
  ·rename_i id off;split at hh<;>try(cases hh;done)
   rename_i cs hid;split at hh<;>try(cases hh;done)
   rename_i l hl;simp only[aA]at hh;subst hh;obtain⟨b,rfl,g1,_⟩:=pv r;have⟨b',g,S,F,k2,U,k4,V,X⟩:=hr.cells id cs _ hid s_;rw[g1]at F;simp only[aA]at F;subst F;have⟨E,s,G⟩:=ia hr n cs l hl;have:=IRel.iptr (A:=Alw P B A0 σ h) (w:=w) (e:=.agg l) (off:=off) (b:=b) (o:=0) (λj=>g.getD j undef) (λc f=>G c f V)
    (λj c f=>by have K:j<l.length:=(aB.1 f).1;refine⟨hr.frozen_alw hid g1 _,?_⟩;rw[cH,cell_of_row w b j g S _ U];simp[Array.getD,show j<g.size by omega])
    (λj c f=>by have K:j<l.length:=(aB.1 f).1;have Y:g[j]?=some (g[j]' o_):=aT _;have d:cs[j]?=some (cs[j]' o_):=aC _;have:=s j _ c _ d f (X j _ _ d Y);simpa[Array.getD,show j<g.size by omega]using this)
   simpa using this
  ·rename_i id off sz len cap;split at hh<;>try(cases hh;done)
   rename_i cs hid;split at hh<;>try(cases hh;done)
   rename_i l hl;split at hh<;>try(cases hh;done)
   rename_i hb;simp only[aA]at hh;subst hh;obtain⟨b,c,rfl,g1,g2,O,g4,g5,g6,g7⟩:=kL r;have⟨b',g,S,F,k2,U,k4,V,X⟩:=hr.cells id cs _ hid s_;rw[g1]at F;simp only[aA]at F;subst F;have⟨E,s,G⟩:=ia hr n cs l hl;have k:∀c∈l.drop off,c.one=true:=λc f=>G c (dE f) V
   have p:len*sz<=(l.drop off).length:=by simp;omega
   have I:(io sz len (l.drop off)).length=len:=rz _ _ _;have cell:∀(i j:Nat) e c,(io sz len (l.drop off))[i]?=some e->e.cells[j]?=some c->l[off+i*sz+j]?=some c/\i<len/\j<sz:=λi j e c y f=>by
    have⟨z,D,L⟩:=kc p O k y;have N:i<len:=by have:=(aB.1 y).1;rwa[I]at this
    have K:j<sz:=by have:=(aB.1 f).1;rwa[D]at this
    rw[z,jo,if_pos K,cE]at f;exact⟨by rw[fe];exact f,N,K⟩
   have:=IRel.isl (A:=Alw P B A0 σ h) (w:=w) (es:=io sz len (l.drop off)) (sz:=sz) (b:=b) (o:=off) (cap:=c) (λi j=>g.getD (off+i*sz+j) undef) O (by rw[I];exact g4) g5
    (λe y=>by obtain⟨i,N,rfl⟩:=bg y;exact(kc p O k (aC N)).2)
    (λe y M m=>by obtain⟨i,N,rfl⟩:=bg y;rw[(kc p O k (aC N)).1]at m;exact k M (dE (bW m)))
    (λi j e M y m=>by have⟨z,D,L⟩:=cell i j e M y m;have K:off+i*sz+j<l.length:=(aB.1 z).1;refine⟨hr.frozen_alw hid g1 _,?_⟩;rw[cell_of_row w b _ g S _ U];simp[Array.getD,show off+i*sz+j<g.size by omega])
    (λi j e M y m=>by have⟨z,D,L⟩:=cell i j e M y m;have K:off+i*sz+j<l.length:=(aB.1 z).1;have Y:g[off+i*sz+j]?=some (g[off+i*sz+j]' o_):=aT _;have d:cs[off+i*sz+j]?=some (cs[off+i*sz+j]' o_):=aC _;have:=s _ _ M _ d z (X _ _ _ d Y);simpa[Array.getD,show off+i*sz+j<g.size by omega]using this)
   rw[I]at this;exact this
  ·split at hh<;>try(cases hh;done)
   rename_i l hl;simp only[aA]at hh;subst hh;have⟨E,s,G⟩:=ia hr n _ l hl;cases r with
   |data r=>
    cases r with
    |func z D=>exact .func o_ (λi c u f J=>by have d:=aC (l:=_) (i:=i) (show i<_ by have:=(aB.1 f).1;rw[E]at this;exact this);exact s i _ c u d f (.data (D i _ u d J)))
   |func z D=>exact .func o_ (λi c u f J=>by have d:=aC (l:=_) (i:=i) (show i<_ by have:=(aB.1 f).1;rw[E]at this;exact this);exact s i _ c u d f (D i _ u d J))
  ·split at hh<;>try(cases hh;done)
   rename_i t u x Q;simp only[aA]at hh;subst hh;cases r with
   |data r=>cases r with
    |iface Z q=>exact .iface (um Q Z) (ji hr n _ _ _ Q (.data q))
   |iface Z q=>exact .iface (um Q Z) (ji hr n _ _ _ Q q)
  ·split at hh<;>try(cases hh;done)
   rename_i l hl;simp only[aA]at hh;subst hh;have⟨E,s,G⟩:=ia hr n _ l hl;obtain⟨g,rfl,z,D,L⟩:=uH r;exact .agg (λc f=>G c f D) o_ (λi c u f J=>by have d:=aC (l:=_) (i:=i) (show i<_ by have:=(aB.1 f).1;rw[E]at this;exact this);exact s i _ c u d f (L i _ u d J))
  ·split at hh<;>try(cases hh;done)
   rename_i l hl;simp only[aA]at hh;subst hh;have⟨E,s,G⟩:=ia hr n _ l hl;obtain⟨g,rfl,z,L⟩:=uG r;exact .tuple o_ (λi c u f J=>by have d:=aC (l:=_) (i:=i) (show i<_ by have:=(aB.1 f).1;rw[E]at this;exact this);exact s i _ c u d f (L i _ u d J))
  ·cases hh
  ·cases hh
  simp only[aA]at hh;subst hh;cases r with
  |data r=>exact r
  |msl=>exact(‹∀(id off sz len:Nat) (cap:Option Nat),AV.msl _ _ _ _ _=AV.msl id off sz len cap->False› _ _ _ _ _ rfl).elim
  |_=>simp_all
theorem ia(hr:HRel P B A0 σ h w):∀(n:Nat) (l l':LA),gE h n l=some l'->l'.length=l.length /\
  (∀(i:Nat) a a' v,l[i]?=some a->l'[i]?=some a'->Rel P (Alw P B A0 σ h) σ h w a v->IRel (Alw P B A0 σ h) w a' v)/\(∀c∈l',(∀c∈l,c.one=true)->c.one=true)
 |0,l,l',hh=>by simp[gE]at hh
 |n+1,[],l',hh=>by simp only[gE,aA]at hh;subst hh;simp
 |n+1,a::l,l',hh=>by
  simp only[gE]at hh;split at hh<;>try(cases hh;done)
  rename_i a' l2 h1 h2;simp only[aA]at hh;subst hh;have⟨m1,m2,m3⟩:=ia hr n l l2 h2;refine⟨by simp[m1],λi c f v b d r=>?_,λc b e=>?_⟩
  ·cases i with
   |zero=>simp at b d;subst b d;exact ji hr n _ _ _ h1 r
   |succ i=>simp at b d;exact m2 i _ _ _ b d r
  simp only[ao]at b;rcases b with rfl|b
  ·exact Mi h1 (e a s_)
  exact m3 c b (λc b=>e c (by simp[b]))
end
end
end Go.V
