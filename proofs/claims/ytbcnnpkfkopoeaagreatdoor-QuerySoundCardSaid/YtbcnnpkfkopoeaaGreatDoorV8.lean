/- A part of the proof. -/
import Derived.Test.YtbcnnpkfkopoeaaGreatDoorV7
set_option maxHeartbeats 400000
namespace Go.V
open Go
section
variable {P:Program}{B:Nat}{A0:Nat->Nat->Prop}{σ:List (Option Nat)}{h:H}{w:World}
structure Grows [DFlag] (w w':World):Prop where
 os:w'.os=w.os
 tape:w'.tape=w.tape
 output:w'.output=w.output
 size:w.heap.size<=w'.heap.size
 block:∀k:Nat,k<w.heap.size->w'.heap[k]?=w.heap[k]?
 drawn:DFlag.D->w.drawn<=w'.drawn
theorem Grows.refl [DFlag] (w:World):Grows w w:=⟨rfl,rfl,rfl,aP _,λ_ _=>rfl,λ_=>aP _⟩
theorem Grows.alloc [DFlag] (w:World) (o:Obj):Grows w (w.alloc o):=⟨rfl,rfl,rfl,s_,λk a=>heap_alloc_old w o k a,λ_=>aP _⟩
theorem Grows.drew [DFlag] (w:World):Grows w w.drew:=⟨rfl,rfl,rfl,aP _,λ_ _=>rfl,λ_=>Nat.le_succ _⟩
theorem Grows.trans [DFlag] {a b c:World}(h:Grows a b) (k:Grows b c):Grows a c:=
 ⟨k.os.trans h.os,k.tape.trans h.tape,k.output.trans h.output,cJ h.size k.size,λi e=>(k.block i (fW e h.size)).trans (h.block i e),λd=>cJ (h.drawn d) (k.drawn d)⟩
theorem Grows.cell [DFlag] {w w':World}(g:Grows w w'){b o:Nat}{x:Value}(hc:w.cell? ⟨b,o,none⟩=some x):w'.cell? ⟨b,o,none⟩=some x:=by have a:=World.block_lt_of_cell? w _ hc;rw[World.cell?_of_block (w:=w) (g.block b a)];exact hc
theorem Grows.shapes [DFlag] {w w':World}(g:Grows w w'):Shapes w w':=λb c e d a=>⟨c,d,by rw[g.block b (aR.1 a).1];exact a,rfl⟩
theorem Grows.below [DFlag] {w w':World}(g:Grows w w'){B:Nat}(hB:B<=w.heap.size):RowKit.Below B w w':=⟨g.os,g.tape,g.output,g.size,λk a=>g.block k (fW a hB)⟩
theorem HRel.lt(hr:HRel P B A0 σ h w){i b:Nat}{x:VObj}(hx:h[i]?=some x) (hd:x.gone=false) (hs:σ[i]?=some (some b)):b<w.heap.size/\B<=b:=by
 cases x with
 |cells k st=>have⟨g,m,j,a,c,d,_⟩:=hr.cells i k st hx (λe=>by subst e;cases hd);rw[hs]at a;simp only[aA]at a;subst a;exact⟨(aR.1 d).1,c⟩
 |tok u j=>
  rcases hr.tok i u j hx with⟨a,_⟩|⟨g,m,q,n,a,c,d,_⟩
  ·rw[hs]at a;cases a
  rw[hs]at a;simp only[aA]at a;subst a;exact⟨(aR.1 d).1,c⟩
 |loop L st=>have⟨l,r,s,D,a,c,d,_⟩:=hr.loop i L st hx (λe=>by subst e;cases hd);rw[hs]at a;simp only[aA]at a;subst a;exact⟨(aR.1 d).1,c⟩
 |map o=>have⟨g,p,f,a,c,d,_⟩:=hr.map i o hx;rw[hs]at a;simp only[aA]at a;subst a;exact⟨(aR.1 d).1,c⟩
 |void=>cases hd
theorem Step.grows [DFlag] (hr:HRel P B A0 σ h w){w':World}(g:Grows w w'):Step P B A0 σ h w σ h w':=
 ⟨g.below hr.base,g.shapes,λ_ _ _ a c=>⟨a,g.cell c⟩,λ_ e st b=>⟨rfl,e,st,b⟩,λ_ u _ b=>⟨u,b,aP _,λ_=>rfl⟩,λ_ _ st b=>⟨rfl,st,b⟩,λ_ f b=>⟨rfl,f,b⟩,λk d=>by rw[g.block k (aR.1 d).1];exact d,g.drawn⟩
theorem HRel.grows [DFlag] (hr:HRel P B A0 σ h w){w':World}(g:Grows w w'):HRel P B A0 σ h w' where
 base:=cJ hr.base g.size
 len:=hr.len
 cells:=λi A st d r=>by have⟨b,s,x,f,j,a,o,p,E⟩:=hr.cells i A st d r;exact⟨b,s,x,f,j,by rw[g.block b (aR.1 a).1];exact a,o,p,λk c v F G=>(E k c v F G).step (.grows hr g)⟩
 tok:=λi u x d=>by
  rcases hr.tok i u x d with k|⟨b,s,I,y,f,j,a,k⟩
  ·exact .inl k
  exact .inr ⟨b,s,I,y,f,j,by rw[g.block b (aR.1 a).1];exact a,k⟩
 loop:=λi L st d r=>by have⟨l,J,K,D,f,j,a,o,p⟩:=hr.loop i L st d r;exact⟨l,J,K,D,f,j,by rw[g.block l (aR.1 a).1];exact a,o,λt=>(p t).step (.grows hr g)⟩
 map:=λi M d=>by have⟨b,z,n,f,j,a,o,p⟩:=hr.map i M d;exact⟨b,z,n,f,j,by rw[g.block b (aR.1 a).1];exact a,o,λk e m N O=>let q:=p k e m N O;⟨q.1,q.2.1,q.2.2.step (.grows hr g)⟩⟩
 uniq:=hr.uniq
 glob:=hr.globBelow (g.below hr.base)
 tab:=hr.tabBelow (g.below hr.base)
theorem getElem?_push_lt{α:Type}(l:List α) (x:α){i:Nat}(hi:i<l.length):(l++[x])[i]?=l[i]?:=aH hi
theorem aw{α:Type}(l:List α) (x:α):(l++[x])[l.length]?=some x:=s_
theorem bh{α:Type}{l:List α}{x y:α}{i:Nat}(hi:(l++[x])[i]?=some y):(i<l.length/\l[i]?=some y)\/(i=l.length/\y=x):=by
 rcases Nat.lt_trichotomy i l.length with c|c|c
 ·exact .inl ⟨c,by rwa[getElem?_push_lt l x c]at hi⟩
 ·subst c;rw[aw]at hi;simp only[aA]at hi;exact .inr ⟨rfl,hi.symm⟩
 rw[cI (by simp;omega)]at hi;cases hi
theorem HRel.tok00(hr:HRel P B A0 σ h w){t u b:Nat}{ty ty':TypeId}{vs:Array Value}(ht:h[t]?=some (.tok u ty)) (q1:σ[t]?=some (some b)) (q3:∃fr,w.heap[b]?=some (.cells vs ty' fr)) :
  w.heap[b]?=some (.cells vs ty' (0,0)):=by
 have⟨fr,q3⟩:=q3;rcases hr.tok t _ _ ht with⟨a,_⟩|⟨b3,c,_,_,a,_,z3,_⟩
 ·rw[q1]at a;cases a
 rw[q1]at a;simp only[aA]at a;subst a;rw[q3]at z3;simp only[aA,Obj.cells.injEq]at z3;rw[q3,z3.2.2]
theorem Step.push [DFlag] (hr:HRel P B A0 σ h w){w':World}(g:Grows w w') (x:VObj) (y:Option Nat) (hy:∀b,y=some b->w.heap.size<=b) :
  Step P B A0 σ h w (σ++[y]) (h++[x]) w' where
 below:=g.below hr.base
 shapes:=g.shapes
 kept:=λb o v j n=>by
  refine⟨?_,g.cell n⟩;have p:=World.block_lt_of_cell? w _ n;unfold Alw at *;split
  ·rename_i l;simpa[l]using j
  rename_i l;rw[if_neg l]at j;refine⟨λi m a=>?_,λi u q a f=>?_⟩
  ·rcases bh a with⟨c,a⟩|⟨rfl,_⟩
   ·rw[getElem?_push_lt σ y (by rw[hr.len];exact c)];exact j.1 i m a
   rw[<-hr.len,aw];intro e;simp only[aA]at e;have:=hy b e;dsimp at p;omega
  rcases bh a with⟨c,a⟩|⟨rfl,_⟩
  ·rw[getElem?_push_lt σ y (by rw[hr.len];exact c)]at f;exact j.2 i u q a f
  rw[<-hr.len,aw]at f;simp only[aA]at f;have:=hy b f;dsimp at p;omega
 cells:=λi m st a=>by have d:i<h.length:=(aB.1 a).1;exact⟨getElem?_push_lt σ y (by rw[hr.len];exact d),m,st,by rw[getElem?_push_lt h x d];exact a⟩
 toks:=λi u q a=>by have d:i<h.length:=(aB.1 a).1;exact⟨u,by rw[getElem?_push_lt h x d];exact a,aP _,λ_=>getElem?_push_lt σ y (by rw[hr.len];exact d)⟩
 loops:=λi L st a=>by have d:i<h.length:=(aB.1 a).1;exact⟨getElem?_push_lt σ y (by rw[hr.len];exact d),st,by rw[getElem?_push_lt h x d];exact a⟩
 maps:=λi s a=>by have d:i<h.length:=(aB.1 a).1;exact⟨getElem?_push_lt σ y (by rw[hr.len];exact d),s,by rw[getElem?_push_lt h x d];exact a⟩
 marks:=λk r=>by rw[g.block k (aR.1 r).1];exact r
 drawn:=g.drawn
theorem HRel.push [DFlag] (hr:HRel P B A0 σ h w){w':World}(g:Grows w w') (x:VObj) (y:Option Nat) (hy:∀b,y=some b->w.heap.size<=b)
  (hcells:∀cs st,x=.cells cs st->∃b vs ty,y=some b/\w'.heap[b]?=some (.cells vs ty (0,0))/\cs.length<=vs.size/\(∀c∈cs,c.one=true) /\
   ∀(k:Nat) c v,cs[k]?=some c->vs[k]?=some v->Rel P (Alw P B A0 σ h) σ h w c v)
  (htok:∀u ty,x=.tok u ty->(y=none/\u=0)\/∃b vs sz cap,y=some b/\w'.heap[b]?=some (.cells vs ty (0,0))/\cw P ty=some sz/\vs.size=cap*sz/\u<=cap/\cap<=maxLen)
  (hloop:∀L st,x=.loop L st->st≠.over->∃l fn tm D,y=some l/\w'.heap[l]?=some (.loop (nV L fn tm D st))/\tm.size=L.n /\
   ∀t,Rel P (Alw P B A0 σ h) σ h w (L.s.get t) (tm.getD t undef):=by intro _ _ e;cases e)
  (hmap:∀es,x=.map es->∃b mes clock,y=some b/\w'.heap[b]?=some (.map mes clock)/\mes.size=es.length /\
   ∀(k:Nat) e m,es[k]?=some e->mes[k]?=some m->fI e.1=some m.key/\au e.2=true/\Rel P (Alw P B A0 σ h) σ h w e.2 m.val:=by intro _ e;cases e) :
  HRel P B A0 (σ++[y]) (h++[x]) w' where
 base:=cJ hr.base g.size
 glob:=hr.globBelow (g.below hr.base)
 tab:=hr.tabBelow (g.below hr.base)
 len:=by simp[hr.len]
 cells:=λi cs st d F=>by
  rcases bh d with⟨c,d⟩|⟨rfl,e⟩
  ·have⟨b,vs,ty,a,o,f,r,z,U⟩:=hr.cells i cs st d F;exact⟨b,vs,ty,by rw[getElem?_push_lt σ y (by rw[hr.len];exact c)];exact a,o,by rw[g.block b (aR.1 f).1];exact f,r,z,
    λk c v I J=>(U k c v I J).step (.push hr g x y hy)⟩
  have⟨b,vs,ty,a,o,f,r,z⟩:=hcells cs st e.symm;exact⟨b,vs,ty,by rw[<-hr.len,aw,a],cJ hr.base (hy b a),o,f,r,λk c v I J=>(z k c v I J).step (.push hr g x y hy)⟩
 tok:=λi u ty d=>by
  rcases bh d with⟨c,d⟩|⟨rfl,e⟩
  ·rw[getElem?_push_lt σ y (by rw[hr.len];exact c)];rcases hr.tok i u ty d with k|⟨b,vs,sz,cap,a,o,f,k⟩
   ·exact .inl k
   exact .inr ⟨b,vs,sz,cap,a,o,by rw[g.block b (aR.1 f).1];exact f,k⟩
  rw[<-hr.len,aw];rcases htok u ty e.symm with⟨a,o⟩|⟨b,vs,sz,cap,a,k⟩
  ·exact .inl ⟨by rw[a],.inl o⟩
  exact .inr ⟨b,vs,sz,cap,by rw[a],cJ hr.base (hy b a),k⟩
 loop:=λi L st d F=>by
  rcases bh d with⟨c,d⟩|⟨rfl,e⟩
  ·have⟨l,fn,tm,D,a,o,f,r,z⟩:=hr.loop i L st d F;exact⟨l,fn,tm,D,by rw[getElem?_push_lt σ y (by rw[hr.len];exact c)];exact a,o,by rw[g.block l (aR.1 f).1];exact f,r,λt=>(z t).step (.push hr g x y hy)⟩
  have⟨l,fn,tm,D,a,f,r,z⟩:=hloop L st e.symm F;exact⟨l,fn,tm,D,by rw[<-hr.len,aw,a],cJ hr.base (hy l a),f,r,λt=>(z t).step (.push hr g x y hy)⟩
 map:=λi es d=>by
  rcases bh d with⟨c,d⟩|⟨rfl,e⟩
  ·have⟨b,mes,clock,a,o,f,r,z⟩:=hr.map i es d;exact⟨b,mes,clock,by rw[getElem?_push_lt σ y (by rw[hr.len];exact c)];exact a,o,by rw[g.block b (aR.1 f).1];exact f,r,λk e m K M=>let q:=z k e m K M;⟨q.1,q.2.1,q.2.2.step (.push hr g x y hy)⟩⟩
  have⟨b,mes,clock,a,f,r,z⟩:=hmap es e.symm;exact⟨b,mes,clock,by rw[<-hr.len,aw,a],cJ hr.base (hy b a),f,r,λk e m K M=>let q:=z k e m K M;⟨q.1,q.2.1,q.2.2.step (.push hr g x y hy)⟩⟩
 uniq:=λi j b p q d G A E N O=>by
  rcases bh d with⟨Q,d⟩|⟨rfl,_⟩<;>rcases bh G with⟨S,G⟩|⟨rfl,_⟩
  ·rw[getElem?_push_lt σ y (by rw[hr.len];exact Q)]at A;rw[getElem?_push_lt σ y (by rw[hr.len];exact S)]at E;exact hr.uniq i j b p q d G A E N O
  ·rw[getElem?_push_lt σ y (by rw[hr.len];exact Q)]at A;rw[<-hr.len,aw]at E;simp only[aA]at E;have:=hr.lt d N A;have:=hy b E;omega
  ·rw[getElem?_push_lt σ y (by rw[hr.len];exact S)]at E;rw[<-hr.len,aw]at A;simp only[aA]at A;have:=hr.lt G O E;have:=hy b A;omega
  rfl
theorem HRel.pushF [DFlag] (hr:HRel P B A0 σ h w){w':World}(g:Grows w w') (x:VObj) (y:Option Nat) (hy:∀b,y=some b->w.heap.size<=b){cs:LA}{st:OSt}(hx:x=.cells cs st:=by rfl)
  (hcells:∃b vs ty,y=some b/\w'.heap[b]?=some (.cells vs ty (0,0))/\cs.length<=vs.size/\(∀c∈cs,c.one=true) /\
   ∀(k:Nat) c v,cs[k]?=some c->vs[k]?=some v->Rel P (Alw P B A0 (σ++[y]) (h++[x])) (σ++[y]) (h++[x]) w' c v):HRel P B A0 (σ++[y]) (h++[x]) w' where
 base:=cJ hr.base g.size
 glob:=hr.globBelow (g.below hr.base)
 tab:=hr.tabBelow (g.below hr.base)
 len:=by simp[hr.len]
 cells:=λi F G a I=>by
  rcases bh a with⟨c,a⟩|⟨rfl,e⟩
  ·have⟨b,vs,ty,f,n,d,o,r,S⟩:=hr.cells i F G a I;exact⟨b,vs,ty,by rw[getElem?_push_lt σ y (by rw[hr.len];exact c)];exact f,n,by rw[g.block b (aR.1 d).1];exact d,o,r,
    λk c v U V=>(S k c v U V).step (.push hr g x y hy)⟩
  have⟨b,vs,ty,f,n,d,o,r⟩:=hcells;rw[hx]at e;simp only[VObj.cells.injEq]at e;obtain⟨rfl,rfl⟩:=e;exact⟨b,vs,ty,by rw[<-hr.len,aw,f],cJ hr.base (hy b f),n,d,o,r⟩
 tok:=λi u ty a=>by
  rcases bh a with⟨c,a⟩|⟨_,e⟩
  ·rw[getElem?_push_lt σ y (by rw[hr.len];exact c)];rcases hr.tok i u ty a with k|⟨b,vs,X,J,f,n,d,k⟩
   ·exact .inl k
   exact .inr ⟨b,vs,X,J,f,n,by rw[g.block b (aR.1 d).1];exact d,k⟩
  rw[hx]at e;cases e
 loop:=λi L st a I=>by
  rcases bh a with⟨c,a⟩|⟨_,e⟩
  ·have⟨l,Y,Z,D,f,n,d,o,r⟩:=hr.loop i L st a I;exact⟨l,Y,Z,D,by rw[getElem?_push_lt σ y (by rw[hr.len];exact c)];exact f,n,by rw[g.block l (aR.1 d).1];exact d,o,λt=>(r t).step (.push hr g x y hy)⟩
  rw[hx]at e;cases e
 map:=λi es a=>by
  rcases bh a with⟨c,a⟩|⟨_,e⟩
  ·have⟨b,K,s,f,n,d,o,r⟩:=hr.map i es a;exact⟨b,K,s,by rw[getElem?_push_lt σ y (by rw[hr.len];exact c)];exact f,n,by rw[g.block b (aR.1 d).1];exact d,o,λk e m he hm=>let q:=r k e m he hm;⟨q.1,q.2.1,q.2.2.step (.push hr g x y hy)⟩⟩
  rw[hx]at e;cases e
 uniq:=λi j b p q a E z A M N=>by
  rcases bh a with⟨O,a⟩|⟨rfl,_⟩<;>rcases bh E with⟨Q,E⟩|⟨rfl,_⟩
  ·rw[getElem?_push_lt σ y (by rw[hr.len];exact O)]at z;rw[getElem?_push_lt σ y (by rw[hr.len];exact Q)]at A;exact hr.uniq i j b p q a E z A M N
  ·rw[getElem?_push_lt σ y (by rw[hr.len];exact O)]at z;rw[<-hr.len,aw]at A;simp only[aA]at A;have:=hr.lt a M z;have:=hy b A;omega
  ·rw[getElem?_push_lt σ y (by rw[hr.len];exact Q)]at A;rw[<-hr.len,aw]at z;simp only[aA]at z;have:=hr.lt E N A;have:=hy b z;omega
  rfl
theorem yB(h:H) (i j:Nat):(ub h i)[j]? =
  (match h[j]? with|some (.cells cs .live)=>some (if j=i then .cells cs .frozen else .cells cs .live)|x=>x):=by
 unfold ub;by_cases b:j=i
 ·subst b;split
  ·rename_i cs a;have:j<h.length:=(aB.1 a).1;rw[aD this,a];simp
  rename_i c;cases f:h[j]? with
  |none=>rfl
  |some x=>cases x with
   |tok u g=>rfl
   |loop L st=>rfl
   |map k=>rfl
   |void=>rfl
   |cells cs st=>cases st<;>first|rfl|exact absurd f (c cs)
 have d:i≠j:=λe=>b e.symm
 split
 ·rw[aC d];split
  ·rename_i a;simp[a,b]
  rfl
 split
 ·rename_i a;simp[a,b]
 rfl
theorem mZ:∀(l:List Nat) (h:H) (j:Nat),(freeze h l)[j]?=(match h[j]? with|some (.cells cs .live)=>some (if j∈l then .cells cs .frozen else .cells cs .live)|x=>x):=by
 intro l;induction l with
 |nil=>intro h j;simp only[freeze];split<;>simp_all
 |cons i l b=>
  intro h j;simp only[freeze];rw[b,yB];by_cases a:j=i
  ·subst a;cases c:h[j]? with
   |none=>rfl
   |some x=>cases x with
    |tok u d=>rfl
    |loop L st=>rfl
    |map e=>rfl
    |void=>rfl
    |cells cs st=>cases st<;>simp
  cases c:h[j]? with
  |none=>rfl
  |some x=>cases x with
   |tok u d=>rfl
   |loop L st=>rfl
   |map e=>rfl
   |void=>rfl
   |cells cs st=>cases st<;>simp[a]
structure Stiller (h h':H):Prop where
 len:h'.length=h.length
 at_:∀j:Nat,h'[j]?=h[j]?\/∃cs,h[j]?=some (.cells cs .live)/\h'[j]?=some (.cells cs .frozen)
theorem oO:∀(l:List Nat) (h:H),(freeze h l).length=h.length:=by
 intro l;induction l with
 |nil=>intro h;rfl
 |cons i l a=>intro h;simp only[freeze];rw[a];unfold ub;split<;>simp
theorem iZ(h:H) (l:List Nat):Stiller h (freeze h l):=⟨oO l h,λj=>by
 rw[mZ];cases c:h[j]? with
 |none=>exact .inl rfl
 |some x=>cases x with
  |tok u d=>exact .inl rfl
  |loop L st=>exact .inl rfl
  |map e=>exact .inl rfl
  |void=>exact .inl rfl
  |cells b st=>
   cases st
   ·by_cases a:j∈l
    ·exact .inr ⟨b,rfl,by simp[a]⟩
    exact .inl (by simp[a])
   ·exact .inl rfl
   exact .inl rfl⟩
theorem da:∀(h:H),Stiller h (bo h):=by
 intro h;induction h with
 |nil=>exact⟨rfl,λj=>.inl rfl⟩
 |cons x h a=>
  cases x with
  |tok u c=>
   refine⟨by simp[bo,a.len],λj=>?_⟩;cases j with
   |zero=>exact .inl rfl
   |succ j=>simpa[bo]using a.at_ j
  |loop L st=>
   refine⟨by simp[bo,a.len],λj=>?_⟩;cases j with
   |zero=>exact .inl rfl
   |succ j=>simpa[bo]using a.at_ j
  |map d=>
   refine⟨by simp[bo,a.len],λj=>?_⟩;cases j with
   |zero=>exact .inl rfl
   |succ j=>simpa[bo]using a.at_ j
  |void=>
   refine⟨by simp[bo,a.len],λj=>?_⟩;cases j with
   |zero=>exact .inl rfl
   |succ j=>simpa[bo]using a.at_ j
  |cells b st=>
   cases st
   ·refine⟨by simp[bo,a.len],λj=>?_⟩;cases j with
    |zero=>exact .inr ⟨b,rfl,rfl⟩
    |succ j=>simpa[bo]using a.at_ j
   all_goals
    refine⟨by simp[bo,a.len],λj=>?_⟩;cases j with
    |zero=>exact .inl rfl
    |succ j=>simpa[bo]using a.at_ j
theorem Stiller.alw{h':H}(s:Stiller h h'){b o:Nat}(ha:Alw P B A0 σ h b o):Alw P B A0 σ h' b o:=by
 unfold Alw at *;split
 ·rename_i c;simpa[c]using ha
 rename_i c;rw[if_neg c]at ha;refine⟨λi f a=>?_,λi u g a=>?_⟩
 ·rcases s.at_ i with e|⟨d,_,e⟩
  ·exact ha.1 i f (e▸a)
  rw[e]at a;cases a
 rcases s.at_ i with e|⟨d,_,e⟩
 ·exact ha.2 i u g (e▸a)
 rw[e]at a;cases a
theorem Step.stiller [DFlag] (_:HRel P B A0 σ h w){h':H}(s:Stiller h h'):Step P B A0 σ h w σ h' w where
 below:=.refl _ _
 shapes:=.refl _
 kept:=λb o v f g=>⟨s.alw f,g⟩
 cells:=λi j st a=>⟨rfl,by
  rcases s.at_ i with e|⟨c,_,e⟩
  ·exact⟨j,st,e.trans a⟩
  exact⟨c,_,e⟩⟩
 toks:=λi u m a=>by
  refine⟨u,?_,aP _,λ_=>rfl⟩;rcases s.at_ i with e|⟨c,d,e⟩
  ·exact e.trans a
  rw[a]at d;cases d
 loops:=λi L st a=>by
  refine⟨rfl,st,?_⟩;rcases s.at_ i with e|⟨c,d,e⟩
  ·exact e.trans a
  rw[a]at d;cases d
 maps:=λi k a=>by
  refine⟨rfl,k,?_⟩;rcases s.at_ i with e|⟨c,d,e⟩
  ·exact e.trans a
  rw[a]at d;cases d
 marks:=λ_ l=>l
 drawn:=λ_=>aP _
theorem HRel.stiller(hr:HRel P B A0 σ h w){h':H}(s:Stiller h h'):HRel P B A0 σ h' w where
 base:=hr.base
 glob:=hr.glob
 tab:=hr.tab
 len:=hr.len.trans s.len.symm
 cells:=λi S st a F=>by
  have:∃d,h[i]?=some (.cells S d)/\d≠.dead:=by
   rcases s.at_ i with e|⟨f,G,e⟩
   ·exact⟨st,e▸a,F⟩
   rw[e]at a;simp only[aA,VObj.cells.injEq]at a;obtain⟨rfl,rfl⟩:=a;exact⟨_,G,s_⟩
  have⟨d,g,I⟩:=this;have⟨b,U,J,o,r,x,y,z,V⟩:=hr.cells i S d g I;exact⟨b,U,J,o,r,x,y,z,λk c v X Y=>(V k c v X Y).step (.stiller hr s)⟩
 tok:=λi u J a=>by
  rcases s.at_ i with e|⟨f,_,e⟩
  ·exact hr.tok i u J (e▸a)
  rw[e]at a;cases a
 loop:=λi L st a F=>by
  rcases s.at_ i with e|⟨f,_,e⟩
  ·have⟨l,Z,tm,D,o,r,x,y,z⟩:=hr.loop i L st (e▸a) F;exact⟨l,Z,tm,D,o,r,x,y,λt=>(z t).step (.stiller hr s)⟩
  rw[e]at a;cases a
 map:=λi es a=>by
  rcases s.at_ i with e|⟨f,_,e⟩
  ·have⟨b,K,n,o,r,x,y,z⟩:=hr.map i es (e▸a);exact⟨b,K,n,o,r,x,y,λk e m he hm=>let q:=z k e m he hm;⟨q.1,q.2.1,q.2.2.step (.stiller hr s)⟩⟩
  rw[e]at a;cases a
 uniq:=λi j b p q a hj si sj M dj=>by
  have A:∀(i:Nat) p,h'[i]?=some p->p.gone=false->∃E,h[i]?=some E/\E.gone=false:=λi p a M=>by
   rcases s.at_ i with e|⟨f,G,e⟩
   ·exact⟨p,e▸a,M⟩
   exact⟨_,G,rfl⟩
  have⟨E,g,N⟩:=A i p a M;have⟨q',O,Q⟩:=A j q hj dj;exact hr.uniq i j b E q' g O si sj N Q
theorem HRel.frozen_alw(hr:HRel P B A0 σ h w){id b:Nat}{cs:LA}(hi:h[id]?=some (.cells cs .frozen)) (hs:σ[id]?=some (some b)) (o:Nat):Alw P B A0 σ h b o:=by
 have⟨g,j,e,d,k,_⟩:=hr.cells id cs _ hi s_;rw[hs]at d;simp only[aA]at d;subst d;unfold Alw;rw[if_neg o_];refine⟨λi f a c=>?_,λi u e a c=>?_⟩
 ·have:=hr.uniq i id b _ _ a hi c hs rfl rfl;subst this;rw[hi]at a;cases a
 have:=hr.uniq i id b _ _ a hi c hs rfl rfl;subst this;rw[hi]at a;cases a
theorem K2(sz:Nat):∀(n:Nat) (cs:LA) (i:Nat),i<n->(io sz n cs)[i]?=some (match sz,cs.drop (i*sz)with|1,c::_=>c|_,r=>.agg (r.take sz)):=by
 intro n;induction n with
 |zero=>intro cs i a;omega
 |succ n b=>
  intro cs i a;cases i with
  |zero=>simp only[io,Nat.zero_mul,eH,dG,aA];split<;>(split<;>simp_all)
  |succ i=>simp only[io,fQ];rw[b _ i o_];simp only[List.drop_drop];rw[show sz+i*sz=(i+1)*sz by rw[gJ];omega]
theorem sR(sz:Nat):∀(n:Nat) (cs:LA),(io sz n cs).length=n:=by
 intro n;induction n with
 |zero=>intro cs;rfl
 |succ n a=>intro cs;simp[io,a]
theorem kq{sz n:Nat}{cs:LA}(hl:n*sz<=cs.length) (h0:0<sz) (h1:∀c∈cs,c.one=true){i:Nat}{e:AV}(he:(io sz n cs)[i]?=some e) :
  e.cells=(cs.drop (i*sz)).take sz/\e.cells.length=sz/\au e=true:=by
 have b:i<n:=by have:=(aB.1 he).1;rwa[sR]at this
 have f:i*sz+sz<=cs.length:=cJ (by rw[<-hG];exact cW _ b) hl;rw[K2 sz n cs i b]at he;simp only[aA]at he;split at he
 ·rename_i c r d;subst he;have g:c.one=true:=h1 c (dY (i:=i*1) (by rw[d];simp));have a:c.cells=[c]:=by cases c<;>simp_all [AV.cells,AV.one]
  refine⟨by rw[a,d];rfl,by rw[a];rfl,by cases c<;>simp_all [au,AV.one]⟩
 subst he;exact⟨rfl,by simp only[AV.cells,bU,ek];omega,rfl⟩
theorem uu{n:Nat}{a a':AV}(hh:eW h n a=some a') (hn:au a=true):au a'=true:=by
 cases n with
 |zero=>simp[eW]at hh
 |succ n=>
  cases a<;>simp only[eW]at hh<;>first|(cases hn;done)|(simp only[aA]at hh;subst hh;rfl)|skip
  all_goals
   repeat' split at hh
   all_goals first|(cases hh;done)|(simp only[aA]at hh;subst hh;rfl)
theorem Li{n:Nat}{a a':AV}(hh:eW h n a=some a') (hn:a.one=true):a'.one=true:=by
 cases n with
 |zero=>simp[eW]at hh
 |succ n=>
  cases a<;>simp only[eW]at hh<;>first|(cases hn;done)|(simp only[aA]at hh;subst hh;rfl)|skip
  all_goals
   repeat' split at hh
   all_goals first|(cases hh;done)|(simp only[aA]at hh;subst hh;rfl)
mutual
theorem iW(hr:HRel P B A0 σ h w):∀(n:Nat) (a a':AV) (v:Value),eW h n a=some a'->Rel P (Alw P B A0 σ h) σ h w a v->IRel (Alw P B A0 σ h) w a' v
 |0,a,a',v,hh,_=>by simp[eW]at hh
 |n+1,a,a',v,hh,r=>by
  simp only[eW]at hh;split at hh
  ·simp only[aA]at hh;subst hh;exact mu r
  ·rename_i id off;split at hh<;>try(cases hh;done)
   rename_i cs hid;split at hh<;>try(cases hh;done)
   rename_i l hl;simp only[aA]at hh;subst hh;obtain⟨b,rfl,g1,_⟩:=qQ r;have⟨b',g,S,F,k2,U,k4,V,X⟩:=hr.cells id cs _ hid s_;rw[g1]at F;simp only[aA]at F;subst F;have⟨E,s,G⟩:=jD hr n cs l hl;have:=IRel.iptr (A:=Alw P B A0 σ h) (w:=w) (e:=.agg l) (off:=off) (b:=b) (o:=0) (λj=>g.getD j undef) (λc f=>G c f V)
    (λj c f=>by have K:j<l.length:=(aB.1 f).1;refine⟨hr.frozen_alw hid g1 _,?_⟩;rw[bu,cell_of_row w b j g S _ U];simp[Array.getD,show j<g.size by omega])
    (λj c f=>by have K:j<l.length:=(aB.1 f).1;have Y:g[j]?=some (g[j]' o_):=aX _;have d:cs[j]?=some (cs[j]' o_):=aF _;have:=s j _ c _ d f (X j _ _ d Y);simpa[Array.getD,show j<g.size by omega]using this)
   simpa using this
  ·rename_i id off sz len cap;split at hh<;>try(cases hh;done)
   rename_i cs hid;split at hh<;>try(cases hh;done)
   rename_i l hl;split at hh<;>try(cases hh;done)
   rename_i hb;simp only[aA]at hh;subst hh;obtain⟨b,c,rfl,g1,g2,O,g4,g5,g6,g7⟩:=kR r;have⟨b',g,S,F,k2,U,k4,V,X⟩:=hr.cells id cs _ hid s_;rw[g1]at F;simp only[aA]at F;subst F;have⟨E,s,G⟩:=jD hr n cs l hl;have k:∀c∈l.drop off,c.one=true:=λc f=>G c (dY f) V
   have p:len*sz<=(l.drop off).length:=by simp;omega
   have I:(io sz len (l.drop off)).length=len:=sR _ _ _;have cell:∀(i j:Nat) e c,(io sz len (l.drop off))[i]?=some e->e.cells[j]?=some c->l[off+i*sz+j]?=some c/\i<len/\j<sz:=λi j e c y f=>by
    have⟨z,D,L⟩:=kq p O k y;have N:i<len:=by have:=(aB.1 y).1;rwa[I]at this
    have K:j<sz:=by have:=(aB.1 f).1;rwa[D]at this
    rw[z,jv,if_pos K,cd]at f;exact⟨by rw[gO];exact f,N,K⟩
   have:=IRel.isl (A:=Alw P B A0 σ h) (w:=w) (es:=io sz len (l.drop off)) (sz:=sz) (b:=b) (o:=off) (cap:=c) (λi j=>g.getD (off+i*sz+j) undef) O (by rw[I];exact g4) g5
    (λe y=>by obtain⟨i,N,rfl⟩:=bt y;exact(kq p O k (aF N)).2)
    (λe y M m=>by obtain⟨i,N,rfl⟩:=bt y;rw[(kq p O k (aF N)).1]at m;exact k M (dY (dF m)))
    (λi j e M y m=>by have⟨z,D,L⟩:=cell i j e M y m;have K:off+i*sz+j<l.length:=(aB.1 z).1;refine⟨hr.frozen_alw hid g1 _,?_⟩;rw[cell_of_row w b _ g S _ U];simp[Array.getD,show off+i*sz+j<g.size by omega])
    (λi j e M y m=>by have⟨z,D,L⟩:=cell i j e M y m;have K:off+i*sz+j<l.length:=(aB.1 z).1;have Y:g[off+i*sz+j]?=some (g[off+i*sz+j]' o_):=aX _;have d:cs[off+i*sz+j]?=some (cs[off+i*sz+j]' o_):=aF _;have:=s _ _ M _ d z (X _ _ _ d Y);simpa[Array.getD,show off+i*sz+j<g.size by omega]using this)
   rw[I]at this;exact this
  ·split at hh<;>try(cases hh;done)
   rename_i l hl;simp only[aA]at hh;subst hh;have⟨E,s,G⟩:=jD hr n _ l hl;cases r with
   |data r=>
    cases r with
    |func z D=>exact .func o_ (λi c u f J=>by have d:=aF (l:=_) (i:=i) (show i<_ by have:=(aB.1 f).1;rw[E]at this;exact this);exact s i _ c u d f (.data (D i _ u d J)))
   |func z D=>exact .func o_ (λi c u f J=>by have d:=aF (l:=_) (i:=i) (show i<_ by have:=(aB.1 f).1;rw[E]at this;exact this);exact s i _ c u d f (D i _ u d J))
  ·split at hh<;>try(cases hh;done)
   rename_i t u x Q;simp only[aA]at hh;subst hh;cases r with
   |data r=>cases r with
    |iface Z q=>exact .iface (uu Q Z) (iW hr n _ _ _ Q (.data q))
   |iface Z q=>exact .iface (uu Q Z) (iW hr n _ _ _ Q q)
  ·split at hh<;>try(cases hh;done)
   rename_i l hl;simp only[aA]at hh;subst hh;have⟨E,s,G⟩:=jD hr n _ l hl;obtain⟨g,rfl,z,D,L⟩:=uQ r;exact .agg (λc f=>G c f D) o_ (λi c u f J=>by have d:=aF (l:=_) (i:=i) (show i<_ by have:=(aB.1 f).1;rw[E]at this;exact this);exact s i _ c u d f (L i _ u d J))
  ·split at hh<;>try(cases hh;done)
   rename_i l hl;simp only[aA]at hh;subst hh;have⟨E,s,G⟩:=jD hr n _ l hl;obtain⟨g,rfl,z,L⟩:=uP r;exact .tuple o_ (λi c u f J=>by have d:=aF (l:=_) (i:=i) (show i<_ by have:=(aB.1 f).1;rw[E]at this;exact this);exact s i _ c u d f (L i _ u d J))
  ·cases hh
  ·cases hh
  simp only[aA]at hh;subst hh;cases r with
  |data r=>exact r
  |msl=>exact(‹∀(id off sz len:Nat) (cap:Option Nat),AV.msl _ _ _ _ _=AV.msl id off sz len cap->False› _ _ _ _ _ rfl).elim
  |_=>simp_all
theorem jD(hr:HRel P B A0 σ h w):∀(n:Nat) (l l':LA),fJ h n l=some l'->l'.length=l.length /\
  (∀(i:Nat) a a' v,l[i]?=some a->l'[i]?=some a'->Rel P (Alw P B A0 σ h) σ h w a v->IRel (Alw P B A0 σ h) w a' v)/\(∀c∈l',(∀c∈l,c.one=true)->c.one=true)
 |0,l,l',hh=>by simp[fJ]at hh
 |n+1,[],l',hh=>by simp only[fJ,aA]at hh;subst hh;simp
 |n+1,a::l,l',hh=>by
  simp only[fJ]at hh;split at hh<;>try(cases hh;done)
  rename_i a' l2 h1 h2;simp only[aA]at hh;subst hh;have⟨m1,m2,m3⟩:=jD hr n l l2 h2;refine⟨by simp[m1],λi c f v b d r=>?_,λc b e=>?_⟩
  ·cases i with
   |zero=>simp at b d;subst b d;exact iW hr n _ _ _ h1 r
   |succ i=>simp at b d;exact m2 i _ _ _ b d r
  simp only[aV]at b;rcases b with rfl|b
  ·exact Li h1 (e a s_)
  exact m3 c b (λc b=>e c (by simp[b]))
end
end
end Go.V
