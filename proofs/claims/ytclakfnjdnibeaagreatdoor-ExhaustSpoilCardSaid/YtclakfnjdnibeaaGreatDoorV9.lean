/- A part of the proof. -/
import Derived.Test.YtclakfnjdnibeaaGreatDoorV8
namespace Go.V
open Go
section
variable {P:Program}{B:Nat}{A0:Nat->Nat->Prop}{σ:List (Option Nat)}{h:H}{w:World}
theorem qv{A:Nat->Nat->Prop}{c:AV}{x:Value}(r:IRel A w c x) (h1:c.one=true):x.oneCell'=true:=by cases r<;>first|rfl|(simp[AV.one]at h1;done)
theorem zF{A:Nat->Nat->Prop}{c:AV}{x:Value}(r:Rel P A σ h w c x) (h1:c.one=true):x.oneCell'=true:=by
 cases r with
 |data r=>exact qv r h1
 |tok a _=>exact qv a rfl
 |_=>first|rfl|(simp[AV.one]at h1;done)
theorem qN{b:Nat}{vs vs':Array Value}{ty:TypeId}{fr:Nat × Nat}(hb:w.heap[b]?=some (.cells vs ty fr)) (hs:vs'.size=vs.size):Shapes w (w.setRow b vs'):=by
 intro k c t f a;by_cases e:k=b
 ·subst e;rw[hb]at a;simp only[aA,Obj.cells.injEq]at a;obtain⟨rfl,rfl,rfl⟩:=a;exact⟨vs',_,setRow_heap w k vs vs' _ _ hb,hs⟩
 exact⟨c,f,by rw[setRow_other w b k vs' e];exact a,rfl⟩
theorem rJ{b:Nat}{vs':Array Value}(hB:B<=b):RowKit.Below B w (w.setRow b vs'):=
 ⟨rfl,rfl,rfl,s_,λk a=>setRow_other w b k vs' o_⟩
theorem sv{b k o:Nat}{vs':Array Value}(e:k≠b):(w.setRow b vs').cell? ⟨k,o,none⟩=w.cell? ⟨k,o,none⟩:=
 World.cell?_of_block (w:=w) (setRow_other w b k vs' e)
theorem aa{α:Type}{l:List α}{x y:α}{i j:Nat}(hj:(l.set i x)[j]?=some y):(j=i/\y=x/\i<l.length)\/(j≠i/\l[j]?=some y):=by
 by_cases e:j=i
 ·subst e;have a:j<(l.set j x).length:=(aB.1 hj).1;simp only[ld]at a;rw[aH a]at hj;simp only[aA]at hj;exact .inl ⟨rfl,hj.symm,a⟩
 rw[aE (λk=>e k.symm)]at hj;exact .inr ⟨e,hj⟩
theorem rh{cs:LA}{st:OSt}(hd:st≠.dead):(VObj.cells cs st).gone=false:=by cases st<;>first|rfl|exact absurd rfl hd
theorem uT{L:LoopV}{st:LSt}(hd:st≠.over):(VObj.loop L st).gone=false:=by cases st<;>first|rfl|exact absurd rfl hd
theorem ib{b k:Nat}{vs vs':Array Value}{ty:TypeId}{o:Obj}(hb:w.heap[b]?=some (.cells vs ty (0,0))) (hk:w.heap[k]?=some o) (ho:∀vs ty fr,o≠.cells vs ty fr):(w.setRow b vs').heap[k]?=some o:=by rw[setRow_other w b k vs' (λe=>by subst e;rw[hb]at hk;exact ho _ _ _ (Option.some.inj hk).symm)];exact hk
theorem Step.write [DFlag] (hr:HRel P B A0 σ h w){id b:Nat}{cs cs':LA}{vs vs':Array Value}{ty:TypeId}(hid:h[id]?=some (.cells cs .live)) (hs:σ[id]?=some (some b))
  (hb:w.heap[b]?=some (.cells vs ty (0,0))) (hsz:vs'.size=vs.size):Step P B A0 σ h w σ (h.set id (.cells cs' .live)) (w.setRow b vs'):=by
 have l:=hr.lt hid rfl hs;refine⟨rJ l.2,qN hb hsz,λk o x c m=>?_,λi cs d a=>⟨rfl,?_⟩,λi u ty a=>⟨u,?_,aR _,λ_=>rfl⟩,
  λi L d a=>⟨rfl,d,by rw[aE (λk=>by subst k;rw[hid]at a;cases a)];exact a⟩,λi n a=>⟨rfl,n,by rw[aE (λk=>by subst k;rw[hid]at a;cases a)];exact a⟩,λk p=>ib hb p s_,λ_=>aR _⟩
 ·have f:k≠b:=by intro e;subst e;unfold Alw at c;rw[if_neg o_]at c;exact c.1 id cs hid hs
  refine⟨?_,by rw[sv f];exact m⟩;unfold Alw at *;split
  ·rename_i g;simpa[g]using c
  rename_i g;rw[if_neg g]at c;refine⟨λi j a=>?_,λi u t a=>?_⟩
  ·rcases aa a with⟨rfl,_,_⟩|⟨_,a⟩
   ·exact c.1 i cs hid
   exact c.1 i j a
  rcases aa a with⟨_,e,_⟩|⟨_,a⟩
  ·cases e
  exact c.2 i u t a
 ·by_cases e:i=id
  ·subst e;exact⟨cs',.live,aH (aB.1 hid).1⟩
  exact⟨cs,d,by rw[aE (λk=>e k.symm)];exact a⟩
 by_cases e:i=id
 ·subst e;rw[hid]at a;cases a
 rw[aE (λk=>e k.symm)];exact a
theorem HRel.write(hr:HRel P B A0 σ h w){id b:Nat}{cs cs':LA}{vs vs':Array Value}{ty:TypeId}(hid:h[id]?=some (.cells cs .live)) (hs:σ[id]?=some (some b))
  (hb:w.heap[b]?=some (.cells vs ty (0,0))) (hsz:vs'.size=vs.size) (hl':cs'.length<=vs.size) (h1:∀c∈cs',c.one=true)
  (hrel:∀(k:Nat) c v,cs'[k]?=some c->vs'[k]?=some v->Rel P (Alw P B A0 σ h) σ h w c v):HRel P B A0 σ (h.set id (.cells cs' .live)) (w.setRow b vs'):=by
 have d:=Step.write (cs':=cs') hr hid hs hb hsz;have G:=hr.lt hid rfl hs;refine⟨by simpa using hr.base,by simpa using hr.len,λi Y I a E=>?_,λi u t a=>?_,λi L I a E=>?_,λi Z a=>?map,λi j k p q a hj si sj J dj=>?_,hr.globBelow d.below,hr.tabBelow d.below⟩
 case map=>
  rcases aa a with⟨_,e,_⟩|⟨f,a⟩
  ·cases e
  have⟨g,K,o,n,r,s,x,z⟩:=hr.map i Z a;exact⟨g,K,o,n,r,ib hb s s_,x,λk e m he hm=>let q:=z k e m he hm;⟨q.1,q.2.1,q.2.2.step d⟩⟩
 rotate_left 2
 ·rcases aa a with⟨_,e,_⟩|⟨f,a⟩
  ·cases e
  have⟨l,fn,tm,D,n,r,s,x,z⟩:=hr.loop i L I a E;exact⟨l,fn,tm,D,n,r,ib hb s s_,x,λt=>(z t).step d⟩
 rotate_left 1
 ·rcases aa a with⟨rfl,e,_⟩|⟨f,a⟩
  ·simp only[VObj.cells.injEq]at e;obtain⟨rfl,rfl⟩:=e;exact⟨b,vs',ty,hs,G.2,setRow_heap w b vs vs' _ _ hb,o_,h1,λk c v M N=>(hrel k c v M N).step d⟩
  have⟨g,O,t2,n,r,s,x,z,k6⟩:=hr.cells i Y I a E;have y:g≠b:=λe=>f (hr.uniq i id b _ _ a hid (by rw[n,e]) hs (rh E) rfl)
  exact⟨g,O,t2,n,r,by rw[setRow_other w b g vs' y];exact s,x,z,λk c v M N=>(k6 k c v M N).step d⟩
 ·rcases aa a with⟨_,e,_⟩|⟨f,a⟩
  ·cases e
  rcases hr.tok i u t a with k|⟨g,O,sz,Q,n,r,s,x⟩
  ·exact .inl k
  have y:g≠b:=λe=>f (hr.uniq i id b _ _ a hid (by rw[n,e]) hs rfl rfl)
  exact .inr ⟨g,O,sz,Q,n,r,by rw[setRow_other w b g vs' y];exact s,x⟩
 have A:∀(i:Nat) p,(h.set id (.cells cs' .live))[i]?=some p->p.gone=false->∃F,h[i]?=some F/\F.gone=false:=λi p a J=>by
  rcases aa a with⟨rfl,e,_⟩|⟨f,a⟩
  ·exact⟨_,hid,rfl⟩
  exact⟨p,a,J⟩
 have⟨F,S,U⟩:=A i p a J;have⟨q',V,X⟩:=A j q hj dj;exact hr.uniq i j k F q' S V si sj U X
theorem Step.tokWrite [DFlag] (hr:HRel P B A0 σ h w){t b u u' sz:Nat}{vs vs':Array Value}{ty:TypeId}(ht:h[t]?=some (.tok u ty)) (hs:σ[t]?=some (some b))
  (hb:w.heap[b]?=some (.cells vs ty (0,0))) (hsize:cr P ty=some sz) (hsz:vs'.size=vs.size) (hu:u<=u') (hkeep:∀o,o<u*sz->vs'[o]?=vs[o]?) :
  Step P B A0 σ h w σ (h.set t (.tok u' ty)) (w.setRow b vs'):=by
 have s:=hr.lt ht rfl hs;refine⟨rJ s.2,qN hb hsz,λk o x c q=>?_,λi v g a=>⟨rfl,?_⟩,λi j y a=>?_,
  λi L g a=>⟨rfl,g,by rw[aE (λk=>by subst k;rw[ht]at a;cases a)];exact a⟩,λi z a=>⟨rfl,z,by rw[aE (λk=>by subst k;rw[ht]at a;cases a)];exact a⟩,λk A=>ib hb A s_,λ_=>aR _⟩
 ·refine⟨?_,?_⟩
  ·unfold Alw at *;split
   ·rename_i l;simpa[l]using c
   rename_i l;rw[if_neg l]at c;refine⟨λi m a=>?_,λi j D a d=>?_⟩
   ·rcases aa a with⟨_,e,_⟩|⟨_,a⟩
    ·cases e
    exact c.1 i m a
   rcases aa a with⟨rfl,e,_⟩|⟨_,a⟩
   ·simp only[VObj.tok.injEq]at e;obtain⟨rfl,rfl⟩:=e;have⟨r,f,n⟩:=c.2 i u _ ht d;exact⟨r,f,eG n (cQ _ hu)⟩
   exact c.2 i j D a d
  by_cases e:k=b
  ·subst e;unfold Alw at c;rw[if_neg o_]at c;have⟨r,f,n⟩:=c.2 t u ty ht hs;rw[hsize]at f;simp only[aA]at f;subst f;rw[cell_of_row _ k o vs' ty _ (setRow_heap w k vs vs' _ _ hb),hkeep o n,<-cell_of_row w k o vs ty _ hb];exact q
  rw[sv e];exact q
 ·have p:i≠t:=λe=>by subst e;rw[ht]at a;cases a
  exact⟨v,g,by rw[aE (λk=>p k.symm)];exact a⟩
 by_cases e:i=t
 ·subst e;rw[ht]at a;simp only[aA,VObj.tok.injEq]at a;obtain⟨rfl,rfl⟩:=a;exact⟨u',aH (aB.1 ht).1,hu,λ_=>rfl⟩
 exact⟨j,by rw[aE (λk=>e k.symm)];exact a,aR _,λ_=>rfl⟩
theorem HRel.tokWrite(hr:HRel P B A0 σ h w){t b u u' sz cap:Nat}{vs vs':Array Value}{ty:TypeId}(ht:h[t]?=some (.tok u ty)) (hs:σ[t]?=some (some b))
  (hb:w.heap[b]?=some (.cells vs ty (0,0))) (hsize:cr P ty=some sz) (hsz:vs'.size=vs.size) (hu:u<=u') (hkeep:∀o,o<u*sz->vs'[o]?=vs[o]?)
  (hcap:vs.size=cap*sz) (hc:u'<=cap) (hm:cap<=maxLen):HRel P B A0 σ (h.set t (.tok u' ty)) (w.setRow b vs'):=by
 have f:=Step.tokWrite (u':=u') hr ht hs hb hsize hsz hu hkeep;have I:=hr.lt ht rfl hs;refine⟨by simpa using hr.base,by simpa using hr.len,λi X J a F=>?_,λi Y K a=>?_,λi L J a F=>?_,λi Z a=>?map,λi j k p q a hj si sj M dj=>?_,hr.globBelow f.below,hr.tabBelow f.below⟩
 case map=>
  rcases aa a with⟨_,e,_⟩|⟨d,a⟩
  ·cases e
  have⟨g,N,r,n,s,x,y,A⟩:=hr.map i Z a;exact⟨g,N,r,n,s,ib hb x s_,y,λk e m he hm=>let q:=A k e m he hm;⟨q.1,q.2.1,q.2.2.step f⟩⟩
 rotate_left 2
 ·rcases aa a with⟨_,e,_⟩|⟨d,a⟩
  ·cases e
  have⟨l,fn,tm,D,n,s,x,y,A⟩:=hr.loop i L J a F;exact⟨l,fn,tm,D,n,s,ib hb x s_,y,λt=>(A t).step f⟩
 rotate_left 1
 ·rcases aa a with⟨rfl,e,_⟩|⟨d,a⟩
  ·cases e
  have⟨g,O,K,n,s,x,y,A,k6⟩:=hr.cells i X J a F;have z:g≠b:=λe=>d (hr.uniq i t b _ _ a ht (by rw[n,e]) hs (rh F) rfl)
  exact⟨g,O,K,n,s,by rw[setRow_other w b g vs' z];exact x,y,A,λk c v hc hv=>(k6 k c v hc hv).step f⟩
 ·rcases aa a with⟨rfl,e,_⟩|⟨d,a⟩
  ·simp only[VObj.tok.injEq]at e;obtain⟨rfl,rfl⟩:=e;exact .inr ⟨b,vs',sz,cap,hs,I.2,setRow_heap w b vs vs' _ _ hb,hsize,o_,hc,hm⟩
  rcases hr.tok i Y K a with k|⟨g,O,sz,cap,n,s,x,y⟩
  ·exact .inl k
  have z:g≠b:=λe=>d (hr.uniq i t b _ _ a ht (by rw[n,e]) hs rfl rfl)
  exact .inr ⟨g,O,sz,cap,n,s,by rw[setRow_other w b g vs' z];exact x,y⟩
 have E:∀(i:Nat) p,(h.set t (.tok u' ty))[i]?=some p->p.gone=false->∃G,h[i]?=some G/\G.gone=false:=λi p a M=>by
  rcases aa a with⟨rfl,e,_⟩|⟨d,a⟩
  ·exact⟨_,ht,rfl⟩
  exact⟨p,a,M⟩
 have⟨G,Q,S⟩:=E i p a M;have⟨q',U,V⟩:=E j q hj dj;exact hr.uniq i j k G q' Q U si sj S V
theorem Step.tokMove [DFlag] (hr:HRel P B A0 σ h w){w':World}(g:Grows w w'){t b u u':Nat}{ty:TypeId}(ht:h[t]?=some (.tok u ty)) (hb:w.heap.size<=b) (hu:u<u') :
  Step P B A0 σ h w (σ.set t (some b)) (h.set t (.tok u' ty)) w':=by
 have l:t<σ.length:=by rw[hr.len];exact(aB.1 ht).1
 refine⟨g.below hr.base,g.shapes,λk o x f r=>⟨?_,g.cell r⟩,λi s m a=>?_,λi n v a=>?_,
  λi L m a=>⟨aE (λk=>by subst k;rw[ht]at a;cases a),m,by rw[aE (λk=>by subst k;rw[ht]at a;cases a)];exact a⟩,
  λi y a=>⟨aE (λk=>by subst k;rw[ht]at a;cases a),y,by rw[aE (λk=>by subst k;rw[ht]at a;cases a)];exact a⟩,
  λk j=>by rw[g.block k (aO.1 j).1];exact j,g.drawn⟩
 ·have j:=World.block_lt_of_cell? w _ r;unfold Alw at *;split
  ·rename_i p;simpa[p]using f
  rename_i p;rw[if_neg p]at f;refine⟨λi q a=>?_,λi n z a d=>?_⟩
  ·rcases aa a with⟨_,e,_⟩|⟨c,a⟩
   ·cases e
   rw[aE (λk=>c k.symm)];exact f.1 i q a
  rcases aa a with⟨rfl,e,_⟩|⟨c,a⟩
  ·rw[aH l]at d;simp only[aA]at d;dsimp at j;omega
  rw[aE (λk=>c k.symm)]at d;exact f.2 i n z a d
 ·have c:i≠t:=λe=>by subst e;rw[ht]at a;cases a
  exact⟨aE (λk=>c k.symm),s,m,by rw[aE (λk=>c k.symm)];exact a⟩
 by_cases e:i=t
 ·subst e;rw[ht]at a;simp only[aA,VObj.tok.injEq]at a;obtain⟨rfl,rfl⟩:=a;exact⟨u',aH (aB.1 ht).1,jw hu,λe=>o_⟩
 exact⟨n,by rw[aE (λk=>e k.symm)];exact a,aR _,λ_=>aE (λk=>e k.symm)⟩
theorem HRel.tokMove [DFlag] (hr:HRel P B A0 σ h w){w':World}(g:Grows w w'){t b u u' sz cap:Nat}{vs:Array Value}{ty:TypeId}(ht:h[t]?=some (.tok u ty)) (hb:w.heap.size<=b) (hu:u<u')
  (hbl:w'.heap[b]?=some (.cells vs ty (0,0))) (hsize:cr P ty=some sz) (hcap:vs.size=cap*sz) (hc:u'<=cap) (hm:cap<=maxLen) :
  HRel P B A0 (σ.set t (some b)) (h.set t (.tok u' ty)) w':=by
 have f:=Step.tokMove (u':=u') hr g ht hb hu;have r:t<σ.length:=by rw[hr.len];exact(aB.1 ht).1
 refine⟨cW hr.base g.size,by simpa using hr.len,λi X J a K=>?_,λi Y M a=>?_,λi L J a K=>?_,λi Z a=>?map,λi j k p q a hj A E Q S=>?_,hr.globBelow f.below,hr.tabBelow f.below⟩
 case map=>
  rcases aa a with⟨_,e,_⟩|⟨d,a⟩
  ·cases e
  have⟨o,N,s,x,y,n,z,F⟩:=hr.map i Z a;exact⟨o,N,s,by rw[aE (λk=>d k.symm)];exact x,y,by rw[g.block o (aO.1 n).1];exact n,z,λk e m he hm=>let q:=F k e m he hm;⟨q.1,q.2.1,q.2.2.step f⟩⟩
 rotate_left 2
 ·rcases aa a with⟨_,e,_⟩|⟨d,a⟩
  ·cases e
  have⟨l,fn,tm,D,x,y,n,z,F⟩:=hr.loop i L J a K;exact⟨l,fn,tm,D,by rw[aE (λk=>d k.symm)];exact x,y,by rw[g.block l (aO.1 n).1];exact n,z,λt=>(F t).step f⟩
 rotate_left 1
 ·rcases aa a with⟨rfl,e,_⟩|⟨d,a⟩
  ·cases e
  have⟨o,O,M,x,y,n,z,F,k6⟩:=hr.cells i X J a K;exact⟨o,O,M,by rw[aE (λk=>d k.symm)];exact x,y,by rw[g.block o (aO.1 n).1];exact n,z,F,λk c v hc hv=>(k6 k c v hc hv).step f⟩
 ·rcases aa a with⟨rfl,e,_⟩|⟨d,a⟩
  ·simp only[VObj.tok.injEq]at e;obtain⟨rfl,rfl⟩:=e;exact .inr ⟨b,vs,sz,cap,aH r,cW hr.base hb,hbl,hsize,hcap,hc,hm⟩
  rw[aE (λk=>d k.symm)];rcases hr.tok i Y M a with k|⟨o,O,sz,cap,x,y,n,z⟩
  ·exact .inl k
  exact .inr ⟨o,O,sz,cap,x,y,by rw[g.block o (aO.1 n).1];exact n,z⟩
 rcases aa a with⟨rfl,ei,_⟩|⟨U,G⟩<;>rcases aa hj with⟨rfl,ej,_⟩|⟨V,I⟩
 ·rfl
 ·rw[aH r]at A;rw[aE (λk=>V k.symm)]at E;simp only[aA]at A;have:=hr.lt I S E;omega
 ·rw[aH r]at E;rw[aE (λk=>U k.symm)]at A;simp only[aA]at E;have:=hr.lt G Q A;omega
 rw[aE (λk=>U k.symm)]at A;rw[aE (λk=>V k.symm)]at E;exact hr.uniq i j k p q G I A E Q S
def Flat(A:Nat->Nat->Prop) (w:World) (sz:Nat) (es:LA) (fl:List Value):Prop:=
 fl.length=es.length*sz/\(∀e∈es,e.cells.length=sz/\bf e=true)/\(∀e∈es,∀c∈e.cells,c.one=true) /\
 ∀(i j:Nat) e c,es[i]?=some e->e.cells[j]?=some c->∃x,fl[i*sz+j]?=some x/\IRel A w c x
theorem Flat.one{A:Nat->Nat->Prop}{sz:Nat}{es:LA}{fl:List Value}(h0:0<sz) (f:Flat A w sz es fl):∀x∈fl,x.oneCell'=true:=by
 intro x d;obtain⟨k,e,rfl⟩:=bg d;have⟨o,g,h,i⟩:=f;have a:k/sz<es.length:=Nat.div_lt_of_lt_mul (by rw[lD];omega);have j:es[k/sz]?=some es[k/sz]:=aC a;have l:=g es[k/sz] (aF a);have c:k%sz<es[k/sz].cells.length:=by rw[l.1];exact gq _ h0
 have m:es[k/sz].cells[k%sz]?=some es[k/sz].cells[k%sz]:=aC c;have⟨x,b,n⟩:=i _ _ _ _ j m;have:k/sz*sz+k%sz=k:=by rw[lD];exact Nat.div_add_mod k sz
 rw[this,aC e]at b;simp only[aA]at b;rw[b];exact qv n (h _ (aF a) _ (aF c))
theorem Flat.mono{A A':Nat->Nat->Prop}{w':World}{sz:Nat}{es:LA}{fl:List Value}(f:Flat A w sz es fl)
  (hA:∀b o x,A b o->w.cell? ⟨b,o,none⟩=some x->A' b o/\w'.cell? ⟨b,o,none⟩=some x):Flat A' w' sz es fl:=
 ⟨f.1,f.2.1,f.2.2.1,λi j e c a d=>let ⟨x,h1,h2⟩:=f.2.2.2 i j e c a d;⟨x,h1,h2.mono hA⟩⟩
theorem Flat.append{A:Nat->Nat->Prop}{sz:Nat}{xs ys:LA}{fx fy:List Value}(a:Flat A w sz xs fx) (b:Flat A w sz ys fy):Flat A w sz (xs++ys) (fx++fy):=by
 have⟨h,l,a3,a4⟩:=a;have⟨m,n,b3,b4⟩:=b;refine⟨by simp[h,m,fD],λe d=>?_,λe d=>?_,λi j e c d k=>?_⟩
 ·rcases ac.1 d with d|d
  ·exact l e d
  exact n e d
 ·rcases ac.1 d with d|d
  ·exact a3 e d
  exact b3 e d
 by_cases o:i<xs.length
 ·rw[aP o]at d;have⟨x,f,g⟩:=a4 i j e c d k;exact⟨x,by rw[aP (aB.1 f).1];exact f,g⟩
 rw[aj o_]at d;have⟨x,f,g⟩:=b4 (i-xs.length) j e c d k;refine⟨x,?_,g⟩;have p:xs.length*sz<=i*sz:=cQ _ o_;rw[aj o_,h,show i*sz+j-xs.length*sz=(i-xs.length)*sz+j by rw[Nat.sub_mul];omega];exact f
theorem wQ{A:Nat->Nat->Prop}{es:LA}{v:Value}{sz:Nat}(r:IRel A w (.isl es .unk) v) (hz:gn sz es=true) (h0:0<sz):∃fl,Flat A w sz es fl /\
  ((es=[]/\v=.slice none 0 0)\/∃a cap,v=.slice (some a) es.length cap/\es.length<=cap/\cap<=maxLen/\∀(j:Nat) x,fl[j]?=some x->w.cell? (a.add j)=some x):=by
 rcases nw r with⟨rfl,l,cap,rfl,q,B⟩|⟨d,b,o,cap,f,rfl,D,E,F,m,G,I,J⟩
 ·refine⟨[],⟨s_,s_,s_,s_⟩,?_⟩;cases l with
  |none=>have:=B rfl;subst this;exact .inl ⟨rfl,rfl⟩
  |some a=>exact .inr ⟨a,cap,rfl,aN _,q,s_⟩
 have s:es≠[]->d=sz:=λg=>by
  cases es with
  |nil=>exact absurd rfl g
  |cons e es=>simp only[gn,beq_iff_eq]at hz;rw[<-hz];exact(m e s_).1.symm
 refine⟨(List.range (es.length*sz)).map (λk=>f (k/sz) (k%sz)),⟨s_,λe h=>?_,G,λi j e c h y=>?_⟩,.inr ⟨_,cap,rfl,E,F,λk x n=>?_⟩⟩
 ·have:=s (List.ne_nil_of_mem h);subst this;exact m e h
 ·have g:=s (List.ne_nil_of_mem (ai h));subst g;have K:i<es.length:=(aB.1 h).1;have p:j<d:=by rw[<-(m e (ai h)).1];exact(aB.1 y).1
  have t:i*d+j<es.length*d:=eG (by rw[gW];omega) (cQ d (show i+1<=es.length from K));refine⟨f i j,?_,J i j e c h y⟩;rw[ba,eO t,bq];rw[lD i d,Nat.mul_add_div D,Nat.div_eq_of_lt p,Nat.mul_add_mod,Nat.mod_eq_of_lt p];simp
 have u:k<es.length*sz:=by have:=(aB.1 n).1;simpa using this
 have g:es≠[]:=λe=>by subst e;simp at u
 have g:=s g;subst g;rw[ba,eO u,bq]at n;simp only[aA]at n;have z:k/d<es.length:=Nat.div_lt_of_lt_mul (by rw[lD];exact u);have h:es[k/d]?=some es[k/d]:=aC z;have q:=m es[k/d] (aF z);have p:k%d<es[k/d].cells.length:=by rw[q.1];exact gq _ h0
 have:=(I _ _ _ _ h (aC p)).2;rw[fe,show k/d*d+k%d=k by rw[lD];exact Nat.div_add_mod k d]at this;rw[fV,this,n]
theorem Cw{A:Nat->Nat->Prop}{es:LA}{sz b o cap:Nat}{fl:List Value}(f:Flat A w sz es fl) (h0:0<sz) (hc:es.length<=cap) (hm:cap<=maxLen)
  (hcell:∀(k:Nat) x,fl[k]?=some x->A b (o+k)/\w.cell? ⟨b,o+k,none⟩=some x):IRel A w (.isl es .unk) (.slice (some ⟨b,o,none⟩) es.length cap):=by
 have⟨n,l,m,g⟩:=f;refine .isl (λi j=>fl.getD (i*sz+j) undef) h0 hc hm l m (λi j e c d hc=>?_) (λi j e c d hc=>?_)
 ·have⟨x,a,h⟩:=g i j e c d hc;rw[fe,bK,a];exact hcell _ _ a
 have⟨x,a,h⟩:=g i j e c d hc;rw[bK,a];exact h
end
end Go.V
