/- A part of the proof. -/
import Derived.Test.YtclakfnjdnibeaaGreatDoorV29
namespace Go.V
open Go
def Ex.toExit:Ex->Exit
 |.normal=>.normal
 |.exit id=>.exit id
 |.ret=>.ret
def LoopWp(F:Fence) (nd:Nat) (P:Program) (c:Code) (Q:Exit->Act->World->Prop) (a:Act) (w:World):Prop:=
 ∀(b:Frame) (k:List Item) (cs:List Frame),b.roundOf=F.round->F.fn b.fn->F.room (cs.length+1+nd) ->
  ∃e a' w',Q e a' w'/\ArrivesIn (Machine.fenced P F) P (lone (b.atR a (.inLoop c::k)) cs w) b k cs e a' w'
section
variable {P:Program}{F:Fence}{nd:Nat}{w:World}
theorem AO{c:Code}{Q:Exit->Act->World->Prop}{a:Act}{w:World}(h:c.wpIn F nd P (Exit.then (LoopWp F nd P c Q) Q) a w) (b:Frame) (k:List Item) (cs:List Frame)
  (hro:b.roundOf=F.round) (hb:F.fn b.fn) (hr:F.room (cs.length+1+nd)) :
  ∃e a' w',Q e a' w'/\ArrivesIn (Machine.fenced P F) P (lone (b.atR a (.code c::.inLoop c::k)) cs w) b k cs e a' w':=by
 have⟨e,i,j,g,d⟩:=h b (.inLoop c::k) cs hro hb hr;cases e with
 |normal=>have⟨n,o,p,m,f⟩:=g b k cs hro hb hr;exact⟨n,o,p,m,.of_steps d f⟩
 |exit id=>exact⟨_,i,j,g,.pass (x:=.inLoop c) rfl (λ_ _=>.inl s_) d⟩
 |goto l=>exact⟨_,i,j,g,.pass (x:=.inLoop c) rfl (λ_ _=>.inl s_) d⟩
 |ret=>exact⟨_,i,j,g,.pass (x:=.inLoop c) rfl (λ_ _=>.inl s_) d⟩
 |panic q=>exact⟨_,i,j,g,.pass (x:=.inLoop c) rfl (λ_ _=>.inl s_) d⟩
 |outgrown=>exact⟨_,i,j,g,.pass (x:=.inLoop c) rfl (λ_ _=>.inl s_) d⟩
theorem LoopWp.of{c:Code}{Q:Exit->Act->World->Prop}{a:Act}{w:World}(h:c.wpIn F nd P (Exit.then (LoopWp F nd P c Q) Q) a w):LoopWp F nd P c Q a w:=λb k j f g i=>by have⟨e,l,m,n,d⟩:=AO h b k j f g i;exact⟨e,l,m,n,.of_steps (.one (fenced_calm g i rfl) stepR_inLoop) d⟩
theorem Ql{c:Code}{Q:Exit->Act->World->Prop}{a:Act}{w:World}(h:c.wpIn F nd P (Exit.then (LoopWp F nd P c Q) Q) a w):(Code.loop c).wpIn F nd P Q a w:=λb k j f g i=>by have⟨e,l,m,n,d⟩:=AO h b k j f g i;exact⟨e,l,m,n,.of_steps (.one (fenced_calm g i rfl) stepR_loop) d⟩
theorem LoopWp.mono{c:Code}{Q Q':Exit->Act->World->Prop}{a:Act}{w:World}(h:LoopWp F nd P c Q a w) (hq:∀e a w,Q e a w->Q' e a w):LoopWp F nd P c Q' a w:=
 λb k f d g i=>let ⟨e,a',w',q,r⟩:=h b k f d g i;⟨e,a',w',hq _ _ _ q,r⟩
def Marked(lo:Nat) (w:World):List Deferred->Prop
 |[]=>True
 |m::r=>(∃D,m={target:=.collected D,args:=#[]}/\lo<=D/\w.heap[D]?=some (.deferred (some []))/\∀D',({target:=.collected D',args:=#[]}:Deferred)∈r->D'≠D)/\Marked lo w r
theorem Marked.mono{lo lo':Nat}{w w':World}(hlo:lo'<=lo) (hw:∀k:Nat,lo<=k->w.heap[k]?=some (.deferred (some []))->w'.heap[k]?=some (.deferred (some []))):∀ {l:List Deferred},Marked lo w l->Marked lo' w' l
 |[],_=>trivial
 |_::_,⟨⟨D,h1,h2,h3,h4⟩,hr⟩=>⟨⟨D,h1,o_,hw D h2 h3,h4⟩,Marked.mono hlo hw hr⟩
theorem Marked.mem{lo:Nat}{w:World}{D:Nat}:∀ {l:List Deferred},Marked lo w l->({target:=.collected D,args:=#[]}:Deferred)∈l->lo<=D/\D<w.heap.size
 |m::r,⟨⟨D',h1,h2,h3,h4⟩,hr⟩,hm=>by
  rcases ao.1 hm with e|hm
  ·rw[h1]at e;simp at e;subst e;exact⟨h2,(aO.1 h3).1⟩
  exact Marked.mem hr hm
theorem Marked.append{lo:Nat}{w:World}:∀ {l r:List Deferred},Marked lo w l->Marked lo w r->(∀D,({target:=.collected D,args:=#[]}:Deferred)∈l->({target:=.collected D,args:=#[]}:Deferred)∉r)->Marked lo w (l++r)
 |[],_,_,hr,_=>hr
 |m::l,r,⟨⟨D,h1,h2,h3,h4⟩,hl⟩,hr,hne=>⟨⟨D,h1,h2,h3,λD' hm e=>by
   rcases ac.1 hm with hm|hm
   ·exact h4 D' hm e
   subst e;exact hne D' (by rw[h1];simp) hm⟩,Marked.append hl hr (λD hm=>hne D (bZ _ hm))⟩
def PostE [DFlag] (P:Program) (B:Nat) (A0:Nat->Nat->Prop) (n:Nat) (σ:List (Option Nat)) (h:H) (w:World) (d:List Deferred) (e:Ex) (s':PT) (h':H):Exit->Act->World->Prop:=
 λe' a' w'=>e'=e.toExit/\(∃ms,a'.defers=ms++d/\Marked w.heap.size w' ms)/\∃σ',HRel P B A0 σ' h' w'/\Step P B A0 σ h w σ' h' w'/\SRel P (Alw P B A0 σ' h') σ' h' w' n s' a'.tmps
variable {B:Nat}{A0:Nat->Nat->Prop}{n:Nat}
theorem PostE.after [DFlag] {σ σ1:List (Option Nat)}{h h1:H}{w w1:World}{d d0:List Deferred}{e:Ex}{s':PT}{h':H}(st:Step P B A0 σ h w σ1 h1 w1) (hd:∃ms,d=ms++d0/\Marked w.heap.size w1 ms){e':Exit}{a':Act}{w':World}
  (p:PostE P B A0 n σ1 h1 w1 d e s' h' e' a' w'):PostE P B A0 n σ h w d0 e s' h' e' a' w':=by
 have⟨i,⟨a,j,c⟩,σ',l,f,m⟩:=p;obtain⟨ms,rfl,g⟩:=hd;have b:=st.below.size;refine⟨i,⟨a++ms,by rw[j,List.append_assoc],?_⟩,σ',l,st.trans f,m⟩;refine Marked.append (c.mono b (λ_ _ h=>h)) (g.mono (aR _) (λk _ o=>f.marks k o)) (λD h1 q=>?_);have:=c.mem h1;have:=g.mem q;omega
theorem PostE.here [DFlag] {σ:List (Option Nat)}{h:H}{w:World}{a a':Act}{s':PT}{h':H}{e:Ex}{w':World}{σ':List (Option Nat)}(hd:a'.defers=a.defers)
  (k1:HRel P B A0 σ' h' w') (k2:Step P B A0 σ h w σ' h' w') (k3:SRel P (Alw P B A0 σ' h') σ' h' w' n s' a'.tmps):PostE P B A0 n σ h w a.defers e s' h' e.toExit a' w':=
 ⟨rfl,⟨[],by rw[hd];rfl,trivial⟩,σ',k1,k2,k3⟩
theorem HRel.takeRel{A:Nat->Nat->Prop}{σ:List (Option Nat)}{h:H}{D:Nat}(hD:w.heap[D]?=some (.deferred (some []))){c:AV}{v:Value}(r:Rel P A σ h w c v):Rel P A σ h (w.putObj D (.deferred none)) c v:=by
 induction r with
 |data i=>exact .data (i.mono λb o x j a=>⟨j,kT hD s_ s_ a⟩)
 |yield d f=>exact .yield d f
 |mp d f=>exact .mp d f
 |ptr d f=>exact .ptr d f
 |msl d f y a z l B=>exact .msl d f y a z l (let ⟨n,p,fr,e1,e2⟩:=B;⟨n,p,fr,jC hD s_ e1,e2⟩)
 |full i=>exact .full (i.mono λb o x j a=>⟨j,kT hD s_ s_ a⟩)
 |tok i E=>
  have⟨u,p,q,F,G⟩:=E;refine .tok (i.mono λb o x j a=>⟨j,kT hD s_ s_ a⟩) ⟨u,p,q,F,λe=>?_⟩;rcases G e with k|⟨b,s,n,I,J,K,t,L⟩
  ·exact .inl k
  exact .inr ⟨b,s,n,I,J,K,(let ⟨fr,t⟩:=t;⟨fr,jC hD s_ t⟩),L⟩
 |func m _ g=>exact .func m g
 |iface M _ g=>exact .iface M g
 |agg q m _ g=>exact .agg q m g
 |tuple m _ g=>exact .tuple m g
theorem HRel.take{σ:List (Option Nat)}{h:H}(hr:HRel P B A0 σ h w){D:Nat}(hD:w.heap[D]?=some (.deferred (some []))):HRel P B A0 σ h (w.putObj D (.deferred none)):=by
 have f:∀ {c:AV}{v:Value},Rel P (Alw P B A0 σ h) σ h w c v->Rel P (Alw P B A0 σ h) σ h (w.putObj D (.deferred none)) c v:=λr=>HRel.takeRel hD r
 refine⟨by simpa using hr.base,hr.len,λi O G j I=>?_,λi u z j=>?_,λi L G j I=>?_,λi Q j=>?map,hr.uniq,λg a J=>(hr.glob g a J).mono λb o x S K=>⟨S,kT hD s_ s_ K⟩,λg n J=>by have⟨U,A,z,V,X,Y⟩:=hr.tab g n J;exact⟨U,A,z,V,jC hD s_ X,Y⟩⟩
 case map=>have⟨b,M,p,s,y,d,E,F⟩:=hr.map i Q j;exact⟨b,M,p,s,y,by rw[World.putObj_heap_other (λe=>by subst e;rw[hD]at d;cases d)];exact d,E,λk e m Z hm=>let q:=F k e m Z hm;⟨q.1,q.2.1,f q.2.2⟩⟩
 ·have⟨b,A,z,s,y,d,E,F,k6⟩:=hr.cells i O G j I;exact⟨b,A,z,s,y,jC hD s_ d,E,F,λk c v K hv=>f (k6 k c v K hv)⟩
 ·rcases hr.tok i u z j with k|⟨b,A,sz,N,s,y,d,k⟩
  ·exact .inl k
  exact .inr ⟨b,A,sz,N,s,y,jC hD s_ d,k⟩
 have⟨l,fn,tm,D',s,y,d,E,F⟩:=hr.loop i L G j I;exact⟨l,fn,tm,D',s,y,by rw[World.putObj_heap_other (λe=>by subst e;rw[hD]at d;cases d)];exact d,E,λt=>f (F t)⟩
theorem Step.take [DFlag] {σ σ':List (Option Nat)}{h h':H}{w0:World}(st:Step P B A0 σ h w0 σ' h' w){D:Nat}(hD:w.heap[D]?=some (.deferred (some []))) (hB:B<=D) (hn:w0.heap.size<=D):Step P B A0 σ h w0 σ' h' (w.putObj D (.deferred none)) where
 below:=st.below.trans (rL hB)
 shapes:=st.shapes.trans (qP hD s_)
 kept:=λb o x a c=>⟨(st.kept b o x a c).1,kT hD s_ s_ (st.kept b o x a c).2⟩
 cells:=st.cells
 toks:=st.toks
 loops:=st.loops
 maps:=st.maps
 marks:=λk d=>by have:=(aO.1 d).1;rw[World.putObj_heap_other o_];exact st.marks k d
 drawn:=st.drawn
theorem Step.turn [DFlag] {σ:List (Option Nat)}{h:H}(_hr:HRel P B A0 σ h w){i l:Nat}{L:LoopV}{st st':LSt}{r r':Loop}(hi:h[i]?=some (.loop L st)) (hl:w.heap[l]?=some (.loop r)) (hB:B<=l) :
  Step P B A0 σ h w σ (h.set i (.loop L st')) (w.putObj l (.loop r')) where
 below:=rL hB
 shapes:=qP hl s_
 kept:=λb o x d n=>by
  refine⟨?_,kT hl s_ s_ n⟩;unfold Alw at *;split
  ·rename_i f;simpa[f]using d
  rename_i f;rw[if_neg f]at d;refine⟨λj g a=>?_,λj u t a=>?_⟩
  ·rcases aa a with⟨_,e,_⟩|⟨_,a⟩
   ·cases e
   exact d.1 j g a
  rcases aa a with⟨_,e,_⟩|⟨_,a⟩
  ·cases e
  exact d.2 j u t a
 cells:=λj g c a=>⟨rfl,g,c,by rw[aE (λe=>by subst e;rw[hi]at a;cases a)];exact a⟩
 toks:=λj u q a=>⟨u,by rw[aE (λe=>by subst e;rw[hi]at a;cases a)];exact a,aR _,λ_=>rfl⟩
 loops:=λj s c a=>⟨rfl,by
  by_cases e:j=i
  ·subst e;rw[hi]at a;simp only[aA,VObj.loop.injEq]at a;obtain⟨rfl,rfl⟩:=a;exact⟨st',aH (aB.1 hi).1⟩
  exact⟨c,by rw[aE (λk=>e k.symm)];exact a⟩⟩
 maps:=λj p a=>⟨rfl,p,by rw[aE (λe=>by subst e;rw[hi]at a;cases a)];exact a⟩
 marks:=λk m=>by rw[World.putObj_heap_other (λe=>by subst e;rw[hl]at m;cases m)];exact m
 drawn:=λ_=>aR _
theorem HRel.turn{σ:List (Option Nat)}{h:H}(hr:HRel P B A0 σ h w){i l:Nat}{L:LoopV}{st st':LSt}{fn:FuncId}{tm:Array Value}{D:Nat}{r':Loop}(hi:h[i]?=some (.loop L st)) (hg:st≠.over) (hs:σ[i]?=some (some l))
  (hl:w.heap[l]?=some (.loop (mr L fn tm D st))) (hr':st'≠.over->r'=mr L fn tm D st'):HRel P B A0 σ (h.set i (.loop L st')) (w.putObj l (.loop r')):=by
 have⟨l',M,N,D',O,k2,J,k4,k5⟩:=hr.loop i L st hi hg;rw[hs]at O;simp only[aA]at O;subst O;have d:=Step.turn (st':=st') (r':=r') hr hi hl k2;rw[hl]at J;simp only[aA,Obj.loop.injEq]at J;have s:fn=M/\tm=N/\D=D':=by cases st<;>simp[mr]at J<;>exact J
 obtain⟨rfl,rfl,rfl⟩:=s;refine⟨by simpa using hr.base,by simpa using hr.len,λj cs n a z=>?_,λj u Q a=>?_,λj L2 n a z=>?_,λj es a=>?map,λj1 j2 b x y S U s1 s2 g1 g2=>?_,hr.globBelow d.below,hr.tabBelow d.below⟩
 case map=>
  rcases aa a with⟨_,e,_⟩|⟨A,a⟩
  ·cases e
  have⟨b2,V,o,g,r,f,E,F⟩:=hr.map j es a;exact⟨b2,V,o,g,r,by rw[World.putObj_heap_other (λe=>by subst e;rw[hl]at f;cases f)];exact f,E,λk e m he hm=>let q:=F k e m he hm;⟨q.1,q.2.1,q.2.2.step d⟩⟩
 ·rcases aa a with⟨_,e,_⟩|⟨_,a⟩
  ·cases e
  have⟨b,X,Q,g,r,f,E,F,q6⟩:=hr.cells j cs n a z;exact⟨b,X,Q,g,r,jC hl s_ f,E,F,λk c v hc hv=>(q6 k c v hc hv).step d⟩
 ·rcases aa a with⟨_,e,_⟩|⟨_,a⟩
  ·cases e
  rcases hr.tok j u Q a with k|⟨b,X,sz,Y,g,r,f,q⟩
  ·exact .inl k
  exact .inr ⟨b,X,sz,Y,g,r,jC hl s_ f,q⟩
 ·rcases aa a with⟨rfl,e,_⟩|⟨A,a⟩
  ·simp only[VObj.loop.injEq]at e;obtain⟨rfl,rfl⟩:=e;exact⟨l,fn,tm,D,hs,k2,by rw[World.putObj_heap_same (aO.1 hl).1,hr' z],k4,λt=>(k5 t).step d⟩
  have⟨l2,Z,q0,D2,g,r,f,E,F⟩:=hr.loop j L2 n a z;have G:l2≠l:=λe=>A (hr.uniq j i l _ _ a hi (e▸g) hs (uT z) (uT hg))
  exact⟨l2,Z,q0,D2,g,r,by rw[World.putObj_heap_other G];exact f,E,λt=>(F t).step d⟩
 have I:∀(j:Nat) p,(h.set i (.loop L st'))[j]?=some p->p.gone=false->∃K,h[j]?=some K/\K.gone=false:=λj p a dj=>by
  rcases aa a with⟨rfl,_,_⟩|⟨_,a⟩
  ·exact⟨_,hi,uT hg⟩
  exact⟨p,a,dj⟩
 have⟨K,q7,q8⟩:=I j1 x S g1;have⟨q',q9,z'⟩:=I j2 y U g2;exact hr.uniq j1 j2 b K q' q7 q9 s1 s2 q8 z'
end
theorem Bp{C:Cfg}{cf:FuncId}{n id:Nat}{ops:Array Oper}{draw:Bool}{ir:Bool}(h:gO C cf n ir (.region id ops draw)=true) :
  (∀(i:Nat) o,ops[i]?=some o->∀t,o.dst=some t->t<n)/\(draw=true->C.mix cf id=false->wE C ops=true):=by
 simp only[gO,am,eY,bo,cN]at h;refine⟨λi o a t b=>?_,λc d=>?_⟩
 ·have:=(h.1 o (mw a)).1;rw[b]at this;simpa using this
 rcases h.2 with(h|h)|h
 ·rw[c]at h;cases h
 ·rw[d]at h;cases h
 exact h
section
variable {C:Cfg}{B:Nat}{A0:Nat->Nat->Prop}{n:Nat}{ro:Option Nat}{nd:Nat}
theorem J9 [DFlag] (hP:Good C.P){run:FuncId->LA->H->Option (AV × H)}(hrun:Ok C.P run){cf:FuncId}{id:Nat}{ops:Array Oper}{draw:Bool}{ir:Bool}(hok:gO C cf n ir (.region id ops draw)=true)
  {σ:List (Option Nat)}{h:H}{w:World}{s:PT}{a:Act}{s':PT}{h':H}(hr:HRel C.P B A0 σ h w) (hs:SRel C.P (Alw C.P B A0 σ h) σ h w n s a.tmps) (hh:dz C run cf ops ops.toList s h=some (s',h')) (hdr:pN C run cf ops draw s h=true) (hmx:(draw&&C.mix cf id)=false) :
  (Code.region id ops draw).wpIn (FR ro) nd C.P (PostE C.P B A0 n σ h w a.defers .normal s' h') a w:=by
 have⟨G,g⟩:=Bp hok;cases draw with
 |false=>
  refine wpIn_region ?_;have:=J5 (n:=n) (ro:=ro) (nd:=nd) hP hrun (Q:=PostE C.P B A0 n σ h w a.defers .normal s' h') ops.toList 0 (λj=>s_) (λo b t U=>by obtain⟨i,V,rfl⟩:=bg b;exact G i _ (by rw[<-bM];exact aC V) t U) σ h w s a s' h' hr hs hh (λσ' X Y z A r D=>PostE.here (e:=.normal) D z A r)
  rw[List.range_eq_range'];simpa using this
 |true=>
  refine wpIn_region_any hP.mixed ?_;have⟨c,I,q1,J,K,u,Z⟩:=MS (s0:=s) ops.toList 0 (λ_=>AV.undef) (λ_=>h) (λj=>s_) s' h' hh;simp only[cH,dR]at K u;have E:Trace C run cf ops s h c I:=⟨J 0 (aR _),λi o b=>Z i o (aN _) b⟩
  have F:Grows w {w with drawn:=w.drawn+1}:=Grows.drew w;have v:I 0=h:=J 0 (aR _);have k:sel ops c s (λi=>(Array.replicate ops.size false).getD i false) ops.size=s:=by
   have:∀m,sel ops c s (λi=>(Array.replicate ops.size false).getD i false) m=s:=by
    intro m;induction m with
    |zero=>rfl
    |succ m y=>simp only[sel];rw[if_neg (by rw[bA,jH];split<;>simp),y]
   exact this _
  have f:∀i,(Array.replicate ops.size false).getD i false=false:=λi=>by rw[bA,jH];split<;>simp
  refine Rl (n:=n) hP hrun (g rfl (by simpa using hmx)) G E (λq L j oj M h2 h3 h4 id h5 N=>by
   have p:∀(l:List Oper) (o:Oper),o∈l->∀s id,id∈fL s o->pT l=true:=by
    intro l;induction l with
    |nil=>intro o b;cases b
    |cons x l y=>
     intro o b s id d;simp only[pT,bo];rcases ao.1 b with rfl|b
     ·left;unfold fL at d;unfold I2;split at d<;>try(cases d;done)
      first|rfl|(rename_i e;simp[e])
     exact .inr (y o b s id d)
   have e1:=p ops.toList L (by simpa using mw M) _ _ N;have⟨_,O⟩:=wV E ops.toList 0 (λj=>s_) q L (aN _) M h3;have⟨S,_⟩:=wV E ops.toList 0 (λj=>s_) j oj (aN _) h2 h4;simp only[pN,e1,du,ng,bI,cN]at hdr;have hz:sel ops c s (λ_=>true) 0=s:=rfl;rw[hz,v]at O S;have:=hdr id (S id h5);simp at this;exact this (O id N)) (σ0:=σ) (w0:=w) (a0:=a) (λσ' X Y z A r D=>PostE.here (e:=.normal) D (u▸z) (u▸A) (by rw[K]at r;exact u▸r)) ops.size _ a _ σ 0 s_ (aN _)
   (by rw[v];exact hr.grows F) (by rw[v];exact .grows hr F) (by rw[v,k];exact hs.step (.grows hr F)) rfl (λi o _ _=>by rw[f];simp) (λj o _ h=>by rw[f]at h;cases h) ?_
  have:∀(W:Nat->Bool) m,unl W m<=m:=by
   intro W m;induction m with
   |zero=>exact aR _
   |succ m y=>simp only[unl];split<;>omega
  exact this _ _
theorem Mx [DFlag] (hP:Good C.P){run:FuncId->LA->H->Option (AV × H)}(hrun:Ok C.P run){cf:FuncId}{nt:Nat}(hnt:nt=n)
  {σ:List (Option Nat)}{h:H}{w:World}{s:PT}{a:Act}{e:Ex}{s':PT}{h' h2:H}{v0:AV}(hr:HRel C.P B A0 σ h w) (hs:SRel C.P (Alw C.P B A0 σ h) σ h w n s a.tmps)
  {g:Operand}{ps:Array Tmp}{assign body:Code}{gf:FuncId}{cap:LA}(hg:ev s g=some (.func gf cap)) (hb:eE C.P gf=true)
  (hcall:run gf (.yield h.length::cap) (h++[.loop ⟨cf,s,nt,ps,assign,body⟩ .ready])=some (v0,h2))
  (hh:(match h2[h.length]? with
   |some (.loop L .ready)=>some (Ex.normal,s,h2.set h.length (.loop L .over))
   |some (.loop L (.done e))=>some (e,s,h2.set h.length (.loop L .over))
   |_=>none)=some (e,s',h')) :
  (Code.rangeFunc g ps assign body).wpIn (FR none) nd C.P (PostE C.P B A0 n σ h w a.defers e s' h') a w:=by
 subst hnt;refine wpIn_rangeFunc ?_;intro j _;have F:=bz hr.gr hs hg;obtain⟨r,U,V,X⟩:∃r:Array Value,a.eval g=.func (.func gf) #[] r/\r.size=cap.length/\∀(i:Nat) c u,cap[i]?=some c->r[i]?=some u->Rel C.P (Alw C.P B A0 σ h) σ h w c u:=by
  generalize a.eval g=z at F;cases F with
  |data hr=>cases hr with|func Y h2=>exact⟨_,rfl,Y,λi c u G A=>.data (h2 i c u G A)⟩
  |func Y h2=>exact⟨_,rfl,Y,h2⟩
 obtain⟨L,Z⟩:∃L:LoopV,L=⟨cf,s,nt,ps,assign,body⟩:=⟨_,rfl⟩
 rw[<-Z]at hcall;obtain⟨f,k⟩:∃f,(w.alloc (.deferred (some []))).alloc (.loop (mr L j a.tmps w.heap.size .ready))=f:=⟨_,rfl⟩
 have I:Grows w f:=by rw[<-k];exact(Grows.alloc w _).trans (Grows.alloc _ _)
 have q':f.heap[w.heap.size+1]?=some (.loop (mr L j a.tmps w.heap.size .ready)):=by rw[<-k];have:=heap_alloc_new (w.alloc (.deferred (some []))) (.loop (mr L j a.tmps w.heap.size .ready));simpa using this
 have q0:f.heap[w.heap.size]?=some (.deferred (some [])):=by rw[<-k,(Grows.alloc (w.alloc (.deferred (some []))) _).block w.heap.size s_];exact heap_alloc_new w _
 have hy:∀b,(some (w.heap.size+1):Option Nat)=some b->w.heap.size<=b:=λb hb=>by simp only[aA]at hb;omega
 have x:Step C.P B A0 σ h w (σ++[some (w.heap.size+1)]) (h++[.loop L .ready]) f:=Step.push hr I _ _ hy;have q6:HRel C.P B A0 (σ++[some (w.heap.size+1)]) (h++[.loop L .ready]) f:=HRel.push hr I _ _ hy (λ_ _ e=>by cases e) (λ_ _ e=>by cases e) (λL2 st e _=>by simp only[VObj.loop.injEq]at e;obtain⟨rfl,rfl⟩:=e;subst Z;exact⟨_,j,a.tmps,w.heap.size,rfl,q',hs.1,hs.2⟩)
 have J:h.length=σ.length:=hr.len.symm;have K:(σ++[some (w.heap.size+1)])[h.length]?=some (some (w.heap.size+1)):=by rw[J];exact ar σ _
 have m:=hrun.fn gf (.yield h.length::cap) _ v0 h2 hb hcall B A0 _ f (#[.func (.yield (w.heap.size+1)) #[] #[]]++r) q6 (by simp[V];omega) (λi c u G A=>by
  cases i with
  |zero=>rw[cT s_]at A;simp at G A;subst G A;exact .yield K ⟨L,.ready,ar h _⟩
  |succ i=>
   have q7:r[i]?=some u:=by rw[iA s_]at A;simpa using A
   exact(X i c u (by simpa using G) q7).step x)
 refine⟨w.heap.size+1,[{target:=.collected w.heap.size,args:=#[]}],f,{target:=.fn (.func gf) r,args:=#[.func (.yield (w.heap.size+1)) #[] #[]]},f,gf,
  #[.func (.yield (w.heap.size+1)) #[] #[]]++r,f,?_,?_,λ_ _=>trivial,?_,λhd=>(by cases hd),?_⟩
 ·rw[<-k,Z];exact run_enterLoop_outer _ _ _ _ _
 ·simp only[resolve,U,Deferred.ofValue,Sem.run_pure,jz];simp[Act.eval]
 ·simp only[invoke];exact wB hP hb
 refine CallsIn.mono ((callsIn_wide (n:=nd-1)).2 m) ?_;rintro e1 w3 ⟨v,rfl,σ3,k1,k2,_⟩;have⟨es,d,o⟩:=k2.loops h.length L .ready (ar h _);rw[K]at es;rw[o]at hh;have fin:∀(p:Option Code),d≠.over->(∀Q fn q D,(mr Q fn q D d).pending=p/\(mr Q fn q D d).state≠.busy) ->
   ∃E,(Instr.endLoop (w.heap.size+1)).run C.P w3=.ok p E/\∀e S,S.defers=[{target:=.collected w.heap.size,args:=#[]}]++a.defers->S.tmps=a.tmps ->
    PostE C.P B A0 nt σ h w a.defers e s (h2.set h.length (.loop L .over)) e.toExit S E:=λp M hp=>by
  have⟨l,fn,q,D,q1,q2,q3,q4,q5⟩:=k1.loop h.length L d o M;rw[es]at q1;simp only[aA]at q1;subst q1;refine⟨w3.putObj (w.heap.size+1) (.loop {mr L fn q D d with state:=.exhausted}),(run_endLoop (P:=C.P) q3 (hp L fn q D).2).trans (congrArg (λz=>Result.ok z _) (hp L fn q D).1),λe S hd ht=>?_⟩;have N:=Step.turn (st':=.over) (r':={mr L fn q D d with state:=.exhausted}) k1 o q3 q2;have y:=(x.trans k2).trans N;refine⟨rfl,⟨_,hd,⟨⟨w.heap.size,rfl,aR _,(k2.trans N).marks _ q0,λD' hm=>by cases hm⟩,trivial⟩⟩,σ3,HRel.turn k1 o M es q3 (λh=>absurd rfl h),y,?_⟩;rw[ht];exact⟨hs.1,λt=>(hs.2 t).step y⟩
 cases d with
 |busy=>simp at hh
 |over=>simp at hh
 |ready=>simp only[aA,aD]at hh;obtain⟨rfl,rfl,rfl⟩:=hh;have⟨E,g1,O⟩:=fin none s_ (λQ fn q D=>⟨rfl,by simp[mr]⟩);exact⟨none,E,g1,O .normal _ rfl rfl⟩
 |done e0=>
  simp only[aA,aD]at hh;obtain⟨rfl,rfl,rfl⟩:=hh;have⟨E,g1,O⟩:=fin (Hg e0) s_ (λQ fn q D=>⟨rfl,by simp[mr]⟩);refine⟨Hg e0,E,g1,?_⟩;cases e0 with
  |normal=>exact O .normal _ rfl rfl
  |exit id=>exact wpIn_exit (O (.exit id) _ rfl rfl)
  |ret=>exact wpIn_ret (O .ret _ rfl rfl)
theorem Gp [DFlag] (hP:Good C.P){run:FuncId->LA->H->Option (AV × H)}(hrun:Ok C.P run){cf:FuncId}{id:Nat}{ops:Array Oper}{ir:Bool}(hok:gO C cf n ir (.region id ops true)=true)
  {σ:List (Option Nat)}{h:H}{w:World}{s:PT}{a:Act}{s':PT}{h':H}(hr:HRel C.P B A0 σ h w) (hs:SRel C.P (Alw C.P B A0 σ h) σ h w n s a.tmps) (hh:wK C run cf id ops s h=some (s',h')) :
  (Code.region id ops true).wpIn (FR ro) nd C.P (PostE C.P B A0 n σ h w a.defers .normal s' h') a w:=by
 have⟨S,_⟩:=Bp hok;have x:∃c t p F,sO ops=true/\c<=ops.size/\(c=ops.size\/xE ops c=true)/\lM C run cf ops h.length c s (h++List.replicate c .void)=some (t,p,F)/\ri ops F=true/\dz C run cf ops (ops.toList.drop c) t p=some (s',h'):=by
  unfold wK at hh;split at hh
  ·unfold ym at hh;split at hh<;>try(cases hh;done)
   rename_i b;split at hh<;>try(cases hh;done)
   rename_i t p F k;split at hh<;>try(cases hh;done)
   rename_i y;refine⟨ops.size,t,p,F,b,aR _,.inl rfl,k,y,?_⟩;have:ops.toList.drop ops.size=[]:=List.drop_eq_nil_of_le s_;rw[this];exact hh
  unfold gM at hh;split at hh<;>try(cases hh;done)
  rename_i b;simp only[am]at b;have t1:=(sg b.2).1;split at hh<;>try(cases hh;done)
  rename_i t p F k;split at hh<;>try(cases hh;done)
  rename_i y;exact⟨_,t,p,F,b.1,jw t1,.inr b.2,k,y,hh⟩
 have⟨c,t,p,F,b,U,z,k,y,d⟩:=x;have A:∀j,c<=j->j<ops.size->∀i,i<c->((Region.before ops).getD j 0).testBit i=true:=λj q K=>by
  rcases z with e|e
  ·omega
  exact(sg e).2.1 j q K
 have⟨D,u,V,X,Y,v,q6,Z⟩:=KY U k;refine wpIn_region_any hP.mixed ?_;have hg:Grows w {w with drawn:=w.drawn+1}:=Grows.drew w;have M:=hr.grows hg;have E:Step C.P B A0 σ h w σ h {w with drawn:=w.drawn+1}:=.grows hr hg;have⟨v1,v2⟩:=Wz M c;have g:∀i,(Array.replicate ops.size false).getD i false=false:=λi=>by rw[bA,jH];split<;>simp
 have G:sel ops D s (λi=>(Array.replicate ops.size false).getD i false) c=s:=by
  have:∀m,sel ops D s (λi=>(Array.replicate ops.size false).getD i false) m=s:=by
   intro m;induction m with
   |zero=>rfl
   |succ m I=>simp only[sel];rw[if_neg (by rw[g];simp),I]
  exact this _
 have f:iY (λi=>(V i).2) u (λi=>(Array.replicate ops.size false).getD i false) c=h++List.replicate c .void:=by
  have:∀m,iY (λi=>(V i).2) u (λi=>(Array.replicate ops.size false).getD i false) m=u 0:=by
   intro m;induction m with
   |zero=>rfl
   |succ m I=>simp only[iY];rw[if_neg (by rw[g];simp),I]
  rw[this,X.zero]
 refine Ub (n:=n) hP hrun b S U A X (λi j N q hm=>K0 y (Z i o_) (Z j q) N hm) (σ0:=σ) (h0:=h) (w0:=w) (a0:=a)
  (λr L a' w' σ' hL g1 g2 k1 k2 J k4 k5=>?_) ops.size _ a _ (σ++List.replicate c none) s_ (λi _=>g i)
  (by rw[f];exact v1) (by rw[f];exact E.trans v2) (by rw[f,G];exact hs.step (E.trans v2)) rfl (λj o _ h=>by rw[g]at h;cases h) ?_
 ·rcases z with e|e
  ·subst e;have O:ops.toList.drop ops.size=[]:=List.drop_eq_nil_of_le s_;rw[O]at d;simp only[dz,aA,aD]at d;obtain⟨rfl,rfl⟩:=d;have l:Region.ready .any ops L=[]:=by
    cases l:Region.ready .any ops L with
    |nil=>rfl
    |cons j js=>
     have q:j∈Region.ready .any ops L:=by rw[l];simp
     have⟨x1,o,ho,_⟩:=mem_ready.1 q;have Q:j<ops.size:=(aO.1 ho).1;rw[kY o_,g1 j Q]at x1;cases x1
   have hq:=PostE.here (e:=.normal) k4 (v▸k1) (v▸k2) (by rw[Y]at J;exact v▸J);cases r with
   |zero=>exact⟨l,hq⟩
   |succ r=>exact⟨λ_=>hq,λj q=>by rw[l]at q;cases q⟩
  exact QB hP hrun b S e hL g1 g2 (v▸k1) (by rw[Y]at J;exact v▸J) d
   (λσ2 w2 a2 r1 r2 r3 r4=>PostE.here (e:=.normal) (r4.trans k4) r1 ((v▸k2:Step C.P B A0 σ h w σ' p w').trans r2) r3) k5
 have:∀m,unl (λi=>(Array.replicate ops.size false).getD i false) m<=m:=by
  intro m;induction m with
  |zero=>simp[unl]
  |succ m I=>simp only[unl];split<;>omega
 exact this _
theorem DT [DFlag] (hP:Good C.P){run:FuncId->LA->H->Option (AV × H)}(hrun:Ok C.P run){cf:FuncId}(hnt:ro=none->∀fn,C.P.funcs[cf]?=some fn->fn.ntmps=n):∀(m:Nat),
  (∀(c:Code),gO C cf n ro.isSome c=true->∀(σ:List (Option Nat)) (h:H) (w:World) (s:PT) (a:Act) (e:Ex) (s':PT) (h':H),HRel C.P B A0 σ h w->SRel C.P (Alw C.P B A0 σ h) σ h w n s a.tmps ->
   fu C run cf m c s h=some (e,s',h')->c.wpIn (FR ro) nd C.P (PostE C.P B A0 n σ h w a.defers e s' h') a w) /\
  (∀(c:Code),gO C cf n ro.isSome c=true->∀(σ:List (Option Nat)) (h:H) (w:World) (s:PT) (a:Act) (e:Ex) (s':PT) (h':H),HRel C.P B A0 σ h w->SRel C.P (Alw C.P B A0 σ h) σ h w n s a.tmps ->
   fu C run cf m (.loop c) s h=some (e,s',h')->LoopWp (FR ro) nd C.P c (PostE C.P B A0 n σ h w a.defers e s' h') a w):=by
 intro m;induction m with
 |zero=>exact⟨λc _ σ h w s a e s' h' _ _ d=>by simp[fu]at d,λc _ σ h w s a e s' h' _ _ d=>by simp[fu]at d⟩
 |succ m Y=>
  have⟨l,J⟩:=Y;have p:∀(c:Code),gO C cf n ro.isSome c=true->∀(σ:List (Option Nat)) (h:H) (w:World) (s:PT) (a:Act) (e:Ex) (s':PT) (h':H),HRel C.P B A0 σ h w->SRel C.P (Alw C.P B A0 σ h) σ h w n s a.tmps ->
    fu C run cf (m+1) (.loop c) s h=some (e,s',h')->c.wpIn (FR ro) nd C.P (Exit.then (LoopWp (FR ro) nd C.P c (PostE C.P B A0 n σ h w a.defers e s' h')) (PostE C.P B A0 n σ h w a.defers e s' h')) a w:=by
   intro c f σ h w s a e s' h' j k d;simp only[fu]at d;split at d
   ·rename_i E F v;refine wpIn_mono (l c f σ h w s a _ _ _ j k v) λG z A ⟨o,K,σ1,L,M,N⟩=>?_
    subst o;exact(J c f σ1 F A E z e s' h' L N d).mono λZ a2 w2 q=>q.after M K
   rename_i t;refine wpIn_mono (l c f σ h w s a _ _ _ j k d) λG z A q=>?_
   cases e with
   |normal=>exact absurd d (t _ _)
   |exit id=>have⟨o,r⟩:=q;subst o;exact⟨rfl,r⟩
   |ret=>have⟨o,r⟩:=q;subst o;exact⟨rfl,r⟩
  refine⟨λc f σ h w s a e s' h' j k d=>?_,λc f σ h w s a e s' h' j k d=>.of (p c f σ h w s a e s' h' j k d)⟩;cases c with
  |skip=>simp only[fu,aA,aD]at d;obtain⟨rfl,rfl,rfl⟩:=d;exact wpIn_skip (PostE.here rfl j (.refl _ _ _) k)
  |region id q' V=>
   simp only[fu]at d;split at d
   ·rename_i u;split at d<;>try(cases d;done)
    rename_i E F O;simp only[aA,aD]at d;obtain⟨rfl,rfl,rfl⟩:=d;simp only[am]at u;obtain⟨rfl,_⟩:=u;exact Gp hP hrun f j k O
   rename_i u;split at d<;>try(cases d;done)
   rename_i E F O;split at d<;>try(cases d;done)
   rename_i Q;simp only[aA,aD]at d;obtain⟨rfl,rfl,rfl⟩:=d;exact J9 hP hrun f j k O Q (by simpa using u)
  |seq x y=>
   simp only[gO,am]at f;simp only[fu]at d;refine wpIn_seq ?_;split at d
   ·rename_i E F v;refine wpIn_mono (l x f.1 σ h w s a _ _ _ j k v) λG z A ⟨o,K,σ1,L,M,N⟩=>?_
    subst o;exact wpIn_mono (l y f.2 σ1 F A E z e s' h' L N d) λZ a2 w2 q=>q.after M K
   rename_i t;refine wpIn_mono (l x f.1 σ h w s a _ _ _ j k d) λG z A q=>?_
   cases e with
   |normal=>exact absurd d (t _ _)
   |exit id=>have⟨o,r⟩:=q;subst o;exact⟨rfl,r⟩
   |ret=>have⟨o,r⟩:=q;subst o;exact⟨rfl,r⟩
  |cond c x y=>
   simp only[gO,am]at f;simp only[fu]at d;split at d<;>try(cases d;done)
   ·rename_i S;exact wpIn_cond_true (pA (bz j.gr k S)) (l x f.1 σ h w s a e s' h' j k d)
   rename_i S;exact wpIn_cond_false (pA (bz j.gr k S)) (l y f.2 σ h w s a e s' h' j k d)
  |block id b=>
   simp only[gO]at f;simp only[fu]at d;refine wpIn_block ?_;split at d
   ·rename_i i E F v;refine wpIn_mono (l b f σ h w s a _ _ _ j k v) λG z A ⟨o,r⟩=>?_
    subst o;split at d
    ·rename_i U;simp only[aA,aD]at d;obtain⟨rfl,rfl,rfl⟩:=d;subst U;simp only[Ex.toExit,Exit.inBlock,if_true];exact⟨rfl,r⟩
    rename_i U;simp only[aA,aD]at d;obtain⟨rfl,rfl,rfl⟩:=d;simp only[Ex.toExit,Exit.inBlock,if_neg U];exact⟨rfl,r⟩
   rename_i t;refine wpIn_mono (l b f σ h w s a _ _ _ j k d) λG z A q=>?_
   cases e with
   |normal=>have⟨o,r⟩:=q;subst o;exact⟨rfl,r⟩
   |exit i=>exact absurd d (t _ _ _)
   |ret=>have⟨o,r⟩:=q;subst o;exact⟨rfl,r⟩
  |loop b=>simp only[gO]at f;exact Ql (p b f σ h w s a e s' h' j k d)
  |exit id=>simp only[fu,aA,aD]at d;obtain⟨rfl,rfl,rfl⟩:=d;exact wpIn_exit (PostE.here rfl j (.refl _ _ _) k)
  |ret=>simp only[fu,aA,aD]at d;obtain⟨rfl,rfl,rfl⟩:=d;exact wpIn_ret (PostE.here rfl j (.refl _ _ _) k)
  |rangeFunc g ps I X=>
   cases ro with
   |some l0=>simp[gO]at f
   |none=>
    simp only[fu]at d;split at d<;>try(cases d;done)
    rename_i gf q0 fn hg hf;split at d<;>try(cases d;done)
    rename_i v;split at d<;>try(cases d;done)
    rename_i v0 h2 D;exact Mx hP hrun (hnt rfl fn hf) j k hg v D d
  |_=>simp[fu]at d
theorem Kp:∀(l:LA) (i:Nat) (s:PT) (t:Nat),(kC i l s).get t=if i<=t/\t<i+l.length then l.getD (t-i) AV.undef else s.get t:=by
 intro l;induction l with
 |nil=>intro i s t;simp only[kC,aQ];rw[if_neg o_]
 |cons v l b=>
  intro i s t;simp only[kC,b,PT.get_set,aG];by_cases e:t=i
  ·subst e;rw[if_neg o_,if_pos rfl,if_pos o_];simp
  by_cases a:i+1<=t/\t<i+1+l.length
  ·rw[if_pos a,if_pos o_,show t-i=(t-(i+1))+1 by omega];rfl
  rw[if_neg a,if_neg e,if_neg o_]
theorem Nn{P:Program}{A:Nat->Nat->Prop}{σ:List (Option Nat)}{h:H}{w:World}{args:LA}{vs:Array Value}(hl:vs.size=args.length) (hn:args.length<=n)
  (ha:∀(i:Nat) a v,args[i]?=some a->vs[i]?=some v->Rel P A σ h w a v):SRel P A σ h w n (kC 0 args .leaf) (vs++Array.replicate (n-vs.size) undef):=by
 refine⟨by simp;omega,λt=>?_⟩;rw[Kp];by_cases d:t<args.length
 ·rw[if_pos o_];have b:vs[t]?=some (vs[t]' o_):=aT _;have c:args[t]?=some args[t]:=aC d;rw[bA,cT o_,b];have:=ha t _ _ c b;simpa[bK,c]using this
 rw[if_neg o_,PT.get_leaf,bA,iA o_,jH];split<;>exact uB
def QR(tm:Array Value):ResultVar->Sem Value
 |.tmp t=>pure (tm.getD t undef)
 |.cell a t=>do loadVar t (<-asAddr (tm.getD a undef))
theorem Mt{P:Program}{σ:List (Option Nat)}{h:H}{w:World}{s:PT}{tm:Array Value}(hr:HRel P B A0 σ h w) (hs:SRel P (Alw P B A0 σ h) σ h w n s tm){x:ResultVar}{r:AV}(hh:cC P s h x=some r) :
  ∃v,(QR tm x).run P w=.ok v w/\Rel P (Alw P B A0 σ h) σ h w r v:=by
 cases x with
 |tmp t=>simp only[cC,aA]at hh;subst hh;exact⟨_,rfl,hs.2 t⟩
 |cell a t=>
  simp only[cC]at hh;have⟨v,i,j⟩:=yL hr hh (hs.2 a);refine⟨v,?_,j⟩;have d:∃p,tm.getD a undef=.pointer (some p):=by
   have:=hs.2 a;unfold aW at hh;split at hh<;>try(cases hh;done)
   ·rename_i id g c;rw[c]at this;have⟨b,e,_⟩:=pv this;exact⟨_,e⟩
   rename_i e g c;rw[c]at this;have⟨b,o,f,e,_⟩:=sx this;exact⟨_,e⟩
  have⟨p,d⟩:=d;simp only[QR,d,asAddr,Sem.run_bind,Sem.run_pure,Result.andThen_ok];simpa only[d,Instr.loadAt,Instr.sureAddr,Sem.run_bind,Sem.run_pure,Result.andThen_ok]using i
theorem J8{P:Program}{σ:List (Option Nat)}{h:H}{w:World}{s:PT}{tm:Array Value}(hr:HRel P B A0 σ h w) (hs:SRel P (Alw P B A0 σ h) σ h w n s tm):∀(l:List ResultVar) (rs:LA),dx P s h l=some rs ->
  ∃vs:List Value,(l.mapM (QR tm)).run P w=.ok vs w/\vs.length=rs.length /\
   ∀(i:Nat) a v,rs[i]?=some a->vs[i]?=some v->Rel P (Alw P B A0 σ h) σ h w a v:=by
 intro l;induction l with
 |nil=>intro rs b;simp only[dx,aA]at b;subst b;exact⟨[],rfl,rfl,s_⟩
 |cons x l e=>
  intro rs b;simp only[dx]at b;split at b<;>try(cases b;done)
  rename_i a r f g;simp only[aA]at b;subst b;have⟨v,j,k⟩:=Mt hr hs f;have⟨vs,m,o,p⟩:=e r g;refine⟨v::vs,?_,by simp[o],λi q t c d=>?_⟩
  ·rw[List.mapM_cons];simp only[Sem.run_bind,Sem.run_pure];rw[j];simp only[Result.andThen_ok,m]
  cases i with
  |zero=>simp at c d;subst c d;exact k
  |succ i=>simp at c d;exact p i q t c d
theorem EO{P:Program}{σ:List (Option Nat)}{h:H}{w:World}{s:PT}{tm:Array Value}(hr:HRel P B A0 σ h w) (hs:SRel P (Alw P B A0 σ h) σ h w n s tm){fn:Func}{r:AV}(hh:aY P s h fn.results.toList=some r) :
  ∃v,(results fn tm).run P w=.ok v w/\Rel P (Alw P B A0 σ h) σ h w r v:=by
 have f:∀c,dx P s h fn.results.toList=some c->∃b:List Value,(results fn tm).run P w=.ok (if g:b.toArray.size=1 then b.toArray[0]else .tuple b.toArray) w/\b.length=c.length /\
   ∀(i:Nat) a v,c[i]?=some a->b[i]?=some v->Rel P (Alw P B A0 σ h) σ h w a v:=by
  intro c d;have⟨b,j,k,m⟩:=J8 hr hs _ _ d;refine⟨b,?_,k,m⟩;simp only[results,Array.mapM_eq_mapM_toList,Sem.run_bind,Sem.run_map];change (((Sem.run P (List.mapM (QR tm) fn.results.toList) w).andThen _).andThen _)=_;rw[j];rfl
 unfold aY at hh;split at hh
 ·rename_i x p;have⟨b,j,k,m⟩:=f [r] (by rw[p];simp only[dx,hh]);have g:b.length=1:=by simpa using k
  obtain⟨v,rfl⟩:=List.length_eq_one_iff.1 g;exact⟨v,by rw[j];rfl,m 0 r v rfl rfl⟩
 rename_i q;split at hh<;>try(cases hh;done)
 rename_i c d;simp only[aA]at hh;subst hh;have⟨b,j,k,m⟩:=f c d;have o:∀(l:List ResultVar) c,dx P s h l=some c->c.length=l.length:=by
  intro l;induction l with
  |nil=>intro c hh;simp only[dx,aA]at hh;subst hh;rfl
  |cons x l u=>
   intro c hh;simp only[dx]at hh;split at hh<;>try(cases hh;done)
   rename_i a r _ y;simp only[aA]at hh;subst hh;simp[u r y]
 have t:b.length≠1:=λe=>by
  have z:fn.results.toList.length=1:=by rw[<-o _ _ d];omega
  have⟨x,p⟩:=List.length_eq_one_iff.1 z;exact q x p
 refine⟨.tuple b.toArray,?_,.tuple (by simpa using k) (λi a v A D=>m i a v A (by simpa using D))⟩;rw[j,dif_neg (by simpa using t)]
end
def sN [DFlag] (P:Program) (f:FuncId) (p:LA->H->Option (AV × H)):Prop:=
 ∀args h r h',p args h=some (r,h')->∀(B:Nat) (A0:Nat->Nat->Prop) (σ:List (Option Nat)) (w:World) (vs:Array Value),HRel P B A0 σ h w->vs.size=args.length ->
  (∀(i:Nat) a v,args[i]?=some a->vs[i]?=some v->Rel P (Alw P B A0 σ h) σ h w a v) ->
  Calls P f vs w (λe w'=>∃v,e=.returned v/\er P B A0 σ h w r h' v w')
section
variable {B:Nat}{A0:Nat->Nat->Prop}{n:Nat}
theorem J3{P:Program}{A:Nat->Nat->Prop}{σ:List (Option Nat)}{h:H}{w:World}:∀(ps:List Tmp) (args:LA) (vs:List Value) (s:PT) (tm:Array Value),SRel P A σ h w n s tm->(∀p∈ps,p<n)->vs.length=args.length ->
  (∀(i:Nat) a v,args[i]?=some a->vs[i]?=some v->Rel P A σ h w a v)->SRel P A σ h w n (EL (ps.zip args) s) ((ps.zip vs).foldl (λtmps (t,a)=>tmps.setIfInBounds t a) tm):=by
 intro ps;induction ps with
 |nil=>intro args vs s tm b _ _ _;exact b
 |cons p ps g=>
  intro args vs s tm b e c f;cases args with
  |nil=>cases vs with
   |nil=>exact b
   |cons _ _=>simp at c
  |cons x args=>cases vs with
   |nil=>simp at c
   |cons v vs=>simp only[mA,EL,gG];refine g args vs _ _ ?_ (λq j=>e q (by simp[j])) (by simpa using c) (λi a v k l=>f (i+1) a v (by simpa using k) (by simpa using l));have:=SRel.put (a:={tmps:=tm,defers:=[]}) b (d:=some p) (λt m=>by cases m;exact e p s_) (f 0 x v rfl rfl);exact this
theorem QA [DFlag] {P:Program}{fn:Func}{tm:Array Value}{σ σ':List (Option Nat)}{h h':H}{w0:World}{s:PT}{r:AV}{nd:Nat}:∀(ms:List Deferred) (w:World),HRel P B A0 σ' h' w->Step P B A0 σ h w0 σ' h' w->B<=w0.heap.size ->
  SRel P (Alw P B A0 σ' h') σ' h' w n s tm->aY P s h' fn.results.toList=some r->Marked w0.heap.size w ms ->
  LeavesInM Fence.wide nd P fn tm (λe w'=>∃v,e=.returned v/\er P B A0 σ h w0 r h' v w') ms .returning w:=by
 intro ms;induction ms with
 |nil=>intro w g a _ i o _;have⟨u,z,A⟩:=EO g i o;exact⟨u,z,u,rfl,σ',g,a,A⟩
 |cons m ms E=>
  intro w g a F i o b;obtain⟨⟨D,rfl,G,j,I⟩,b⟩:=b;refine⟨s_,.inl ⟨D,_,rfl,run_takeDeferred j,?_⟩⟩;have M:Step P B A0 σ' h' w σ' h' w:=.refl _ _ _;refine E _ (g.take j) (a.take j o_ G) F ⟨i.1,λt=>?_⟩ o ?_
  ·have d:∀ {c:AV}{v:Value},Rel P (Alw P B A0 σ' h') σ' h' w c v->Rel P (Alw P B A0 σ' h') σ' h' (w.putObj D (.deferred none)) c v:=λr=>HRel.takeRel j r
   exact d (i.2 t)
  
  have:∀(l:List Deferred),Marked w0.heap.size w l->(∀k,({target:=.collected k,args:=#[]}:Deferred)∈l->k≠D)->Marked w0.heap.size (w.putObj D (.deferred none)) l:=by
   intro l;induction l with
   |nil=>intro _ _;trivial
   |cons m l p=>intro b f;have⟨⟨x,y,J,K,L⟩,b⟩:=b;exact⟨⟨x,y,J,by rw[World.putObj_heap_other (f x (by rw[y];simp))];exact K,L⟩,p b (λk q=>f k (bZ _ q))⟩
  exact this ms b I
theorem Au [DFlag] {C:Cfg}(hP:Good C.P) (hprim:∀f,sN C.P f (C.prim f)):∀(m:Nat),Ok C.P (fA C m):=by
 intro m;induction m with
 |zero=>exact⟨λf args h r G _ b=>by simp[fA]at b,λi args h r G b=>by simp[fA]at b⟩
 |succ m ih=>
  refine⟨λf args h r G q' b B I σ w x J hl ha=>?_,λi args h r G b B I σ w x J hl ha l o=>?_⟩
  ·simp only[fA]at b;split at b
   ·rename_i y;simp[eE,y]at q'
   rename_i fn hf;split at b
   ·rename_i z hz;simp only[aA]at b;subst b;exact hprim f args h r G hz B I σ w x J hl ha
   split at b<;>try(cases b;done)
   rename_i c hb;split at b<;>try(cases b;done)
   rename_i hc;have fin:∀e q j,(e=Ex.normal\/e=Ex.ret)->fu C (fA C m) f m c (kC 0 args .leaf) h=some (e,q,j)->(match aY C.P q j fn.results.toList with|some v=>some (v,j)|none=>none)=some (r,G) ->
     Calls C.P f x w (λe K=>∃v,e=.returned v/\er C.P B I σ h w r G v K):=by
    intro e q j he M d;split at d<;>try(cases d;done)
    rename_i v hv;simp only[aA,aD]at d;obtain⟨rfl,rfl⟩:=d;refine(callsIn_wide (n:=0)).1 (callsIn_of_wp_marks hf hb trivial ?_);have hs:=Nn (n:=fn.ntmps) hl hc.2 ha;refine wpIn_mono ((DT (ro:=none) (nd:=0) (n:=fn.ntmps) (cf:=f) hP ih (λ_ z6 N=>by rw[hf]at N;cases N;rfl) m).1 c hc.1 σ h w _ {tmps:=x++Array.replicate (fn.ntmps-x.size) undef,defers:=[]} e q j J hs M) λe' a' K ⟨p1,⟨ms,p2,pm⟩,σ1,p3,p4,p5⟩=>?_
    subst p1;simp only[bm]at p2;have O:=QA (fn:=fn) (nd:=0) ms K p3 p4 J.base p5 hv pm;rw[<-p2]at O;rcases he with rfl|rfl<;>exact O
   split at b<;>try(cases b;done)
   ·rename_i q j M;exact fin _ q j (.inl rfl) M b
   rename_i q j M;exact fin _ q j (.inr rfl) M b
  simp only[fA]at b;have y:C.P.funcs[yb C.P+i]?=none:=fq (by simp[yb];omega);rw[y]at b;simp only[show yb C.P<=yb C.P+i from Nat.le_add_right _ _,if_true,Nat.add_sub_cancel_left]at b;unfold AC at b;split at b<;>try(cases b;done)
  rename_i L hi;split at b<;>try(cases b;done)
  rename_i hc;have⟨z7,q0,q6,q7⟩:=hc;split at b<;>try(cases b;done)
  rename_i q j q8;split at b<;>try(cases b;done)
  rename_i A u;split at b<;>try(cases b;done)
  rename_i e s2 h2 q9;split at b<;>try(cases b;done)
  rename_i L2 E;have⟨l',fn,tm,D,q1,q2,q3,q4,q5⟩:=J.loop i L .ready hi s_;rw[o]at q1;simp only[aA]at q1;subst q1;have hy:=run_yield (P:=C.P) (args:=x) q3 (by show x.size=L.ps.size;omega);refine⟨fn,_,L.assign,L.body,hy,λk=>roundIn_of_wpIn (F:=Fence.wide) trivial ?_⟩;have z':SRel C.P (Alw C.P B I σ h) σ h w L.n (EL (L.ps.toList.zip args) L.s) (Array.foldl (λtmps (t,a)=>tmps.setIfInBounds t a) tm (L.ps.zip x)):=by have:=J3 L.ps.toList args x.toList L.s tm ⟨q4,q5⟩ (λp hp=>by simpa using eY.1 q0 p (by simpa using hp)) (by simpa using hl) (λi a v j h2=>ha i a v j (by simpa using h2));rw[<-jy];simpa[Array.toList_zip]using this
  have Q:(some l:Option Nat)=none->∀fn,C.P.funcs[L.cf]?=some fn->fn.ntmps=L.n:=λh=>by cases h
  refine wpIn_mono ((DT (ro:=some l) (nd:=k) (n:=L.n) (cf:=L.cf) hP ih Q m).1 L.assign q6 σ h w _ {tmps:=_,defers:=[]} _ q j J z' q8) ?_;rintro e1 a1 w1 ⟨rfl,_,σ1,k1,k2,k3⟩;have⟨e2,z8,e3⟩:=k2.loops i L .ready hi;rw[u]at e3;simp only[aA,VObj.loop.injEq]at e3;obtain⟨rfl,rfl⟩:=e3;have⟨l',S,U,D1,r1,r2,r3,r4,r5⟩:=k1.loop i A .ready u s_;rw[e2,o]at r1;simp only[aA]at r1;subst r1;refine⟨_,run_beginRound r3 rfl,?_⟩;have b1:HRel C.P B I σ1 (j.set i (.loop A .busy)) (w1.putObj l (.loop {mr A S U D1 .ready with state:=.busy})):=HRel.turn k1 u s_ (e2.trans o) r3 (λ_=>rfl);have b2:Step C.P B I σ1 j w1 σ1 (j.set i (.loop A .busy)) (w1.putObj l (.loop {mr A S U D1 .ready with state:=.busy})):=Step.turn k1 u r3 r2;refine wpIn_mono ((DT (ro:=some l) (nd:=k) (n:=A.n) (cf:=A.cf) hP ih Q m).1 A.body q7 σ1 _ _ q a1 e s2 h2 b1 ⟨k3.1,λt=>(k3.2 t).step b2⟩ q9) ?_;rintro e4 a4 w4 ⟨rfl,_,σ4,c1,c2,c3⟩;have z0:i<j.length:=(aB.1 u).1;have⟨e5,z9,e6⟩:=c2.loops i A .busy (aH z0);rw[E]at e6;simp only[aA,VObj.loop.injEq]at e6;obtain⟨rfl,rfl⟩:=e6;have⟨l',V,X,D2,z1,z2,z3,z4,z5⟩:=c1.loop i L2 .busy E s_;rw[e5,e2,o]at z1;simp only[aA]at z1;subst z1;have Y:σ4[i]?=some (some l):=e5.trans (e2.trans o);have fin:∀(g:Option Code) (st:LSt),st≠.over->mr L2 V X D2 st={mr L2 V X D2 .busy with state:=if g.isNone then .ready else .done,pending:=g}->some (AV.bool g.isNone,h2.set i (.loop L2 st))=some (r,G) ->
    ∃v K,(Instr.endRound l g).run C.P w4=.ok v K/\∃v',Ending.returned v=.returned v'/\er C.P B I σ h w r G v' K:=λg st y Z d=>by
   simp only[aA,aD]at d;obtain⟨rfl,rfl⟩:=d;refine⟨_,_,run_endRound g z3,_,rfl,σ4,HRel.turn c1 E s_ Y z3 (λ_=>Z.symm),((k2.trans b2).trans c2).trans (Step.turn c1 E z3 z2),.data (.bool _)⟩
  cases e with
  |normal=>exact fin none .ready s_ rfl b
  |exit id=>exact fin (some (.exit id)) (.done (.exit id)) s_ rfl b
  |ret=>exact fin (some .ret) (.done .ret) s_ rfl b
end
end Go.V
