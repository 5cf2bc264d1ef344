/- A part of the proof. -/
import Derived.Test.YtclakfnjdnibeaaGreatDoorV3
namespace Go.V
open Go
section
variable {P:Program}{A:Nat->Nat->Prop}{σ:List (Option Nat)}{h:H}{w:World}
theorem Eh{t:TypeId}{n:Nat}(hh:cS P t=some n):∃i,P.info? t=some i/\i.size=n:=by
 unfold cS at hh;cases a:P.info? t with
 |none=>simp[a]at hh
 |some i=>exact⟨i,rfl,by simpa[a]using hh⟩
theorem ea{t:TypeId}{n:Nat}(hh:cS P t=some n):(sizeOf t).run P w=.ok n w:=by obtain⟨i,a,rfl⟩:=Eh hh;simp[sizeOf,typeInfo,a]
theorem bT{t:TypeId}{d:TypeDesc}(hh:P.underlying t=some d):(underlying t).run P w=.ok d w:=by simp[underlying,hh]
theorem se{t:TypeId}{b:Bool}(hh:eW P t=some b):(isAgg t).run P w=.ok b w:=by
 unfold eW at hh;split at hh<;>try(cases hh;done)
 ·rename_i a;cases hh;simp[isAgg,bT a]
 ·rename_i a;cases hh;simp[isAgg,bT a]
 rename_i d c e a;cases hh;simp only[isAgg,Sem.run_bind,bT a,Result.andThen_ok];cases d<;>first|rfl|exact absurd rfl (c _)|exact absurd rfl (e _ _)
theorem jO(l:LA) (off n i:Nat):((l.drop off).take n)[i]?=if i<n then l[off+i]? else none:=by rw[bv];split<;>simp
theorem vN{t:TypeId}{cs:LA}{off:Nat}{r:AV}{vs:Array Value}(hh:ae P t cs off=some r) (h1:∀c∈cs,c.one=true) (hl:vs.size=cs.length)
  (hr:∀(i:Nat) a v,cs[i]?=some a->vs[i]?=some v->Rel P A σ h w a v):∃v,(part t vs off).run P w=.ok v w/\Rel P A σ h w r v:=by
 unfold ae at hh;split at hh<;>try(cases hh;done)
 ·rename_i n e f;split at hh<;>try(cases hh;done)
  rename_i k;simp only[aA]at hh;subst hh;refine⟨.agg (vs.extract off (off+n)),by simp[part,se e,ea f],.agg (λc g=>h1 c (cq (bX g))) ?_ (λi a v d b=>?_)⟩
  ·simp;omega
  rw[jO]at d;split at d
  ·refine hr (off+i) a v d ?_;rw[Array.getElem?_extract]at b;split at b<;>simp_all
  cases d
 rename_i n e f;have j:off<cs.length:=by
  rcases iJ off cs.length with h|h
  ·exact h
  rw[bo h]at hh;cases hh
 have b:vs[off]?=some (vs[off]' o_):=aR _;exact⟨_,by simp[part,se e,b],hr off r _ hh b⟩
theorem ib(d:Nat){t e:TypeId}(b:Option Addr) (hu:P.underlying t=some (.pointer e)) :
  (Op.equalIn (d+1) t (.pointer none) (.pointer b)).run P w=.ok b.isNone w:=by
 simp only[Op.equalIn,Sem.run_bind,bT hu,Result.andThen_ok];rfl
theorem ia(d:Nat){t e:TypeId}(a:Addr) (hu:P.underlying t=some (.pointer e)) :
  (Op.equalIn (d+1) t (.pointer (some a)) (.pointer none)).run P w=.ok false w:=by
 simp only[Op.equalIn,Sem.run_bind,bT hu,Result.andThen_ok];rfl
theorem nl{t:TypeId}(a b:Option Addr) (x y:Operand) (r:Bool) (h1:(Op.equalIn (9999+1) t (.pointer a) (.pointer b)).run P w=.ok r w) :
  (do eqGuard .eql t x y (.pointer a) (.pointer b);binOp .eql t (.pointer a) (.pointer b):Sem Value).run P w=.ok (.bool r) w:=by
 have:Op.equal t (.pointer a) (.pointer b)=Op.equalIn (9999+1) t (.pointer a) (.pointer b):=rfl;simp only[eqGuard,binOp,this,Sem.run_bind,Sem.run_pure,ite_self,Result.andThen_ok,h1]
theorem nk{t:TypeId}(a b:Option Addr) (x y:Operand) (r:Bool) (h1:(Op.equalIn (9999+1) t (.pointer a) (.pointer b)).run P w=.ok r w) :
  (do eqGuard .neq t x y (.pointer a) (.pointer b);binOp .neq t (.pointer a) (.pointer b):Sem Value).run P w=.ok (.bool !r) w:=by
 have:Op.equal t (.pointer a) (.pointer b)=Op.equalIn (9999+1) t (.pointer a) (.pointer b):=rfl;simp only[eqGuard,binOp,this,Sem.run_bind,Sem.run_pure,ite_self,Result.andThen_ok,h1]
theorem yM{t:TypeId}(a:Addr) (n c:Nat) (x y:Operand) (r:Bool) (h1:(Op.equalIn (9999+1) t (.slice (some a) n c) (.slice none 0 0)).run P w=.ok r w) :
  (do eqGuard .eql t x y (.slice (some a) n c) (.slice none 0 0);binOp .eql t (.slice (some a) n c) (.slice none 0 0):Sem Value).run P w=.ok (.bool r) w:=by
 have:Op.equal t (.slice (some a) n c) (.slice none 0 0)=Op.equalIn (9999+1) t (.slice (some a) n c) (.slice none 0 0):=rfl;simp only[eqGuard,binOp,this,Sem.run_bind,Sem.run_pure,ite_self,Result.andThen_ok,h1]
theorem yL{t:TypeId}(a:Addr) (n c:Nat) (x y:Operand) (r:Bool) (h1:(Op.equalIn (9999+1) t (.slice (some a) n c) (.slice none 0 0)).run P w=.ok r w) :
  (do eqGuard .neq t x y (.slice (some a) n c) (.slice none 0 0);binOp .neq t (.slice (some a) n c) (.slice none 0 0):Sem Value).run P w=.ok (.bool !r) w:=by
 have:Op.equal t (.slice (some a) n c) (.slice none 0 0)=Op.equalIn (9999+1) t (.slice (some a) n c) (.slice none 0 0):=rfl;simp only[eqGuard,binOp,this,Sem.run_bind,Sem.run_pure,ite_self,Result.andThen_ok,h1]
theorem jd(d:Nat){t e:TypeId}(a:Addr) (n c:Nat) (hu:P.underlying t=some (.slice e)) :
  (Op.equalIn (d+1) t (.slice (some a) n c) (.slice none 0 0)).run P w=.ok false w:=by
 simp only[Op.equalIn,Sem.run_bind,bT hu,Result.andThen_ok];rfl
theorem zq{t e:TypeId}(a:Addr) (n c:Nat) (x y:Operand) (hu:P.underlying t=some (.slice e)){op:BinOp}{b:Bool}(ho:B7 op=some b) :
  (do eqGuard op t x y (.slice (some a) n c) (.slice none 0 0);binOp op t (.slice (some a) n c) (.slice none 0 0):Sem Value).run P w=.ok (.bool b) w:=by
 unfold B7 at ho;split at ho<;>try(cases ho;done)
 ·cases ho;exact yM a n c x y false (jd 9999 a n c hu)
 cases ho;exact yL a n c x y false (jd 9999 a n c hu)
theorem wF{a:AV}{u:Value}(hs:Cf a=true) (ra:IRel A w a u):∃p n c,u=.slice (some p) n c:=by cases ra<;>first|(cases hs;done)|exact⟨_,_,_,rfl⟩
theorem KO{a:AV}{u:Value}(hs:Cf a=true) (ra:Rel P A σ h w a u):∃p n c,u=.slice (some p) n c:=by
 cases ra with
 |data r=>exact wF hs r
 |msl=>exact⟨_,_,_,rfl⟩
 |full b=>exact wF (by simpa[Cf]using hs) b
 |tok b=>exact wF (by simpa[Cf]using hs) b
 |_=>cases hs
theorem zy{op:BinOp}{t:TypeId}{x y:Operand}{a r:AV}{u:Value}(hh:un P op t y a=some r) (ra:Rel P A σ h w a u) :
  ∃z,(do eqGuard op t x y u (.slice none 0 0);binOp op t u (.slice none 0 0):Sem Value).run P w=.ok z w/\Rel P A σ h w r z:=by
 unfold un at hh;split at hh<;>try(cases hh;done)
 rename_i g;simp only[aq]at g;have⟨⟨_,i⟩,d⟩:=g;unfold UX at d;split at d<;>try(cases d;done)
 rename_i e j;obtain⟨p,n,c,rfl⟩:=KO i ra;cases f:B7 op with
 |none=>rw[f]at hh;cases hh
 |some b=>rw[f]at hh;simp only[bf,aA]at hh;subst hh;exact⟨_,zq p n c x y j f,.data (.bool _)⟩
theorem C6{op:BinOp}{t:TypeId}{y:Operand}{a r:AV}(hh:un P op t y a=some r):y=.const (.slice none 0 0):=by
 unfold un at hh;split at hh<;>try(cases hh;done)
 rename_i b;simp only[aq]at b;have:=b.1.1;unfold Gw at this;split at this<;>first|rfl|cases this
theorem GD{op:BinOp}{t:TypeId}{x y:Operand}{a b r:AV}{u v:Value}(hh:jC P op t x y a b=some r) (ra:Rel P A σ h w a u) (rb:Rel P A σ h w b v) (hcy:y=.const (.slice none 0 0)->v=.slice none 0 0) :
  ∃z,(do eqGuard op t x y u v;binOp op t u v:Sem Value).run P w=.ok z w/\Rel P A σ h w r z:=by
 unfold jC at hh;split at hh
 ·rename_i m n j k;rw[kC j ra,kC k rb];split at hh<;>try(cases hh;done)
  rename_i z l;exact⟨z,jE _ _ l,jF hh⟩
 split at hh
 rotate_left 8
 ·rw[hcy (C6 hh)];exact zy hh ra
 all_goals
  split at hh<;>try(cases hh;done)
  rename_i c;simp only[aA]at hh;subst hh;have g:∀(id d:Nat) z,Rel P A σ h w (.ptr id d) z->∃p,z=.pointer (some p):=λid d z r=>by
   cases r with
   |data r=>cases r
   |ptr=>exact⟨_,rfl⟩
  have i:∀(e:AV) (d:Nat) z,Rel P A σ h w (.iptr e d) z->∃p,z=.pointer (some p):=λid d z r=>by
   cases r with
   |data r=>cases r;exact⟨_,rfl⟩
  have f:∀z,Rel P A σ h w .nilptr z->z=.pointer none:=λz r=>eH (a:=.nilptr) rfl r
 ·have:=f _ ra;obtain⟨p,rfl⟩:=g _ _ _ rb;subst this;exact⟨.bool false,nl _ _ x y _ (ib 9999 _ c),.data (.bool _)⟩
 ·have:=f _ ra;obtain⟨p,rfl⟩:=i _ _ _ rb;subst this;exact⟨.bool false,nl _ _ x y _ (ib 9999 _ c),.data (.bool _)⟩
 ·have:=f _ rb;obtain⟨p,rfl⟩:=g _ _ _ ra;subst this;exact⟨.bool false,nl _ _ x y _ (ia 9999 _ c),.data (.bool _)⟩
 ·have:=f _ rb;obtain⟨p,rfl⟩:=i _ _ _ ra;subst this;exact⟨.bool false,nl _ _ x y _ (ia 9999 _ c),.data (.bool _)⟩
 ·have:=f _ ra;obtain⟨p,rfl⟩:=g _ _ _ rb;subst this;exact⟨.bool true,nk _ _ x y _ (ib 9999 _ c),.data (.bool _)⟩
 ·have:=f _ ra;obtain⟨p,rfl⟩:=i _ _ _ rb;subst this;exact⟨.bool true,nk _ _ x y _ (ib 9999 _ c),.data (.bool _)⟩
 ·have:=f _ rb;obtain⟨p,rfl⟩:=g _ _ _ ra;subst this;exact⟨.bool true,nk _ _ x y _ (ia 9999 _ c),.data (.bool _)⟩
 have:=f _ rb;obtain⟨p,rfl⟩:=i _ _ _ ra;subst this;exact⟨.bool true,nk _ _ x y _ (ia 9999 _ c),.data (.bool _)⟩
theorem He{op:UnOp}{a r:AV}{u:Value}(hh:unV P op a=some r) (ra:Rel P A σ h w a u):∃z,(Op.unary op u).run P w=.ok z w/\Rel P A σ h w r z:=by
 unfold unV at hh;split at hh<;>try(cases hh;done)
 rename_i d b;rw[kC b ra];split at hh<;>try(cases hh;done)
 rename_i z c;exact⟨z,jE _ _ c,jF hh⟩
theorem Di{src dst:TypeId}{a r:AV}{u:Value}(hh:zE P src dst a=some r) (ra:Rel P A σ h w a u):∃z,(convert src dst u).run P w=.ok z w/\Rel P A σ h w r z:=by
 unfold zE at hh;split at hh<;>try(cases hh;done)
 rename_i d b;rw[kC b ra];split at hh<;>try(cases hh;done)
 rename_i z c;exact⟨z,jE _ _ c,jF hh⟩
theorem pC{id off:Nat}{v:Value}(r:Rel P A σ h w (.ptr id off) v):∃b,v=.pointer (some ⟨b,off,none⟩)/\σ[id]?=some (some b)/\∃cs st,h[id]?=some (.cells cs st):=by
 cases r with
 |data r=>cases r
 |ptr a c=>exact⟨_,rfl,a,c⟩
theorem rn{e:AV}{off:Nat}{v:Value}(r:Rel P A σ h w (.iptr e off) v):∃(b o:Nat) (f:Nat->Value),v=.pointer (some ⟨b,o+off,none⟩)/\(∀c∈e.cells,c.one=true) /\
  (∀(j:Nat) c,e.cells[j]?=some c->A b (o+j)/\w.cell? ⟨b,o+j,none⟩=some (f j))/\∀(j:Nat) c,e.cells[j]?=some c->IRel A w c (f j):=by
 cases r with
 |data r=>cases r with|iptr f h1 h2 h3=>exact⟨_,_,f,rfl,h1,h2,h3⟩
theorem jj{id off sz len:Nat}{cap:Option Nat}{v:Value}(r:Rel P A σ h w (.msl id off sz len cap) v):∃b c,v=.slice (some ⟨b,off,none⟩) len c/\σ[id]?=some (some b) /\
  (∃cs st,h[id]?=some (.cells cs st))/\0<sz/\len<=c/\c<=maxLen/\(∀n,cap=some n->c=n)/\∃vs ty fr,w.heap[b]?=some (.cells vs ty fr)/\off+c*sz<=vs.size:=by
 cases r with
 |data r=>cases r
 |msl d e f g i a j=>exact⟨_,_,rfl,d,e,f,g,i,a,j⟩
theorem lU{es:LA}{x:Ext}{v:Value}(r:Rel P A σ h w (.isl es x) v):IRel A w (.isl es .unk) v:=by
 cases r with
 |data r=>cases r with
  |islNil=>exact .islNil
  |islEmpty a b c=>exact .islEmpty a b c
  |isl f e g c i j k l=>exact .isl f e g c i j k l
 |full d=>exact d
 |tok d m=>exact d
theorem yj{A A':Nat->Nat->Prop}{w w':World}{v:Value}(r:IRel A w (.isl [] .unk) v):IRel A' w' (.isl [] .unk) v:=by
 cases r with
 |islNil=>exact .islNil
 |islEmpty a b c=>exact .islEmpty a b c
 |isl f d e c g h i j=>exact .islEmpty _ _ c
theorem mu{es:LA}{v:Value}(r:IRel A w (.isl es .unk) v):(es=[]/\∃base cap,v=.slice base 0 cap/\cap<=maxLen/\(base=none->cap=0)) \/
  ∃(sz b o cap:Nat) (f:Nat->Nat->Value),v=.slice (some ⟨b,o,none⟩) es.length cap/\0<sz/\es.length<=cap/\cap<=maxLen /\
   (∀e∈es,e.cells.length=sz/\bV e=true)/\(∀e∈es,∀c∈e.cells,c.one=true) /\
   (∀(i j:Nat) e c,es[i]?=some e->e.cells[j]?=some c->A b (o+i*sz+j)/\w.cell? ⟨b,o+i*sz+j,none⟩=some (f i j)) /\
   ∀(i j:Nat) e c,es[i]?=some e->e.cells[j]?=some c->IRel A w c (f i j):=by
 cases r with
 |islNil=>exact .inl ⟨rfl,_,_,rfl,by simp[maxLen],λ_=>rfl⟩
 |islEmpty a cap d=>exact .inl ⟨rfl,_,_,rfl,d,λe=>by cases e⟩
 |isl f g h d k l m n=>exact .inr ⟨_,_,_,_,f,rfl,g,h,d,k,l,m,n⟩
theorem ez(b o n:Nat):(⟨b,o,none⟩:Addr).add n=⟨b,o+n,none⟩:=by unfold Addr.add;split<;>simp_all
theorem I5{es:LA}{b o sz:Nat}{f:Nat->Nat->Value}(h1:∀e∈es,∀c∈e.cells,c.one=true)
  (h2:∀(i j:Nat) e c,es[i]?=some e->e.cells[j]?=some c->A b (o+i*sz+j)/\w.cell? ⟨b,o+i*sz+j,none⟩=some (f i j))
  (h3:∀(i j:Nat) e c,es[i]?=some e->e.cells[j]?=some c->IRel A w c (f i j)){i:Nat}{e:AV}(hi:es[i]?=some e) :
  IRel A w (.iptr e 0) (.pointer (some ⟨b,o+i*sz,none⟩)):=by
 have:=IRel.iptr (A:=A) (w:=w) (e:=e) (off:=0) (b:=b) (o:=o+i*sz) (f i) (h1 e (aW hi)) (λj c a=>h2 i j e c hi a) (λj c a=>h3 i j e c hi a);simpa using this
theorem wG{t:TypeId}{x i r:AV}{u v:Value}(hh:bP P t x i=some r) (ra:Rel P A σ h w x u) (rb:Rel P A σ h w i v) :
  ∃z,(Instr.indexAt t u v).run P w=.ok z w/\Rel P A σ h w r z:=by
 unfold bP at hh;split at hh<;>try(cases hh;done)
 ·rename_i g M ext k m a;split at hh<;>try(cases hh;done)
  rename_i q j;split at hh<;>try(cases hh;done)
  rename_i d;split at hh<;>try(cases hh;done)
  rename_i e F;split at hh<;>try(cases hh;done)
  rename_i y;simp only[aA]at hh;subst hh;rw[mc rb];rcases mu (lU ra)with⟨rfl,_,_,rfl,_⟩|⟨B,b,o,D,f,rfl,n,p,E,G,I,J,K⟩
  ·simp at d;omega
  have L:=G e (aW F);have s:B=q:=by rw[<-L.1,y]
  subst s;refine⟨_,?_,.data (I5 I J K F)⟩;simp[Instr.indexAt,asIntOf,bT a,d.1,d.2,ea j,ez]
 ·rename_i g id l q len D k m a;split at hh<;>try(cases hh;done)
  rename_i d;simp only[aA]at hh;subst hh;rw[mc rb];obtain⟨b,c,rfl,n,p,E,G,I,J,K⟩:=jj ra;refine⟨_,?_,.ptr n p⟩;simp[Instr.indexAt,asIntOf,bT a,d.2.1,d.2.2,ea d.1,ez]
 ·rename_i len g id l k m a;split at hh<;>try(cases hh;done)
  rename_i q j;split at hh<;>try(cases hh;done)
  rename_i d;simp only[aA]at hh;subst hh;rw[mc rb];obtain⟨b,rfl,n,p⟩:=pC ra;refine⟨_,?_,.ptr n p⟩;simp[Instr.indexAt,asIntOf,bT a,Instr.sureAddr,d.1,d.2,ea j,ez]
 rename_i len g e l k m a;split at hh<;>try(cases hh;done)
 rename_i q j;split at hh<;>try(cases hh;done)
 rename_i d;simp only[aA]at hh;subst hh;rw[mc rb];obtain⟨b,o,f,rfl,n,p,E⟩:=rn ra;refine⟨.pointer (some ⟨b,o+(l+m.toNat*q),none⟩),?_,.data (.iptr f n p E)⟩;simp[Instr.indexAt,asIntOf,bT a,Instr.sureAddr,d.1,d.2,ea j,ez,fG]
theorem wM{s:TypeId}{f o n:Nat}(hh:lF P s f=some (o,n)):∃fields fd,P.underlying s=some (.struct fields)/\fields[f]?=some fd/\cS P fd.type=some n/\fd.offset=o:=by
 unfold lF at hh;split at hh<;>try(cases hh;done)
 rename_i fields a;split at hh<;>try(cases hh;done)
 rename_i fd b;split at hh<;>try(cases hh;done)
 rename_i m c;simp only[aA,aD]at hh;exact⟨fields,fd,a,b,by rw[c,hh.2],hh.1⟩
theorem wN{t:TypeId}{x r:AV}{f:Nat}{u:Value}(hh:bH P t x f=some r) (ra:Rel P A σ h w x u) :
  ∃z,(Instr.fieldAt t u f).run P w=.ok z w/\Rel P A σ h w r z:=by
 unfold bH at hh;split at hh<;>try(cases hh;done)
 rename_i o n m;obtain⟨a,p,i,j,k,rfl⟩:=wM m;split at hh<;>try(cases hh;done)
 rename_i l;split at hh<;>try(cases hh;done)
 ·simp only[aA]at hh;subst hh;obtain⟨b,rfl,c,d⟩:=pC ra;refine⟨_,?_,.ptr c d⟩;simp[Instr.fieldAt,bT i,j,Instr.sureAddr,fieldPlace,ea k,l,ez]
 rename_i e g;simp only[aA]at hh;subst hh;obtain⟨b,o,f,rfl,c,d,q⟩:=rn ra;refine⟨.pointer (some ⟨b,o+(g+p.offset),none⟩),?_,.data (.iptr f c d q)⟩;simp[Instr.fieldAt,bT i,j,Instr.sureAddr,fieldPlace,ea k,l,ez,fG]
theorem B5{t:TypeId}{x r:AV}{f:Nat}{u:Value}(hh:FS P t x f=some r) (ra:Rel P A σ h w x u) :
  ∃z,(Instr.field t u f).run P w=.ok z w/\Rel P A σ h w r z:=by
 unfold FS at hh;split at hh<;>try(cases hh;done)
 rename_i a k b;split at hh<;>try(cases hh;done)
 rename_i l c;obtain⟨m,rfl,d,e,g⟩:=sh ra;have⟨v,i,j⟩:=vN hh e d g;exact⟨v,by simp[Instr.field,bT b,c,asAgg,i],j⟩
theorem Bu{t:TypeId}{x i r:AV}{u v:Value}(hh:sG P t x i=some r) (ra:Rel P A σ h w x u) (rb:Rel P A σ h w i v) :
  ∃z,(Instr.index t u v).run P w=.ok z w/\Rel P A σ h w r z:=by
 unfold sG at hh;split at hh<;>try(cases hh;done)
 ·rename_i p k m;split at hh<;>try(cases hh;done)
  rename_i len c e;split at hh<;>try(cases hh;done)
  rename_i q a;split at hh<;>try(cases hh;done)
  rename_i d;rw[mc rb];obtain⟨s,rfl,f,g,j⟩:=sh ra;have⟨v,l,n⟩:=vN hh g f j;exact⟨v,by simp[Instr.index,asIntOf,bT e,d.1,d.2,ea a,l],n⟩
 rename_i b k m;split at hh<;>try(cases hh;done)
 rename_i z o;rw[mc rb,xZ ra];exact⟨z,jE _ _ o,jF hh⟩
end
end Go.V
