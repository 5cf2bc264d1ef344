/- A part of the proof. -/
import Derived.Test.YtclakfnjdnibeaaGreatDoorV3
namespace Go.V
open Go
section
variable {P:Program}{A:Nat->Nat->Prop}{σ:List (Option Nat)}{h:H}{w:World}
theorem Gb{t:TypeId}{n:Nat}(hh:cr P t=some n):∃i,P.info? t=some i/\i.size=n:=by
 unfold cr at hh;cases a:P.info? t with
 |none=>simp[a]at hh
 |some i=>exact⟨i,rfl,by simpa[a]using hh⟩
theorem fQ{t:TypeId}{n:Nat}(hh:cr P t=some n):(sizeOf t).run P w=.ok n w:=by obtain⟨i,a,rfl⟩:=Gb hh;simp[sizeOf,typeInfo,a]
theorem bd{t:TypeId}{d:TypeDesc}(hh:P.underlying t=some d):(underlying t).run P w=.ok d w:=by simp[underlying,hh]
theorem uE{t:TypeId}{b:Bool}(hh:fJ P t=some b):(isAgg t).run P w=.ok b w:=by
 unfold fJ at hh;split at hh<;>try(cases hh;done)
 ·rename_i a;cases hh;simp[isAgg,bd a]
 ·rename_i a;cases hh;simp[isAgg,bd a]
 rename_i d c e a;cases hh;simp only[isAgg,Sem.run_bind,bd a,Result.andThen_ok];cases d<;>first|rfl|exact absurd rfl (c _)|exact absurd rfl (e _ _)
theorem jo(l:LA) (off n i:Nat):((l.drop off).take n)[i]?=if i<n then l[off+i]? else none:=by rw[cS];split<;>simp
theorem wg{t:TypeId}{cs:LA}{off:Nat}{r:AV}{vs:Array Value}(hh:aZ P t cs off=some r) (h1:∀c∈cs,c.one=true) (hl:vs.size=cs.length)
  (hr:∀(i:Nat) a v,cs[i]?=some a->vs[i]?=some v->Rel P A σ h w a v):∃v,(part t vs off).run P w=.ok v w/\Rel P A σ h w r v:=by
 unfold aZ at hh;split at hh<;>try(cases hh;done)
 ·rename_i n e f;split at hh<;>try(cases hh;done)
  rename_i k;simp only[aA]at hh;subst hh;refine⟨.agg (vs.extract off (off+n)),by simp[part,uE e,fQ f],.agg (λc g=>h1 c (dE (bW g))) ?_ (λi a v d b=>?_)⟩
  ·simp;omega
  rw[jo]at d;split at d
  ·refine hr (off+i) a v d ?_;rw[Array.getElem?_extract]at b;split at b<;>simp_all
  cases d
 rename_i n e f;have j:off<cs.length:=by
  rcases iv off cs.length with h|h
  ·exact h
  rw[cK h]at hh;cases hh
 have b:vs[off]?=some (vs[off]' o_):=aT _;exact⟨_,by simp[part,uE e,b],hr off r _ hh b⟩
theorem jL(d:Nat){t e:TypeId}(b:Option Addr) (hu:P.underlying t=some (.pointer e)) :
  (Op.equalIn (d+1) t (.pointer none) (.pointer b)).run P w=.ok b.isNone w:=by
 simp only[Op.equalIn,Sem.run_bind,bd hu,Result.andThen_ok];rfl
theorem jK(d:Nat){t e:TypeId}(a:Addr) (hu:P.underlying t=some (.pointer e)) :
  (Op.equalIn (d+1) t (.pointer (some a)) (.pointer none)).run P w=.ok false w:=by
 simp only[Op.equalIn,Sem.run_bind,bd hu,Result.andThen_ok];rfl
theorem oX{t:TypeId}(a b:Option Addr) (x y:Operand) (r:Bool) (h1:(Op.equalIn (9999+1) t (.pointer a) (.pointer b)).run P w=.ok r w) :
  (do eqGuard .eql t x y (.pointer a) (.pointer b);binOp .eql t (.pointer a) (.pointer b):Sem Value).run P w=.ok (.bool r) w:=by
 have:Op.equal t (.pointer a) (.pointer b)=Op.equalIn (9999+1) t (.pointer a) (.pointer b):=rfl;simp only[eqGuard,binOp,this,Sem.run_bind,Sem.run_pure,ite_self,Result.andThen_ok,h1]
theorem oW{t:TypeId}(a b:Option Addr) (x y:Operand) (r:Bool) (h1:(Op.equalIn (9999+1) t (.pointer a) (.pointer b)).run P w=.ok r w) :
  (do eqGuard .neq t x y (.pointer a) (.pointer b);binOp .neq t (.pointer a) (.pointer b):Sem Value).run P w=.ok (.bool !r) w:=by
 have:Op.equal t (.pointer a) (.pointer b)=Op.equalIn (9999+1) t (.pointer a) (.pointer b):=rfl;simp only[eqGuard,binOp,this,Sem.run_bind,Sem.run_pure,ite_self,Result.andThen_ok,h1]
theorem AB{t:TypeId}(a:Addr) (n c:Nat) (x y:Operand) (r:Bool) (h1:(Op.equalIn (9999+1) t (.slice (some a) n c) (.slice none 0 0)).run P w=.ok r w) :
  (do eqGuard .eql t x y (.slice (some a) n c) (.slice none 0 0);binOp .eql t (.slice (some a) n c) (.slice none 0 0):Sem Value).run P w=.ok (.bool r) w:=by
 have:Op.equal t (.slice (some a) n c) (.slice none 0 0)=Op.equalIn (9999+1) t (.slice (some a) n c) (.slice none 0 0):=rfl;simp only[eqGuard,binOp,this,Sem.run_bind,Sem.run_pure,ite_self,Result.andThen_ok,h1]
theorem AA{t:TypeId}(a:Addr) (n c:Nat) (x y:Operand) (r:Bool) (h1:(Op.equalIn (9999+1) t (.slice (some a) n c) (.slice none 0 0)).run P w=.ok r w) :
  (do eqGuard .neq t x y (.slice (some a) n c) (.slice none 0 0);binOp .neq t (.slice (some a) n c) (.slice none 0 0):Sem Value).run P w=.ok (.bool !r) w:=by
 have:Op.equal t (.slice (some a) n c) (.slice none 0 0)=Op.equalIn (9999+1) t (.slice (some a) n c) (.slice none 0 0):=rfl;simp only[eqGuard,binOp,this,Sem.run_bind,Sem.run_pure,ite_self,Result.andThen_ok,h1]
theorem kF(d:Nat){t e:TypeId}(a:Addr) (n c:Nat) (hu:P.underlying t=some (.slice e)) :
  (Op.equalIn (d+1) t (.slice (some a) n c) (.slice none 0 0)).run P w=.ok false w:=by
 simp only[Op.equalIn,Sem.run_bind,bd hu,Result.andThen_ok];rfl
theorem BE{t e:TypeId}(a:Addr) (n c:Nat) (x y:Operand) (hu:P.underlying t=some (.slice e)){op:BinOp}{b:Bool}(ho:xi op=some b) :
  (do eqGuard op t x y (.slice (some a) n c) (.slice none 0 0);binOp op t (.slice (some a) n c) (.slice none 0 0):Sem Value).run P w=.ok (.bool b) w:=by
 unfold xi at ho;split at ho<;>try(cases ho;done)
 ·cases ho;exact AB a n c x y false (kF 9999 a n c hu)
 cases ho;exact AA a n c x y false (kF 9999 a n c hu)
theorem xZ{a:AV}{u:Value}(hs:zj a=true) (ra:IRel A w a u):∃p n c,u=.slice (some p) n c:=by cases ra<;>first|(cases hs;done)|exact⟨_,_,_,rfl⟩
theorem Mv{a:AV}{u:Value}(hs:zj a=true) (ra:Rel P A σ h w a u):∃p n c,u=.slice (some p) n c:=by
 cases ra with
 |data r=>exact xZ hs r
 |msl=>exact⟨_,_,_,rfl⟩
 |full b=>exact xZ (by simpa[zj]using hs) b
 |tok b=>exact xZ (by simpa[zj]using hs) b
 |_=>cases hs
theorem BH{op:BinOp}{t:TypeId}{x y:Operand}{a r:AV}{u:Value}(hh:rR P op t y a=some r) (ra:Rel P A σ h w a u) :
  ∃z,(do eqGuard op t x y u (.slice none 0 0);binOp op t u (.slice none 0 0):Sem Value).run P w=.ok z w/\Rel P A σ h w r z:=by
 unfold rR at hh;split at hh<;>try(cases hh;done)
 rename_i g;simp only[am]at g;have⟨⟨_,i⟩,d⟩:=g;unfold Q4 at d;split at d<;>try(cases d;done)
 rename_i e j;obtain⟨p,n,c,rfl⟩:=Mv i ra;cases f:xi op with
 |none=>rw[f]at hh;cases hh
 |some b=>rw[f]at hh;simp only[bq,aA]at hh;subst hh;exact⟨_,BE p n c x y j f,.data (.bool _)⟩
theorem Eb{op:BinOp}{t:TypeId}{y:Operand}{a r:AV}(hh:rR P op t y a=some r):y=.const (.slice none 0 0):=by
 unfold rR at hh;split at hh<;>try(cases hh;done)
 rename_i b;simp only[am]at b;have:=b.1.1;unfold CH at this;split at this<;>first|rfl|cases this
theorem ID{op:BinOp}{t:TypeId}{x y:Operand}{a b r:AV}{u v:Value}(hh:iN P op t x y a b=some r) (ra:Rel P A σ h w a u) (rb:Rel P A σ h w b v) (hcy:y=.const (.slice none 0 0)->v=.slice none 0 0) :
  ∃z,(do eqGuard op t x y u v;binOp op t u v:Sem Value).run P w=.ok z w/\Rel P A σ h w r z:=by
 unfold iN at hh;split at hh
 ·rename_i m n j k;rw[km j ra,km k rb];split at hh<;>try(cases hh;done)
  rename_i z l;exact⟨z,jf _ _ l,jg hh⟩
 split at hh
 rotate_left 8
 ·rw[hcy (Eb hh)];exact BH hh ra
 all_goals
  split at hh<;>try(cases hh;done)
  rename_i c;simp only[aA]at hh;subst hh;have g:∀(id d:Nat) z,Rel P A σ h w (.ptr id d) z->∃p,z=.pointer (some p):=λid d z r=>by
   cases r with
   |data r=>cases r
   |ptr=>exact⟨_,rfl⟩
  have i:∀(e:AV) (d:Nat) z,Rel P A σ h w (.iptr e d) z->∃p,z=.pointer (some p):=λid d z r=>by
   cases r with
   |data r=>cases r;exact⟨_,rfl⟩
  have f:∀z,Rel P A σ h w .nilptr z->z=.pointer none:=λz r=>el (a:=.nilptr) rfl r
 ·have:=f _ ra;obtain⟨p,rfl⟩:=g _ _ _ rb;subst this;exact⟨.bool false,oX _ _ x y _ (jL 9999 _ c),.data (.bool _)⟩
 ·have:=f _ ra;obtain⟨p,rfl⟩:=i _ _ _ rb;subst this;exact⟨.bool false,oX _ _ x y _ (jL 9999 _ c),.data (.bool _)⟩
 ·have:=f _ rb;obtain⟨p,rfl⟩:=g _ _ _ ra;subst this;exact⟨.bool false,oX _ _ x y _ (jK 9999 _ c),.data (.bool _)⟩
 ·have:=f _ rb;obtain⟨p,rfl⟩:=i _ _ _ ra;subst this;exact⟨.bool false,oX _ _ x y _ (jK 9999 _ c),.data (.bool _)⟩
 ·have:=f _ ra;obtain⟨p,rfl⟩:=g _ _ _ rb;subst this;exact⟨.bool true,oW _ _ x y _ (jL 9999 _ c),.data (.bool _)⟩
 ·have:=f _ ra;obtain⟨p,rfl⟩:=i _ _ _ rb;subst this;exact⟨.bool true,oW _ _ x y _ (jL 9999 _ c),.data (.bool _)⟩
 ·have:=f _ rb;obtain⟨p,rfl⟩:=g _ _ _ ra;subst this;exact⟨.bool true,oW _ _ x y _ (jK 9999 _ c),.data (.bool _)⟩
 have:=f _ rb;obtain⟨p,rfl⟩:=i _ _ _ ra;subst this;exact⟨.bool true,oW _ _ x y _ (jK 9999 _ c),.data (.bool _)⟩
theorem Jl{op:UnOp}{a r:AV}{u:Value}(hh:unV P op a=some r) (ra:Rel P A σ h w a u):∃z,(Op.unary op u).run P w=.ok z w/\Rel P A σ h w r z:=by
 unfold unV at hh;split at hh<;>try(cases hh;done)
 rename_i d b;rw[km b ra];split at hh<;>try(cases hh;done)
 rename_i z c;exact⟨z,jf _ _ c,jg hh⟩
theorem FJ{src dst:TypeId}{a r:AV}{u:Value}(hh:Ai P src dst a=some r) (ra:Rel P A σ h w a u):∃z,(convert src dst u).run P w=.ok z w/\Rel P A σ h w r z:=by
 unfold Ai at hh;split at hh<;>try(cases hh;done)
 rename_i d b;rw[km b ra];split at hh<;>try(cases hh;done)
 rename_i z c;exact⟨z,jf _ _ c,jg hh⟩
theorem pv{id off:Nat}{v:Value}(r:Rel P A σ h w (.ptr id off) v):∃b,v=.pointer (some ⟨b,off,none⟩)/\σ[id]?=some (some b)/\∃cs st,h[id]?=some (.cells cs st):=by
 cases r with
 |data r=>cases r
 |ptr a c=>exact⟨_,rfl,a,c⟩
theorem sx{e:AV}{off:Nat}{v:Value}(r:Rel P A σ h w (.iptr e off) v):∃(b o:Nat) (f:Nat->Value),v=.pointer (some ⟨b,o+off,none⟩)/\(∀c∈e.cells,c.one=true) /\
  (∀(j:Nat) c,e.cells[j]?=some c->A b (o+j)/\w.cell? ⟨b,o+j,none⟩=some (f j))/\∀(j:Nat) c,e.cells[j]?=some c->IRel A w c (f j):=by
 cases r with
 |data r=>cases r with|iptr f h1 h2 h3=>exact⟨_,_,f,rfl,h1,h2,h3⟩
theorem kL{id off sz len:Nat}{cap:Option Nat}{v:Value}(r:Rel P A σ h w (.msl id off sz len cap) v):∃b c,v=.slice (some ⟨b,off,none⟩) len c/\σ[id]?=some (some b) /\
  (∃cs st,h[id]?=some (.cells cs st))/\0<sz/\len<=c/\c<=maxLen/\(∀n,cap=some n->c=n)/\∃vs ty fr,w.heap[b]?=some (.cells vs ty fr)/\off+c*sz<=vs.size:=by
 cases r with
 |data r=>cases r
 |msl d e f g i a j=>exact⟨_,_,rfl,d,e,f,g,i,a,j⟩
theorem mT{es:LA}{x:Ext}{v:Value}(r:Rel P A σ h w (.isl es x) v):IRel A w (.isl es .unk) v:=by
 cases r with
 |data r=>cases r with
  |islNil=>exact .islNil
  |islEmpty a b c=>exact .islEmpty a b c
  |isl f e g c i j k l=>exact .isl f e g c i j k l
 |full d=>exact d
 |tok d m=>exact d
theorem AR{A A':Nat->Nat->Prop}{w w':World}{v:Value}(r:IRel A w (.isl [] .unk) v):IRel A' w' (.isl [] .unk) v:=by
 cases r with
 |islNil=>exact .islNil
 |islEmpty a b c=>exact .islEmpty a b c
 |isl f d e c g h i j=>exact .islEmpty _ _ c
theorem nw{es:LA}{v:Value}(r:IRel A w (.isl es .unk) v):(es=[]/\∃base cap,v=.slice base 0 cap/\cap<=maxLen/\(base=none->cap=0)) \/
  ∃(sz b o cap:Nat) (f:Nat->Nat->Value),v=.slice (some ⟨b,o,none⟩) es.length cap/\0<sz/\es.length<=cap/\cap<=maxLen /\
   (∀e∈es,e.cells.length=sz/\bf e=true)/\(∀e∈es,∀c∈e.cells,c.one=true) /\
   (∀(i j:Nat) e c,es[i]?=some e->e.cells[j]?=some c->A b (o+i*sz+j)/\w.cell? ⟨b,o+i*sz+j,none⟩=some (f i j)) /\
   ∀(i j:Nat) e c,es[i]?=some e->e.cells[j]?=some c->IRel A w c (f i j):=by
 cases r with
 |islNil=>exact .inl ⟨rfl,_,_,rfl,by simp[maxLen],λ_=>rfl⟩
 |islEmpty a cap d=>exact .inl ⟨rfl,_,_,rfl,d,λe=>by cases e⟩
 |isl f g h d k l m n=>exact .inr ⟨_,_,_,_,f,rfl,g,h,d,k,l,m,n⟩
theorem fV(b o n:Nat):(⟨b,o,none⟩:Addr).add n=⟨b,o+n,none⟩:=by unfold Addr.add;split<;>simp_all
theorem LB{es:LA}{b o sz:Nat}{f:Nat->Nat->Value}(h1:∀e∈es,∀c∈e.cells,c.one=true)
  (h2:∀(i j:Nat) e c,es[i]?=some e->e.cells[j]?=some c->A b (o+i*sz+j)/\w.cell? ⟨b,o+i*sz+j,none⟩=some (f i j))
  (h3:∀(i j:Nat) e c,es[i]?=some e->e.cells[j]?=some c->IRel A w c (f i j)){i:Nat}{e:AV}(hi:es[i]?=some e) :
  IRel A w (.iptr e 0) (.pointer (some ⟨b,o+i*sz,none⟩)):=by
 have:=IRel.iptr (A:=A) (w:=w) (e:=e) (off:=0) (b:=b) (o:=o+i*sz) (f i) (h1 e (ai hi)) (λj c a=>h2 i j e c hi a) (λj c a=>h3 i j e c hi a);simpa using this
theorem xa{t:TypeId}{x i r:AV}{u v:Value}(hh:bH P t x i=some r) (ra:Rel P A σ h w x u) (rb:Rel P A σ h w i v) :
  ∃z,(Instr.indexAt t u v).run P w=.ok z w/\Rel P A σ h w r z:=by
 unfold bH at hh;split at hh<;>try(cases hh;done)
 ·rename_i g M ext k m a;split at hh<;>try(cases hh;done)
  rename_i q j;split at hh<;>try(cases hh;done)
  rename_i d;split at hh<;>try(cases hh;done)
  rename_i e F;split at hh<;>try(cases hh;done)
  rename_i y;simp only[aA]at hh;subst hh;rw[nW rb];rcases nw (mT ra)with⟨rfl,_,_,rfl,_⟩|⟨B,b,o,D,f,rfl,n,p,E,G,I,J,K⟩
  ·simp at d;omega
  have L:=G e (ai F);have s:B=q:=by rw[<-L.1,y]
  subst s;refine⟨_,?_,.data (LB I J K F)⟩;simp[Instr.indexAt,asIntOf,bd a,d.1,d.2,fQ j,fV]
 ·rename_i g id l q len D k m a;split at hh<;>try(cases hh;done)
  rename_i d;simp only[aA]at hh;subst hh;rw[nW rb];obtain⟨b,c,rfl,n,p,E,G,I,J,K⟩:=kL ra;refine⟨_,?_,.ptr n p⟩;simp[Instr.indexAt,asIntOf,bd a,d.2.1,d.2.2,fQ d.1,fV]
 ·rename_i len g id l k m a;split at hh<;>try(cases hh;done)
  rename_i q j;split at hh<;>try(cases hh;done)
  rename_i d;simp only[aA]at hh;subst hh;rw[nW rb];obtain⟨b,rfl,n,p⟩:=pv ra;refine⟨_,?_,.ptr n p⟩;simp[Instr.indexAt,asIntOf,bd a,Instr.sureAddr,d.1,d.2,fQ j,fV]
 rename_i len g e l k m a;split at hh<;>try(cases hh;done)
 rename_i q j;split at hh<;>try(cases hh;done)
 rename_i d;simp only[aA]at hh;subst hh;rw[nW rb];obtain⟨b,o,f,rfl,n,p,E⟩:=sx ra;refine⟨.pointer (some ⟨b,o+(l+m.toNat*q),none⟩),?_,.data (.iptr f n p E)⟩;simp[Instr.indexAt,asIntOf,bd a,Instr.sureAddr,d.1,d.2,fQ j,fV,fe]
theorem xg{s:TypeId}{f o n:Nat}(hh:mK P s f=some (o,n)):∃fields fd,P.underlying s=some (.struct fields)/\fields[f]?=some fd/\cr P fd.type=some n/\fd.offset=o:=by
 unfold mK at hh;split at hh<;>try(cases hh;done)
 rename_i fields a;split at hh<;>try(cases hh;done)
 rename_i fd b;split at hh<;>try(cases hh;done)
 rename_i m c;simp only[aA,aD]at hh;exact⟨fields,fd,a,b,by rw[c,hh.2],hh.1⟩
theorem xh{t:TypeId}{x r:AV}{f:Nat}{u:Value}(hh:bF P t x f=some r) (ra:Rel P A σ h w x u) :
  ∃z,(Instr.fieldAt t u f).run P w=.ok z w/\Rel P A σ h w r z:=by
 unfold bF at hh;split at hh<;>try(cases hh;done)
 rename_i o n m;obtain⟨a,p,i,j,k,rfl⟩:=xg m;split at hh<;>try(cases hh;done)
 rename_i l;split at hh<;>try(cases hh;done)
 ·simp only[aA]at hh;subst hh;obtain⟨b,rfl,c,d⟩:=pv ra;refine⟨_,?_,.ptr c d⟩;simp[Instr.fieldAt,bd i,j,Instr.sureAddr,fieldPlace,fQ k,l,fV]
 rename_i e g;simp only[aA]at hh;subst hh;obtain⟨b,o,f,rfl,c,d,q⟩:=sx ra;refine⟨.pointer (some ⟨b,o+(g+p.offset),none⟩),?_,.data (.iptr f c d q)⟩;simp[Instr.fieldAt,bd i,j,Instr.sureAddr,fieldPlace,fQ k,l,fV,fe]
theorem DS{t:TypeId}{x r:AV}{f:Nat}{u:Value}(hh:Ab P t x f=some r) (ra:Rel P A σ h w x u) :
  ∃z,(Instr.field t u f).run P w=.ok z w/\Rel P A σ h w r z:=by
 unfold Ab at hh;split at hh<;>try(cases hh;done)
 rename_i a k b;split at hh<;>try(cases hh;done)
 rename_i l c;obtain⟨m,rfl,d,e,g⟩:=uH ra;have⟨v,i,j⟩:=wg hh e d g;exact⟨v,by simp[Instr.field,bd b,c,asAgg,i],j⟩
theorem DI{t:TypeId}{x i r:AV}{u v:Value}(hh:tR P t x i=some r) (ra:Rel P A σ h w x u) (rb:Rel P A σ h w i v) :
  ∃z,(Instr.index t u v).run P w=.ok z w/\Rel P A σ h w r z:=by
 unfold tR at hh;split at hh<;>try(cases hh;done)
 ·rename_i p k m;split at hh<;>try(cases hh;done)
  rename_i len c e;split at hh<;>try(cases hh;done)
  rename_i q a;split at hh<;>try(cases hh;done)
  rename_i d;rw[nW rb];obtain⟨s,rfl,f,g,j⟩:=uH ra;have⟨v,l,n⟩:=wg hh g f j;exact⟨v,by simp[Instr.index,asIntOf,bd e,d.1,d.2,fQ a,l],n⟩
 rename_i b k m;split at hh<;>try(cases hh;done)
 rename_i z o;rw[nW rb,zE ra];exact⟨z,jf _ _ o,jg hh⟩
end
end Go.V
