/- A part of the proof. -/
import Derived.Test.YtclakfnjdnibeaaGreatDoorV10
import Derived.IntWalk
namespace Go.V
open Go
section
variable {P:Program}{B:Nat}{A0:Nat->Nat->Prop}{σ:List (Option Nat)}{h:H}{w:World}
theorem Gj(t:TypeId) (v:Value):(newVar t v).run P w=.ok ⟨w.heap.size,0,none⟩ (w.alloc (.cells v.cells t)):=by simp only[newVar,newRow,Sem.run_bind,run_newObj,Result.andThen_ok,Sem.run_pure,World.alloc_eq]
theorem Bu [DFlag] (hr:HRel P B A0 σ h w){cs:LA}{vs:Array Value}{t:TypeId}(hl:cs.length<=vs.size) (h1:∀c∈cs,c.one=true)
  (hrel:∀(k:Nat) c v,cs[k]?=some c->vs[k]?=some v->Rel P (Alw P B A0 σ h) σ h w c v) :
  HRel P B A0 (σ++[some w.heap.size]) (h++[.cells cs .live]) (w.alloc (.cells vs t))/\Step P B A0 σ h w (σ++[some w.heap.size]) (h++[.cells cs .live]) (w.alloc (.cells vs t)):=
 ⟨HRel.push hr (Grows.alloc _ _) _ _ (λb a=>by simp at a;omega) (λd f e=>by simp only[VObj.cells.injEq]at e;obtain⟨rfl,rfl⟩:=e;exact⟨_,vs,t,rfl,heap_alloc_new w _,hl,h1,hrel⟩) (λu g e=>by cases e),Step.push hr (Grows.alloc _ _) _ _ (λb a=>by simp at a;omega)⟩
theorem CZ [DFlag] (hr:HRel P B A0 σ h w){t:TypeId}{a:AV}{u:Value}(ra:Rel P (Alw P B A0 σ h) σ h w a u) (hn:bf a=true) :
  ∃v w',(Instr.box t u).run P w=.ok v w'/\er P B A0 σ h w (.ptr h.length 0) (h++[.cells a.cells .live]) v w':=by
 have⟨f,b,c⟩:=oh ra hn;have⟨d,e⟩:=Bu (t:=t) hr o_ b c;exact⟨.pointer (some ⟨w.heap.size,0,none⟩),_,by simp only[Instr.box,Sem.run_bind,Gj,Result.andThen_ok,Sem.run_pure],_,d,e,.ptr (by rw[<-hr.len,ar]) ⟨_,_,ar h _⟩⟩
theorem mM{t:TypeId}{a:AV}(hh:iH P t=some a):bf a=true:=by
 unfold iH at hh;split at hh<;>try(cases hh;done)
 split at hh<;>try(cases hh;done)
 split at hh<;>try(cases hh;done)
 rename_i c b;split at hh<;>try(cases hh;done)
 simp only[aA]at hh;subst hh;unfold eC at b;split at b
 ·split at b<;>try(cases b;done)
  simp only[aA]at b;subst b;rfl
 have:=wG b;cases c<;>simp_all [AV.one,bf]
theorem F7 [DFlag] (hr:HRel P B A0 σ h w){t:TypeId}{a:AV}(hz:iH P t=some a) :
  ∃v w',(Instr.alloc t true (.tuple #[])).run P w=.ok v w'/\er P B A0 σ h w (.ptr h.length 0) (h++[.cells a.cells .live]) v w':=by
 have⟨v,c,d,_⟩:=lf (A:=Alw P B A0 σ h) (σ:=σ) (h:=h) (w:=w) hz;have⟨e,w',b,f⟩:=CZ (t:=t) hr d (mM hz);refine⟨e,w',?_,f⟩;simp only[Instr.box,Sem.run_bind]at b;simp only[Instr.alloc,Sem.run_bind,c,Result.andThen_ok];exact b
theorem C3 [DFlag] (hr:HRel P B A0 σ h w) (e:TypeId):er P B A0 σ h w (.isl [] (.tok h.length)) (h++[.tok 0 e]) (.slice none 0 0) w:=
 ⟨σ++[none],HRel.push hr (.refl w) _ _ (λb a=>by simp at a) (λc d e=>by cases e) (λu f e=>by simp only[VObj.tok.injEq]at e;exact .inl ⟨rfl,e.1.symm⟩),
  Step.push hr (.refl w) _ _ (λb a=>by simp at a),.tok .islNil ⟨0,e,ar h _,aR _,λ_=>.inl ⟨rfl,by rw[<-hr.len,ar],rfl⟩⟩⟩
theorem vC(z:Array Value) (n:Nat) (hz:0<z.size) (k:Nat) (hk:k<n*z.size):((Array.range (n*z.size)).map (z[·% z.size]!))[k]?=z[k%z.size]?:=by have:k%z.size<z.size:=gq _ hz;simp[hk,this]
theorem iT{α:Type}(z:List α):∀(n k:Nat),k<n*z.length->((List.replicate n z).flatten)[k]?=z[k%z.length]?:=by
 intro n;induction n with
 |zero=>intro k c;simp at c
 |succ n d=>
  intro k c;simp only[jO,List.flatten_cons];by_cases b:k<z.length
  ·rw[aP b,Nat.mod_eq_of_lt b]
  rw[aj o_,d _ (by rw[gW]at c;omega)];rw[Nat.mod_eq_sub_mod (a:=k) o_]
theorem xS [DFlag] (hr:HRel P B A0 σ h w){wr:Bool}{t:TypeId}{l c r:AV}{h':H}{ul uc:Value}(hh:gN P wr h t l c=some (r,h')) (rl:Rel P (Alw P B A0 σ h) σ h w l ul) (rc:Rel P (Alw P B A0 σ h) σ h w c uc) :
  ∃v w',(Instr.makeSlice t ul uc).run P w=.ok v w'/\er P B A0 σ h w r h' v w':=by
 unfold gN at hh;split at hh<;>try(cases hh;done)
 rename_i d l c ht;split at hh<;>try(cases hh;done)
 rename_i sz K z f L Z;split at hh<;>try(cases hh;done)
 rename_i hg;simp only[bo,cN,beq_iff_eq,not_or,iy,decide_eq_false_iff_not,Decidable.not_not]at hg;have⟨⟨⟨q',M⟩,N⟩,q1⟩:=hg;rw[nW rl,nW rc];have⟨i,z0,J,q2,q3⟩:=nh M;have D:i.size=sz:=by simpa[cr,J]using f
 have E:i.bytes=K:=by simpa[hG,J]using L
 subst D E;have⟨v,e1,e2,i2,O,e4⟩:=lf (A:=Alw P B A0 σ h) (σ:=σ) (h:=h) (w:=w) Z;rw[J]at O;simp only[aA]at O;subst O;have⟨k1,k2,k3⟩:=oh e2 (mM Z);have Q:IntKind.i64.wrap l=l:=IntWalk.i64_in _ o_;have S:IntKind.i64.wrap c=c:=IntWalk.i64_in _ o_;have g:(i.bytes:Int)*c<=4096*1073741824:=Int.mul_le_mul o_ N.2.2 o_ o_;have F:(i.bytes:Int)*l<=4096*1073741824:=Int.mul_le_mul o_ o_ o_ o_;have run:∀(vs:Array Value),((c.toNat*i.size=0/\vs = #[])\/(c.toNat*i.size≠0/\vs=(Array.range (c.toNat*i.size)).map (v.cells[·% v.cells.size]!))) ->
   (Instr.makeSlice t (.int .i64 l) (.int .i64 c)).run P w=.ok (.slice (some ⟨w.heap.size,0,none⟩) l.toNat c.toNat) (w.alloc (.cells vs d)):=by
  intro vs j;have hT:∀q:Int,0<=q->(i.bytes:Int)*q<=4096*1073741824->(decide (q<0)||decide ((i.bytes:Int)*q>2 ^ 48))=false:=λq o h2=>by simp only[gb,decide_eq_false_iff_not];omega
  have q0:¬(c.toNat*i.bytes>roomBytes):=by
   have:((c.toNat*i.bytes:Nat):Int)=i.bytes*c:=by rw[Int.natCast_mul,Int.toNat_of_nonneg o_,Int.mul_comm]
   simp only[roomBytes];omega
  simp only[Instr.makeSlice,Sem.run_bind,bd ht,Result.andThen_ok,asInt,asIntOf,Sem.run_pure,typeInfo,run_program,J,Q,S];rw[hT c o_ g];simp only[ng,bo,decide_eq_true_eq];rw[if_neg o_];simp only[Sem.run_bind,Result.andThen_ok,run_askRoom,fQ (show cr P d=some i.size from f)];rcases j with⟨o,rfl⟩|⟨o,rfl⟩
  ·simp[o,newRow,show Array.range 0=(#[]:Array Nat)from rfl]
  simp only[if_neg o,Sem.run_bind,e1,Sem.run_pure,Result.andThen_ok,newRow,run_newObj,World.alloc_eq]
 obtain⟨vs,j,a,s⟩:∃vs:Array Value,((c.toNat*i.size=0/\vs = #[])\/(c.toNat*i.size≠0/\vs=(Array.range (c.toNat*i.size)).map (v.cells[·% v.cells.size]!)))/\vs.size=c.toNat*i.size /\
   ∀k:Nat,k<c.toNat*i.size->vs[k]?=v.cells[k%v.cells.size]?:=by
  by_cases o:c.toNat*i.size=0
  ·exact⟨#[],.inl ⟨o,rfl⟩,by simp[o],λk G=>o_⟩
  refine⟨_,.inr ⟨o,rfl⟩,s_,λk G=>?_⟩;have I:v.cells.size=i.size:=o_;have:=vC v.cells c.toNat o_ k (by rw[I];exact G);rw[I]at this ⊢;exact this
 have m:c.toNat<=maxLen:=by simp only[maxLen];omega
 split at hh
 ·rename_i U;simp only[aA,aD]at hh;obtain⟨rfl,rfl⟩:=hh;obtain⟨rfl,_⟩:=U;refine⟨_,_,run vs j,σ++[some w.heap.size],?_,Step.push hr (Grows.alloc _ _) _ _ (λb V=>by simp at V;omega),?_⟩
  ·exact HRel.push hr (Grows.alloc _ _) _ _ (λb V=>by simp at V;omega) (λcs st e=>by cases e) (λu ty e=>by simp only[VObj.tok.injEq]at e;obtain⟨rfl,rfl⟩:=e;exact .inr ⟨_,vs,i.size,c.toNat,rfl,heap_alloc_new w _,f,a,aN _,m⟩)
  refine .tok (Cw (fl:=[]) (sz:=1) ⟨s_,s_,s_,s_⟩ o_ s_ m s_) ⟨0,d,ar h _,aR _,λ_=>.inr ⟨w.heap.size,c.toNat,vs,i.size,by rw[<-hr.len,ar],s_,⟨_,heap_alloc_new w _⟩,f,a,aN _,m⟩⟩
 simp only[aA,aD]at hh;obtain⟨rfl,rfl⟩:=hh;have X:((List.replicate c.toNat z.cells).flatten).length=c.toNat*i.size:=by simp[e4]
 have⟨hR,st⟩:=Bu (cs:=(List.replicate c.toNat z.cells).flatten) (vs:=vs) (t:=d) hr o_ (λx p=>by
   have⟨l,hl,p⟩:=List.mem_flatten.1 p;rw[(pX.1 hl).2]at p;exact k2 x p) (λk x y p Y=>by
   have G:k<c.toNat*i.size:=by rw[<-X];exact(aB.1 p).1
   rw[iT z.cells c.toNat k (by rw[e4];exact G)]at p;rw[s k G]at Y;rw[k1]at Y;exact k3 _ x y p Y)
 exact⟨_,_,run vs j,_,hR,st,.msl (by rw[<-hr.len,ar]) ⟨_,_,ar h _⟩ o_ o_ m (λn hn=>by simpa using hn) ⟨_,_,_,heap_alloc_new w _,by rw[a];omega⟩⟩
theorem Ck [DFlag] (hr:HRel P B A0 σ h w){t:TypeId}{a x:AV}{h':H}{u v:Value}(hh:cL P h t a x=some h') (ra:Rel P (Alw P B A0 σ h) σ h w a u) (rx:Rel P (Alw P B A0 σ h) σ h w x v) :
  ∃w',(Instr.storeAt t u v).run P w=.ok () w'/\HRel P B A0 σ h' w'/\Step P B A0 σ h w σ h' w':=by
 unfold cL at hh;split at hh<;>try(cases hh;done)
 rename_i id d;split at hh<;>try(cases hh;done)
 rename_i l n m X;obtain⟨b,rfl,G,_⟩:=pv ra;have⟨b',o,Y,I,k2,J,k4,O,Z⟩:=hr.cells id l _ m s_;rw[G]at I;simp only[aA]at I;subst I;have Q:∀(s:LA),x.cells=s->bf x=true->s.length=n->d+n<=l.length->∀f,f=l.take d++s++l.drop (d+n) ->
   ∃w',(Instr.storeAt t (.pointer (some ⟨b,d,none⟩)) v).run P w=.ok () w'/\HRel P B A0 σ (h.set id (.cells f .live)) w'/\Step P B A0 σ h w σ (h.set id (.cells f .live)) w':=by
  intro s K p A S f D;subst K;have⟨e1,U,V⟩:=oh rx p;have z:v.cells.toList.length=n:=by simp;omega
  have E:=run_storeCells_at P b d Y v.cells.toList 0 o w J (by rw[z];omega) (λy g=>by obtain⟨j,hj,rfl⟩:=bg g;have e:x.cells[j]?=some (x.cells[j]' o_):=aC _;exact zF (V j _ _ e (by rw[<-bM];exact aC hj)) (U _ (aF _)))
  simp only[df,z]at E;subst D;have q:d+x.cells.length<=l.length:=o_;have r:d+v.cells.toList.length<=o.toList.length:=by rw[z];simp;omega
  have i:(o.toList.take d++v.cells.toList++o.toList.drop (d+n)).toArray.size=o.size:=by simp only[eX,aL,ag,dJ,dR];simp at z;omega
  refine⟨_,?_,HRel.write hr m G J i (by simp only[aL,ag,dJ];omega) (λc e=>?_) (λk c y e g=>?_),Step.write hr m G J i⟩
  ·simp only[Instr.storeAt,Instr.sureAddr,Sem.run_bind,Sem.run_pure,Result.andThen_ok,storeVar,fQ X];rw[if_neg (by simp;omega)];exact E
  ·simp only[ac]at e;rcases e with(e|e)|e
   ·exact O c (bW e)
   ·exact U c e
   exact O c (dE e)
  rw[<-A,eU _ _ _ q]at e;rw[dB,<-z,eU _ _ _ r]at g;rw[z]at g;rw[A]at e;split at e
  ·rename_i L;rw[if_pos L,bM]at g;exact V _ c y e g
  rename_i L;rw[if_neg L,bM]at g;exact Z k c y e g
 split at hh<;>try(cases hh;done)
 ·rename_i s;split at hh<;>try(cases hh;done)
  rename_i F;simp only[aA]at hh;subst hh;exact Q s rfl rfl F.1 F.2 _ rfl
 rename_i nt na;split at hh<;>try(cases hh;done)
 rename_i F;simp only[aA]at hh;subst hh;have M:x.cells=[x]:=by
  cases x with
  |agg l=>exact absurd rfl (na l)
  |_=>rfl
 have p:bf x=true:=by
  cases x with
  |tuple o=>exact absurd rfl (nt o)
  |_=>rfl
 obtain⟨rfl,N⟩:=F;exact Q [x] M p rfl o_ _ (by rw[List.set_eq_take_append_cons_drop,if_pos N];simp)
end
end Go.V
