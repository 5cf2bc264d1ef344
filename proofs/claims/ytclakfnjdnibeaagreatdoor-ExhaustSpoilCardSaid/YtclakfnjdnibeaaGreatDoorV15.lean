/- A part of the proof. -/
import Derived.Test.YtclakfnjdnibeaaGreatDoorV14
set_option maxHeartbeats 1000000
namespace Go.V
open Go
theorem Fy(F:Array Nat->Oper->Nat):∀(l:List Oper) (acc:Array Nat),(l.foldl (λacc o=>acc.push (F acc o)) acc).size=acc.size+l.length /\
  (∀m,m<acc.size->(l.foldl (λacc o=>acc.push (F acc o)) acc)[m]?=acc[m]?) /\
  ∀(j:Nat) o,l[j]?=some o->∃accj:Array Nat,accj.size=acc.size+j/\(∀m,m<accj.size->(l.foldl (λacc o=>acc.push (F acc o)) acc)[m]?=accj[m]?)/\(l.foldl (λacc o=>acc.push (F acc o)) acc)[acc.size+j]?=some (F accj o):=by
 intro l;induction l with
 |nil=>intro acc;simp
 |cons x l d=>
  intro acc;have⟨e,c,f⟩:=d (acc.push (F acc x));simp only[gG];refine⟨by rw[e];simp;omega,λm a=>?_,λj o b=>?_⟩
  ·rw[c m (by simp;omega),ml a];simp[a]
  cases j with
  |zero=>
   simp only[be,aA]at b;subst b;refine⟨acc,s_,λm a=>?_,?_⟩
   ·rw[c m (by simp;omega),ml a];simp[a]
   rw[df,c _ s_];simp
  |succ j=>simp only[dH]at b;have⟨accj,g,h,i⟩:=f j o b;refine⟨accj,by rw[g];simp;omega,h,?_⟩;rw[<-i];congr 1;simp;omega
theorem Ha(acc:Array Nat) (i:Nat):∀(l:List Edge) (s:Nat),(l.foldl (λs e=>if Region.binds .any e then s ||| 2 ^ e.on ||| acc.getD e.on 0 else s) s).testBit i=true ->
  s.testBit i=true\/∃e∈l,Region.binds .any e=true/\(i=e.on\/(acc.getD e.on 0).testBit i=true):=by
 intro l;induction l with
 |nil=>intro s h;exact .inl h
 |cons e l b=>
  intro s h;simp only[gG]at h;rcases b _ h with h|⟨c,d,a,f⟩
  ·split at h
   ·rename_i a;simp only[Nat.testBit_or,bo,Nat.testBit_two_pow,decide_eq_true_eq]at h;rcases h with(h|h)|h
    ·exact .inl h
    ·exact .inr ⟨e,s_,a,.inl h.symm⟩
    exact .inr ⟨e,s_,a,.inr h⟩
   exact .inl h
  exact .inr ⟨c,by simp[d],a,f⟩
theorem Fx(ops:Array Oper) (j:Nat) (o:Oper) (ho:ops[j]?=some o) (i:Nat) (h:((Region.before ops).getD j 0).testBit i=true) :
  ∃e∈o.after,Region.binds .any e=true/\(i=e.on\/(e.on<j/\((Region.before ops).getD e.on 0).testBit i=true)):=by
 have l:Region.before ops=ops.toList.foldl (λa o=>a.push (o.after.foldl (λs e=>if Region.binds .any e then s ||| 2 ^ e.on ||| a.getD e.on 0 else s) 0)) #[]:=by simp only[Region.before,jy]
 have⟨_,_,m⟩:=Fy (λa o=>o.after.foldl (λs e=>if Region.binds .any e then s ||| 2 ^ e.on ||| a.getD e.on 0 else s) 0) ops.toList #[];have⟨b,n,k,d⟩:=m j o (by simpa using ho);simp only[eX,aQ,cH]at n d;rw[<-l]at k d;rw[bA,d]at h;simp only[nT]at h;rw[<-jy]at h;rcases Ha b i _ _ h with h|⟨e,p,f,c⟩
 ·simp at h
 refine⟨e,by simpa using p,f,?_⟩;rcases c with c|c
 ·exact .inl c
 right;by_cases g:e.on<b.size
 ·refine⟨o_,?_⟩;rw[bA,k _ g,<-bA];exact c
 rw[bA,fq o_]at c;simp at c
theorem jF{ops:Array Oper}{W:Nat->Bool}(hc:∀j o,ops[j]?=some o->W j=true->∀e∈o.after,Region.binds .any e=true->W e.on=true) :
  ∀(j:Nat) (o:Oper),ops[j]?=some o->(∀e∈o.after,Region.binds .any e=true->W e.on=true)->∀i,((Region.before ops).getD j 0).testBit i=true->W i=true:=by
 intro j;induction j using Nat.strongRecOn with
 |ind j m=>
  intro o h n i p;have⟨e,b,c,q⟩:=Fx ops j o h i p;have k:=n e b c;rcases q with rfl|⟨d,r⟩
  ·exact k
  cases a:ops[e.on]? with
  |none=>have:j<ops.size:=(aO.1 h).1;rw[Array.getElem?_eq_none_iff]at a;omega
  |some l=>exact m e.on d l a (λs f g=>hc e.on l a k s f g) i r
theorem rP{C:Cfg}{ops:Array Oper}(h:wE C ops=true){j:Nat}{y:Oper}(hy:ops[j]?=some y) :
  (∀e∈y.after,Region.binds .any e=true->e.on<j)/\∀i x,i<j->ops[i]?=some x->clash C ops x y=true->((Region.before ops).getD j 0).testBit i=true:=by
 simp only[wE,bI,eL]at h;have a:j<ops.size:=(aO.1 hy).1;have:=h j a;rw[hy]at this;simp only[am,bI,eL]at this;refine⟨λe b c=>?_,λi x d f g=>?_⟩
 ·have:=this.1;simp only[wU,eY,bo,cN,decide_eq_true_eq]at this;rcases this e b with h|h
  ·rw[c]at h;cases h
  exact h
 have:=this.2 i d;rw[f]at this;simp only[bo,cN]at this;rcases this with h|h
 ·rw[g]at h;cases h
 exact h
def sel(ops:Array Oper) (val:Nat->AV) (s0:PT) (W:Nat->Bool):Nat->PT
 |0=>s0
 |m+1=>if W m then jB (sel ops val s0 W m) ((ops[m]?).bind (·.dst)) (val m)else sel ops val s0 W m
section
variable {ops:Array Oper}{val:Nat->AV}{s0:PT}
theorem lL(s:PT) (d:Option Tmp) (v:AV) (t:Tmp):(jB s d v).get t=if d=some t then v else s.get t:=by
 cases d with
 |none=>simp[jB]
 |some u=>
  simp only[jB,PT.get_set,aA];by_cases e:t=u
  ·simp[e]
  rw[if_neg e,if_neg (λk=>e k.symm)]
theorem ko{W W':Nat->Bool}{t:Tmp}:∀m,(∀i,i<m->(ops[i]?).bind (·.dst)=some t->W i=W' i)->(sel ops val s0 W m).get t=(sel ops val s0 W' m).get t:=by
 intro m;induction m with
 |zero=>intro _;rfl
 |succ m d=>
  intro h;have:=d (λi e=>h i o_);simp only[sel];by_cases a:(ops[m]?).bind (·.dst)=some t
  ·rw[h m o_ a];split
   ·rw[lL,lL,if_pos a,if_pos a]
   exact this
  have c:∀b:Bool,∀s,(if b then jB s ((ops[m]?).bind (·.dst)) (val m)else s).get t=s.get t:=λb s=>by
   cases b
   ·rfl
   simp only[if_true];rw[lL,if_neg a]
  rw[c,c];exact this
theorem qg{W:Nat->Bool}{t:Tmp}{m:Nat}:∀M,m<=M->(∀i,m<=i->i<M->(ops[i]?).bind (·.dst)=some t->W i=false)->(sel ops val s0 W M).get t=(sel ops val s0 W m).get t:=by
 intro M;induction M with
 |zero=>intro h _;have:m=0:=o_;subst this;rfl
 |succ M c=>
  intro h a;by_cases e:m=M+1
  ·subst e;rfl
  rw[<-c o_ (λi d f=>a i d o_)];simp only[sel];by_cases b:(ops[M]?).bind (·.dst)=some t
  ·rw[a M o_ o_ b];rfl
  split
  ·rw[lL,if_neg b]
  rfl
theorem kY{L:Array Bool}{i:Nat}(h:i<L.size):L.getD i true=L.getD i false:=by simp[Array.getD,h]
def unl(W:Nat->Bool):Nat->Nat
 |0=>0
 |m+1=>unl W m+if W m then 0 else 1
theorem vr{W:Nat->Bool}:∀m,unl W m=0->∀i,i<m->W i=true:=by
 intro m;induction m with
 |zero=>intro _ i a;omega
 |succ m b=>
  intro h i a;simp only[unl]at h;by_cases e:i=m
  ·subst e;cases c:W i with
   |true=>rfl
   |false=>rw[c]at h;simp at h
  exact b o_ i o_
theorem zC{W W':Nat->Bool}{j:Nat}(hj:W j=false) (hj':W' j=true) (h:∀i,i≠j->W' i=W i):∀m,(j<m->unl W' m+1=unl W m)/\(m<=j->unl W' m=unl W m):=by
 intro m;induction m with
 |zero=>exact⟨λh=>o_,λ_=>rfl⟩
 |succ m a=>
  refine⟨λb=>?_,λb=>?_⟩
  ·simp only[unl];by_cases e:m=j
   ·subst e;rw[a.2 (aR _),hj,hj'];simp
   rw[h m e,<-a.1 o_];omega
  simp only[unl];rw[a.2 o_,h m o_]
end
structure Trace (C:Cfg) (run:FuncId->LA->H->Option (AV × H)) (cf:FuncId) (ops:Array Oper) (s0:PT) (h0:H) (val:Nat->AV) (st:Nat->H):Prop where
 zero:st 0=h0
 step:∀i o,ops[i]?=some o->(Region.wanted o (dw ops (sel ops val s0 (λ_=>true) i))=true/\opV C run cf (sel ops val s0 (λ_=>true) i) (st i) o=some (val i,st (i+1))) \/
  (Region.wanted o (dw ops (sel ops val s0 (λ_=>true) i))=false/\val i=AV.undef/\st (i+1)=st i)
theorem MS{C:Cfg}{run:FuncId->LA->H->Option (AV × H)}{cf:FuncId}{ops:Array Oper}{s0:PT}:∀(l:List Oper) (k:Nat) (val:Nat->AV) (st:Nat->H),(∀j,l[j]?=ops[k+j]?) ->
  ∀s' h',dz C run cf ops l (sel ops val s0 (λ_=>true) k) (st k)=some (s',h') ->
  ∃(val':Nat->AV) (st':Nat->H),(∀i,i<k->val' i=val i)/\(∀i,i<=k->st' i=st i)/\sel ops val' s0 (λ_=>true) (k+l.length)=s'/\st' (k+l.length)=h' /\
   ∀i o,k<=i->ops[i]?=some o->(Region.wanted o (dw ops (sel ops val' s0 (λ_=>true) i))=true/\opV C run cf (sel ops val' s0 (λ_=>true) i) (st' i) o=some (val' i,st' (i+1))) \/
    (Region.wanted o (dw ops (sel ops val' s0 (λ_=>true) i))=false/\val' i=AV.undef/\st' (i+1)=st' i):=by
 have c:∀(v w:Nat->AV) m,(∀i,i<m->w i=v i)->sel ops w s0 (λ_=>true) m=sel ops v s0 (λ_=>true) m:=by
  intro v w m;induction m with
  |zero=>intro _;rfl
  |succ m x=>intro h;simp only[sel,if_true];rw[x (λi n=>h i o_),h m o_]
 intro l;induction l with
 |nil=>intro k val st u s' h' b;simp only[dz,aA,aD]at b;refine⟨val,st,λ_ _=>rfl,λ_ _=>rfl,b.1,b.2,λi o n q=>?_⟩;have:=u (i-k);rw[show k+(i-k)=i by omega,q]at this;simp at this
 |cons o l x=>
  intro k val st u s' h' b;have q:ops[k]?=some o:=by have:=u 0;simpa using this.symm
  have y:∀j,l[j]?=ops[k+1+j]?:=λj=>by have:=u (j+1);rw[show k+1+j=k+(j+1) by omega];simpa using this
  have d:∀v p,dz C run cf ops l (jB (sel ops val s0 (λ_=>true) k) o.dst v) p=some (s',h') ->
    ∃(val':Nat->AV) (st':Nat->H),(∀i,i<k->val' i=val i)/\(∀i,i<=k->st' i=st i)/\val' k=v/\st' (k+1)=p/\sel ops val' s0 (λ_=>true) (k+(o::l).length)=s'/\st' (k+(o::l).length)=h' /\
     ∀i o,k+1<=i->ops[i]?=some o->(Region.wanted o (dw ops (sel ops val' s0 (λ_=>true) i))=true/\opV C run cf (sel ops val' s0 (λ_=>true) i) (st' i) o=some (val' i,st' (i+1))) \/
      (Region.wanted o (dw ops (sel ops val' s0 (λ_=>true) i))=false/\val' i=AV.undef/\st' (i+1)=st' i):=by
   intro v p b
   let val1:Nat->AV:=λi=>if i=k then v else val i
   let st1:Nat->H:=λi=>if i=k+1 then p else st i
   have E:sel ops val1 s0 (λ_=>true) (k+1)=jB (sel ops val s0 (λ_=>true) k) o.dst v:=by simp only[sel,if_true,q,cn];rw[c val val1 k (λi n=>by simp only[val1];rw[if_neg o_])];simp[val1]
   have⟨val',st',f,g,r,s,t⟩:=x (k+1) val1 st1 y s' h' (by rw[E];simpa[st1]using b);refine⟨val',st',λi n=>by rw[f i o_];simp only[val1];rw[if_neg o_],λi n=>by rw[g i o_];simp only[st1];rw[if_neg o_],by rw[f k o_];simp[val1],
    by rw[g (k+1) (aR _)];simp[st1],by rw[<-r];congr 1;simp;omega,by rw[<-s];congr 1;simp;omega,t⟩
  simp only[dz]at b;split at b
  ·rename_i z;split at b<;>try(cases b;done)
   rename_i v p F;have⟨val',st',f,g,r,s,t,A,B⟩:=d v p b;refine⟨val',st',f,g,t,A,λi D n a=>?_⟩;by_cases e:i=k
   ·subst e;rw[q]at a;simp only[aA]at a;subst a;left;rw[c val val' i f,g i (aR _),r,s];exact⟨z,F⟩
   exact B i D o_ a
  rename_i z;have⟨val',st',f,g,r,s,t,A,B⟩:=d AV.undef (st k) b;refine⟨val',st',f,g,t,A,λi D n a=>?_⟩;by_cases e:i=k
  ·subst e;rw[q]at a;simp only[aA]at a;subst a;right;rw[c val val' i f,g i (aR _),r,s];exact⟨by simpa using z,rfl,rfl⟩
  exact B i D o_ a
theorem wV{C:Cfg}{run:FuncId->LA->H->Option (AV × H)}{cf:FuncId}{ops:Array Oper}{s0:PT}{h0:H}{val:Nat->AV}{st:Nat->H}(tr:Trace C run cf ops s0 h0 val st):∀(l:List Oper) (k:Nat),(∀j,l[j]?=ops[k+j]?) ->
  ∀i o,k<=i->ops[i]?=some o->Region.wanted o (dw ops (sel ops val s0 (λ_=>true) i))=true ->
   (∀id∈kW (sel ops val s0 (λ_=>true) i) o,id∈(jp C run cf ops l (sel ops val s0 (λ_=>true) k) (st k)).1) /\
   (∀id∈fL (sel ops val s0 (λ_=>true) i) o,id∈(jp C run cf ops l (sel ops val s0 (λ_=>true) k) (st k)).2):=by
 intro l;induction l with
 |nil=>intro k m i o u d;have:=m (i-k);rw[show k+(i-k)=i by omega,d]at this;simp at this
 |cons x l s=>
  intro k m i o u d p;have n:ops[k]?=some x:=by have:=m 0;simpa using this.symm
  have f:∀j,l[j]?=ops[k+1+j]?:=λj=>by have:=m (j+1);rw[show k+1+j=k+(j+1) by omega];simpa using this
  have t:∀v,val k=v->jB (sel ops val s0 (λ_=>true) k) x.dst v=sel ops val s0 (λ_=>true) (k+1):=λv q=>by simp only[sel,if_true,n,cn,q]
  simp only[jp];rcases tr.step k x n with⟨c,q⟩|⟨c,g,r⟩
  ·rw[if_pos c,q];dsimp only;rw[t _ rfl];by_cases e:i=k
   ·subst e;rw[n]at d;simp only[aA]at d;subst d;exact⟨λid h=>dN _ h,λid h=>dN _ h⟩
   have⟨a,b⟩:=s (k+1) f i o o_ d p;exact⟨λid h=>de _ (a id h),λid h=>de _ (b id h)⟩
  rw[if_neg (by rw[c];simp),t _ g,<-r];by_cases e:i=k
  ·subst e;rw[n]at d;simp only[aA]at d;subst d;rw[p]at c;cases c
  exact s (k+1) f i o o_ d p
theorem vm{ops:Array Oper}{o:Oper}{s s':PT}(h:∀t∈reads ops o,s.get t=s'.get t):Region.wanted o (dw ops s)=Region.wanted o (dw ops s'):=by
 unfold Region.wanted;split
 ·rfl
 rename_i j a b;congr 1
 unfold dw;cases c:(ops[j]?).bind (·.dst)with
 |none=>rfl
 |some t=>
  have:t∈reads ops o:=by simp[reads,b,c]
  simp only[h t this]
section
variable {B:Nat}{A0:Nat->Nat->Prop}{n:Nat}{ro:Option Nat}{nd:Nat}
theorem Rl [DFlag] {C:Cfg}(hP:Good C.P){run:FuncId->LA->H->Option (AV × H)}(hrun:Ok C.P run){cf:FuncId}{ops:Array Oper}{Q:Exit->Act->World->Prop}(hok:wE C ops=true)
  (hd:∀(i:Nat) o,ops[i]?=some o->∀t,o.dst=some t->t<n){σ0:List (Option Nat)}{h0:H}{w0:World}{s0:PT}{a0:Act}{val:Nat->AV}{st:Nat->H}(tr:Trace C run cf ops s0 h0 val st)
  (hdis:∀q oq j oj,ops[q]?=some oq->ops[j]?=some oj->Region.wanted oq (dw ops (sel ops val s0 (λ_=>true) q))=true->Region.wanted oj (dw ops (sel ops val s0 (λ_=>true) j))=true ->
   ∀id∈kW (sel ops val s0 (λ_=>true) j) oj,id∉fL (sel ops val s0 (λ_=>true) q) oq)
  (hQ:∀σ' w' a',HRel C.P B A0 σ' (st ops.size) w'->Step C.P B A0 σ0 h0 w0 σ' (st ops.size) w'->SRel C.P (Alw C.P B A0 σ' (st ops.size)) σ' (st ops.size) w' n (sel ops val s0 (λ_=>true) ops.size) a'.tmps->a'.defers=a0.defers->Q .normal a' w') :
  ∀(fuel:Nat) (L:Array Bool) (a:Act) (w:World) (σ:List (Option Nat)) (k:Nat),L.size=ops.size->k<=ops.size->HRel C.P B A0 σ (st k) w->Step C.P B A0 σ0 h0 w0 σ (st k) w ->
   SRel C.P (Alw C.P B A0 σ (st k)) σ (st k) w n (sel ops val s0 (λi=>L.getD i false) ops.size) a.tmps->a.defers=a0.defers ->
   (∀(i:Nat) o,ops[i]?=some o->dW o=true->(L.getD i false=true↔i<k)) ->
   (∀j o,ops[j]?=some o->L.getD j false=true->∀e∈o.after,Region.binds .any e=true->L.getD e.on false=true) ->
   unl (λi=>L.getD i false) ops.size<=fuel->wpAnyIn (FR ro) nd C.P .any ops Q fuel L a w:=by
 have z5:∀i m,i<=m->m<=ops.size->(∀q o,i<=q->q<m->ops[q]?=some o->dW o=false)->st m=st i:=by
  intro i m O;induction m with
  |zero=>intro _ _;have:i=0:=o_;subst this;rfl
  |succ m ih=>
   intro hm hq;by_cases e:i=m+1
   ·subst e;rfl
   rw[<-ih o_ o_ (λq o I s=>hq q o I o_)];have p:ops[m]?=some (ops[m]' o_):=aT _;rcases tr.step m _ p with⟨_,y⟩|⟨_,_,he⟩
   ·exact tB y (hq m _ o_ o_ p)
   exact he
 have z6:∀(id:Nat),(∀q oq,ops[q]?=some oq->Region.wanted oq (dw ops (sel ops val s0 (λ_=>true) q))=true->id∉fL (sel ops val s0 (λ_=>true) q) oq) ->
   ∀i m,i<=m->m<=ops.size->(∀q o,i<=q->q<m->ops[q]?=some o->dW o=true->clash.loud C o=false) ->
   ∀S U,(st i)[id]?=some (.cells S U)->∃st',(st m)[id]?=some (.cells S st')/\(st'=.dead↔U=.dead):=by
  intro id x6 i m O;induction m with
  |zero=>intro _ _ S U h;have:i=0:=o_;subst this;exact⟨U,h,Iff.rfl⟩
  |succ m ih=>
   intro hm hq S U hc;by_cases e:i=m+1
   ·subst e;exact⟨U,hc,Iff.rfl⟩
   have⟨s1,y',V⟩:=ih o_ o_ (λq o I s=>hq q o I o_) S U hc;have p:ops[m]?=some (ops[m]' o_):=aT _;rcases tr.step m _ p with⟨hw,y⟩|⟨_,_,he⟩
   ·cases ha:dW (ops[m]' o_)with
    |false=>rw[tB y ha];exact⟨s1,y',V⟩
    |true=>unfold opV at y;rw[if_pos ha]at y;have⟨s2,x7,e2⟩:=UQ y (hq m _ o_ o_ p ha) id S s1 (x6 m _ p hw) y';exact⟨s2,x7,e2.trans V⟩
   rw[he];exact⟨s1,y',V⟩
 have q2:∀(L:Array Bool) (a:Act) (w:World) (σ:List (Option Nat)) (k:Nat),L.size=ops.size->k<=ops.size->HRel C.P B A0 σ (st k) w->Step C.P B A0 σ0 h0 w0 σ (st k) w ->
   SRel C.P (Alw C.P B A0 σ (st k)) σ (st k) w n (sel ops val s0 (λi=>L.getD i false) ops.size) a.tmps->a.defers=a0.defers ->
   (∀(i:Nat) o,ops[i]?=some o->dW o=true->(L.getD i false=true↔i<k))->(∀i,i<ops.size->L.getD i false=true)->Q .normal a w:=by
  intro L a w σ k hL hk hr z Y E g J;have V:st ops.size=st k:=z5 k ops.size hk (aR _) (λq o I s p=>by
   cases ha:dW o with
   |false=>rfl
   |true=>have:=(g q o p ha).1 (J q s);omega)
  rw[<-V]at hr z Y;refine hQ σ w a hr z ⟨Y.1,λt=>?_⟩ E;have:=Y.2 t;rwa[ko (W':=λ_=>true) ops.size (λi O _=>J i O)]at this
 intro fuel;induction fuel with
 |zero=>
  intro L a w σ k hL hk hr z Y E g q3 hu;have J:=vr (W:=λi=>L.getD i false) ops.size o_;refine⟨?_,q2 L a w σ k hL hk hr z Y E g J⟩;cases y0:Region.ready .any ops L with
  |nil=>rfl
  |cons j js=>
   have hj:j∈Region.ready .any ops L:=by rw[y0];simp
   have⟨I,o,p,_⟩:=mem_ready.1 hj;have y1:j<ops.size:=(aO.1 p).1;have s:=J j y1;rw[kY o_]at I;rw[I]at s;cases s
 |succ fuel ih=>
  intro L a w σ k hL hk hr z Y E g q3 hu;refine⟨λy0=>?_,λj hj=>?_⟩
  ·refine q2 L a w σ k hL hk hr z Y E g ?_;intro i;induction i using Nat.strongRecOn with
   |ind i x8=>
    intro O;cases hw:L.getD i false with
    |true=>rfl
    |false=>
     exfalso;have p:ops[i]?=some (ops[i]'O):=aT O;have:i∈Region.ready .any ops L:=mem_ready.2 ⟨by rw[kY o_];exact hw,_,p,λe he hb=>by have y1:=(rP hok p).1 e he hb;exact x8 e.on y1 o_⟩
     rw[y0]at this;cases this
  have⟨x9,o,p,q4⟩:=mem_ready.1 hj;have y8:j<ops.size:=(aO.1 p).1;have z0:L.getD j false=false:=by rw[<-kY o_];exact x9
  have w2:∀i,((Region.before ops).getD j 0).testBit i=true->L.getD i false=true:=jF (W:=λi=>L.getD i false) q3 j o p q4;have y9:∀i x,ops[i]?=some x->((Region.before ops).getD i 0).testBit j=true->L.getD i false=false:=λi x f hb=>by
   cases hw:L.getD i false with
   |false=>rfl
   |true=>have:=jF (W:=λi=>L.getD i false) q3 i x f (q3 i x f hw) j hb;rw[z0]at this;cases this
  have F:∀i x,i<j->ops[i]?=some x->clash C ops x o=true->L.getD i false=true:=λi x O f hc=>w2 i ((rP hok p).2 i x O f hc)
  have Z:∀i x,j<i->ops[i]?=some x->clash C ops o x=true->L.getD i false=false:=λi x O f hc=>y9 i x f ((rP hok f).2 j o O p hc)
  have X:∀(i:Nat) t,(ops[i]?).bind (·.dst)=some t->∃x,ops[i]?=some x/\x.dst=some t:=λi t h=>by
   cases f:ops[i]? with
   |none=>rw[f]at h;cases h
   |some x=>rw[f]at h;exact⟨x,rfl,h⟩
  have q5:∀t∈reads ops o,(sel ops val s0 (λi=>L.getD i false) ops.size).get t=(sel ops val s0 (λ_=>true) j).get t:=λt ht=>by
   rw[qg (m:=j) ops.size o_ (λi I s K=>?_)]
   ·refine ko j (λi O K=>?_);have⟨x,f,q6⟩:=X i t K;exact F i x O f (by simp[clash,q6,ht])
   have⟨x,f,q6⟩:=X i t K;by_cases e:i=j
   ·subst e;exact z0
   exact Z i x o_ f (by simp[clash,q6,ht])
  have y2:=vm q5;have G:∀x∈o.op.operands.toList,ev (sel ops val s0 (λi=>L.getD i false) ops.size) x=ev (sel ops val s0 (λ_=>true) j) x:=λx f=>Ae (λt ht=>q5 t (by simp[reads,ht])) f
  have q0:∀i,i≠j->(L.setIfInBounds j true).getD i false=L.getD i false:=λi O=>getD_set_ne false (λe=>O e.symm)
  have y3:(L.setIfInBounds j true).getD j false=true:=by simp[hL,y8]
  have after:∀ {A:Nat->Nat->Prop}{σ':List (Option Nat)}{h':H}{w':World}{v:Value},SRel C.P A σ' h' w' n (sel ops val s0 (λi=>L.getD i false) ops.size) a.tmps->Rel C.P A σ' h' w' (val j) v ->
    SRel C.P A σ' h' w' n (sel ops val s0 (λi=>(L.setIfInBounds j true).getD i false) ops.size) (a.put o.dst v).tmps:=by
   intro A σ' h' w' v w3 y;have hp:=SRel.put (d:=o.dst) w3 (hd j o p) y;refine⟨hp.1,λt=>?_⟩;have:=hp.2 t;rw[lL]at this;by_cases e:o.dst=some t
   ·rw[if_pos e]at this;have e2:(sel ops val s0 (λi=>(L.setIfInBounds j true).getD i false) ops.size).get t=val j:=by
     rw[qg (m:=j+1) ops.size o_ (λi I s K=>?_)]
     ·simp only[sel];rw[if_pos y3,lL,if_pos (by rw[p];exact e)]
     have⟨x,f,q6⟩:=X i t K;rw[q0 i o_];exact Z i x o_ f (by simp[clash,e,q6])
    rw[e2];exact this
   rw[if_neg e]at this;rw[ko (W':=λi=>L.getD i false) ops.size (λi O K=>?_)]
   ·exact this
   by_cases ei:i=j
   ·subst ei;rw[p]at K;exact absurd K e
   exact q0 i ei
  have q':∀j' o',ops[j']?=some o'->(L.setIfInBounds j true).getD j' false=true->∀e∈o'.after,Region.binds .any e=true->(L.setIfInBounds j true).getD e.on false=true:=λj' o' z1 hw e he hb=>by
   refine getD_set_true ?_;by_cases ej:j'=j
   ·subst ej;rw[p]at z1;simp only[aA]at z1;subst z1;exact q4 e he hb
   rw[q0 j' ej]at hw;exact q3 j' o' z1 hw e he hb
  have z2:unl (λi=>(L.setIfInBounds j true).getD i false) ops.size<=fuel:=by have:=(zC (W:=λi=>L.getD i false) (W':=λi=>(L.setIfInBounds j true).getD i false) z0 y3 q0 ops.size).1 y8;omega
  have z3:(L.setIfInBounds j true).size=ops.size:=by simpa using hL
  have M:dW o=true->st j=st k/\∀(i:Nat) x,ops[i]?=some x->dW x=true->((L.setIfInBounds j true).getD i false=true↔i<j+1):=λr=>by
   have q7:k<=j:=by
    rcases iv j k with h|h
    ·have:=(g j o p r).2 h;rw[z0]at this;cases this
    exact h
   have q8:∀x,dW x=true->clash C ops x o=true/\clash C ops o x=true:=λx f=>by simp[clash,f,r]
   refine⟨z5 k j q7 o_ (λq x I s f=>?_),λi x f l=>?_⟩
   ·cases l:dW x with
    |false=>rfl
    |true=>have V:=F q x s f (q8 x l).1;have:=(g q x f l).1 V;omega
   by_cases ei:i=j
   ·subst ei;simp[y3]
   rw[q0 i ei];rcases iv i j with h|h
   ·simp only[F i x h f (q8 x l).1,true_iff];omega
   simp only[Z i x o_ f (q8 x l).2,aw,false_iff];omega
  have q9:dW o=false->∀(i:Nat) x,ops[i]?=some x->dW x=true->((L.setIfInBounds j true).getD i false=true↔i<k):=λr i x f l=>by
   have:i≠j:=λe=>by subst e;rw[p]at f;simp only[aA]at f;subst f;rw[r]at l;cases l
   rw[q0 i this];exact g i x f l
  unfold wpOpIn;simp only[p];rw[vD Y,y2];rcases tr.step j o p with⟨hw,y⟩|⟨hw,x',y4⟩
  ·rw[if_pos hw];cases r:dW o with
   |true=>
    have⟨V,e2⟩:=M r;rw[<-B0 G,V]at y;refine xN hP rfl hrun hr Y y λu w1 ⟨σ1,k1,k2,k3⟩=>?_
    exact ih (L.setIfInBounds j true) (a.put o.dst u) w1 σ1 (j+1) z3 o_ k1 (z.trans k2) (after (Y.step k2) k3) (by rw[iJ];exact E) e2 q' z2
   |false=>
    have w7:=tB y r;have w4:opV C run cf (sel ops val s0 (λi=>L.getD i false) ops.size) (st k) o=some (val j,st k):=by
     unfold opV at y ⊢;rw[r]at y ⊢;simp only[aw,if_false]at y ⊢;split at y
     ·rename_i t x y5;have z7:x∈o.op.operands.toList:=by rw[y5];simp[Op.operands]
      rw[G x z7];have x0:∀c,ev (sel ops val s0 (λ_=>true) j) x=some c->Rel C.P (Alw C.P B A0 σ (st k)) σ (st k) w c (a.eval x):=λc hc=>bz hr.gr Y (by rw[G x z7];exact hc)
      have x1:jS o=true:=by simp[jS,y5]
      split at y<;>try(cases y;done)
      rename_i c hc;have w5:=x0 c hc;split at y<;>try(cases y;done)
      rename_i v N;simp only[aA,aD]at y;have y6:aW C.P (st k) t c=some v:=by
       unfold aW at N ⊢;split at N<;>try(cases N;done)
       ·rename_i id w8;have⟨b,_,_,w6,x2,z8⟩:=pv w5;have z9:∀q oq,ops[q]?=some oq->Region.wanted oq (dw ops (sel ops val s0 (λ_=>true) q))=true->id∉fL (sel ops val s0 (λ_=>true) q) oq:=λq oq I s=>hdis q oq j o I p s hw id (by simp[kW,y5,hc])
        have z':∀S z4,(st j)[id]?=some (.cells S z4)->z4≠.dead->∃q1,(st k)[id]?=some (.cells S q1)/\q1≠.dead:=by
         intro S z4 D x3;rcases Nat.le_total k j with q7|q7
         ·have⟨x4,s,h3⟩:=z6 id z9 k j q7 o_ (λq x I s f l=>by
           cases y7:clash.loud C x with
           |false=>rfl
           |true=>have V:=F q x s f (by simp[clash,y7,x1]);have:=(g q x f l).1 V;omega) w6 x2 z8
          rw[D]at s;simp only[aA,VObj.cells.injEq]at s;obtain⟨rfl,rfl⟩:=s;exact⟨x2,z8,λe=>x3 (h3.2 e)⟩
         have⟨x4,s,h3⟩:=z6 id z9 j k q7 hk (λq x I s f l=>by
          cases y7:clash.loud C x with
          |false=>rfl
          |true=>
           have w9:q≠j:=λe=>by subst e;rw[p]at f;simp only[aA]at f;subst f;rw[r]at l;cases l
           have V:=Z q x o_ f (by simp[clash,y7,x1]);have:=(g q x f l).2 s;rw[V]at this;cases this) S z4 D
         exact⟨x4,s,λe=>x3 (h3.1 e)⟩
        split at N<;>try(cases N;done)
        ·rename_i S D;have⟨q1,I,s⟩:=z' S _ D s_;rw[I];cases q1<;>first|exact N|exact absurd rfl s
        rename_i S D;have⟨q1,I,s⟩:=z' S _ D s_;rw[I];cases q1<;>first|exact N|exact absurd rfl s
       exact N
      rw[y6,<-y.1]
     rw[xO G];split at y<;>try(cases y;done)
     simp only[aA,aD]at y;rw[<-y.1]
    refine xN hP rfl hrun hr Y w4 λu w1 ⟨σ1,k1,k2,k3⟩=>?_
    exact ih (L.setIfInBounds j true) (a.put o.dst u) w1 σ1 k z3 hk k1 (z.trans k2) (after (Y.step k2) k3) (by rw[iJ];exact E) (q9 r) q' z2
  rw[if_neg (by rw[hw];simp)];have x5:=after (v:=undef) Y (by rw[x'];exact uB);refine⟨λ_ _=>trivial,?_⟩;cases r:dW o with
  |true=>have⟨V,e2⟩:=M r;have e3:st (j+1)=st k:=y4.trans V;exact ih (L.setIfInBounds j true) (a.put o.dst undef) w σ (j+1) z3 o_ (by rw[e3];exact hr) (by rw[e3];exact z) (by rw[e3];exact x5) (by rw[iJ];exact E) e2 q' z2
  |false=>exact ih (L.setIfInBounds j true) (a.put o.dst undef) w σ k z3 hk hr z x5 (by rw[iJ];exact E) (q9 r) q' z2
end
end Go.V
