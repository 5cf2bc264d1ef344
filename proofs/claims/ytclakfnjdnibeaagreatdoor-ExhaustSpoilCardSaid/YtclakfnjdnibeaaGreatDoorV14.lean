/- A part of the proof. -/
import Derived.Test.YtclakfnjdnibeaaGreatDoorV13
namespace Go.V
open Go
section
variable {P:Program}{B:Nat}{A0:Nat->Nat->Prop}{σ:List (Option Nat)}{h:H}{w:World}{n:Nat}{s:PT}{a:Act}{ro:Option Nat}{nd:Nat}
theorem SRel.put{A:Nat->Nat->Prop}(hs:SRel P A σ h w n s a.tmps){d:Option Tmp}{r:AV}{v:Value}(hd:∀t,d=some t->t<n) (r_:Rel P A σ h w r v):SRel P A σ h w n (jB s d r) (a.put d v).tmps:=by
 cases d with
 |none=>exact hs
 |some t=>
  have⟨b,c⟩:=hs;refine⟨by simp[Act.put,b],λm=>?_⟩;have f:=hd t rfl;simp only[jB,PT.get_set,Act.put];by_cases e:m=t
  ·subst e;rw[if_pos rfl];simp[Array.getD,b,f];exact r_
  rw[if_neg e];have:=c m;simp only[bA]at this ⊢;rw[jJ (λk=>e k.symm)];exact this
theorem SRel.step [DFlag] {σ':List (Option Nat)}{h':H}{w':World}(st:Step P B A0 σ h w σ' h' w') (hs:SRel P (Alw P B A0 σ h) σ h w n s a.tmps):SRel P (Alw P B A0 σ' h') σ' h' w' n s a.tmps:=
 ⟨hs.1,λt=>(hs.2 t).step st⟩
theorem iJ(a:Act) (d:Option Tmp) (v:Value):(a.put d v).defers=a.defers:=by cases d<;>rfl
theorem uB{A:Nat->Nat->Prop}:Rel P A σ h w AV.undef undef:=.data (.tuple (vs:=#[]) rfl s_)
theorem EQ{A:Nat->Nat->Prop}{c:AV}{b:Bool}(r:Rel P A σ h w c (.bool b)):c=.bool b:=by
 cases r with
 |data r=>cases r;rfl
 |tok a _=>cases a
theorem vD{A:Nat->Nat->Prop}(hs:SRel P A σ h w n s a.tmps) (ops:Array Oper):yielded ops a.tmps=dw ops s:=by
 funext j
 unfold yielded dw;cases i:(ops[j]?).bind (·.dst)with
 |none=>rfl
 |some t=>
  simp only[cn];have c:=hs.2 t;rw[bA]at c;cases g:a.tmps[t]? with
  |none=>
   rw[g]at c;simp only[Option.getD_none]at c;split
   ·rename_i e;cases e
   split
   ·rename_i b d;rw[d]at c;have:=pA c;simp[undef]at this
   rfl
  |some v=>
   rw[g]at c;simp only[nT]at c;split
   ·rename_i b d;simp only[aA]at d;subst d;rw[EQ c]
   rename_i f;split
   ·rename_i b d;rw[d]at c;exact absurd (by rw[pA c]) (f b)
   rfl
theorem J5 [DFlag] {C:Cfg}(hP:Good C.P){run:FuncId->LA->H->Option (AV × H)}(hrun:Ok C.P run){cf:FuncId}{ops:Array Oper}{Q:Exit->Act->World->Prop} :
  ∀(l:List Oper) (k:Nat),(∀j,l[j]?=ops[k+j]?)->(∀o∈l,∀t,o.dst=some t->t<n) ->
  ∀(σ:List (Option Nat)) (h:H) (w:World) (s:PT) (a:Act) (s':PT) (h':H),HRel C.P B A0 σ h w->SRel C.P (Alw C.P B A0 σ h) σ h w n s a.tmps->dz C run cf ops l s h=some (s',h') ->
   (∀σ' w' a',HRel C.P B A0 σ' h' w'->Step C.P B A0 σ h w σ' h' w'->SRel C.P (Alw C.P B A0 σ' h') σ' h' w' n s' a'.tmps->a'.defers=a.defers->Q .normal a' w') ->
   wpOpsIn (FR ro) nd C.P ops Q (List.range' k l.length) a w:=by
 intro l;induction l with
 |nil=>intro k _ _ σ h w s a s' h' f c b g;simp only[dz,aA,aD]at b;obtain⟨rfl,rfl⟩:=b;simp only[aQ,List.range'_zero,wpOpsIn];exact g σ w a f (.refl _ _ _) c rfl
 |cons o l z=>
  intro k A i σ h w s a s' h' f c b g;have m:ops[k]?=some o:=by have:=A 0;simpa using this.symm
  have d:∀j,l[j]?=ops[k+1+j]?:=λj=>by have:=A (j+1);rw[show k+1+j=k+(j+1) by omega];simpa using this
  have e:∀o∈l,∀t,o.dst=some t->t<n:=λo m=>i o (by simp[m])
  simp only[aG,List.range'_succ,wpOpsIn,m];rw[vD c];simp only[dz]at b;split at b
  ·rename_i p;rw[if_pos p];split at b<;>try(cases b;done)
   rename_i v E F;refine xN hP rfl hrun f c F λu G ⟨σ1,I,D,J⟩=>?_
   refine z (k+1) d e σ1 E G (jB s o.dst v) (a.put o.dst u) s' h' I ((c.step D).put (i o s_) J) b (λσ' w' a' q r x y=>g σ' w' a' q (D.trans r) x (y.trans (iJ _ _ _)))
  rename_i p;rw[if_neg p];refine⟨λ_ _=>trivial,?_⟩;exact z (k+1) d e σ h w (jB s o.dst AV.undef) (a.put o.dst undef) s' h' f (c.put (i o s_) uB) b (λσ' w' a' q r x y=>g σ' w' a' q r x (y.trans (iJ _ _ _)))
end
theorem G1{t:Tmp}:∀ {l:List Operand},Operand.tmp t∈l->t∈vG l:=by
 intro l;induction l with
 |nil=>intro h;cases h
 |cons x l a=>
  intro h;rcases ao.1 h with e|b
  ·subst e;simp[vG]
  cases x<;>simp[vG,a b]
theorem Ae{s s':PT}{l:List Operand}(h:∀t∈vG l,s.get t=s'.get t){x:Operand}(hx:x∈l):ev s x=ev s' x:=by
 cases x with
 |tmp t=>simp only[ev];rw[h t (G1 hx)]
 |_=>rfl
theorem uY{s s':PT}:∀ {l:List Operand},(∀x∈l,ev s x=ev s' x)->evs s l=evs s' l:=by
 intro l;induction l with
 |nil=>intro _;rfl
 |cons x l a=>intro h;simp only[evs];rw[h x s_,a (λy b=>h y (by simp[b]))]
theorem rN{s s':PT}:∀ {l:List (Nat × Operand)},(∀x∈l.map (·.2),ev s x=ev s' x)->gJ s l=gJ s' l:=by
 intro l;induction l with
 |nil=>intro _;rfl
 |cons p l b=>intro h;have⟨i,x⟩:=p;simp only[gJ];rw[h x s_,b (λy a=>h y (by simp at a ⊢;exact .inr a))]
theorem xM{s s':PT}{x:Option Operand}(h:∀y,x=some y->ev s y=ev s' y):x.map (ev s)=x.map (ev s'):=by
 cases x with
 |none=>rfl
 |some y=>simp[h y rfl]
theorem xO{P:Program}{s s':PT}{o:Oper}(h:∀x∈o.op.operands.toList,ev s x=ev s' x):opN P s o=opN P s' o:=by
 unfold opN;cases n:o.op<;>rw[n]at h<;>simp only[Op.operands,Call.operands]at h ⊢
 case call c=>
  have⟨a,j,g⟩:=c;cases a with
  |builtin b=>
   have m:∀x∈j.toList,ev s x=ev s' x:=λx i=>h x (by simpa using i)
   cases b<;>simp only[uY m];all_goals
    split
    ·rename_i x t d k;rw[m x (by rw[d];simp)]
    rfl
  |_=>rfl
 case build t parts=>rw[rN (λx i=>h x (by simpa using i))]
 case slice t x lo hi mx=>rw[h x s_,xM (x:=lo) (λy e=>h y (by simp[e])),xM (x:=hi) (λy e=>h y (by simp[e])),xM (x:=mx) (λy e=>h y (by simp[e]))]
 case makeFunc fn first captured=>
  cases fn with
  |func f=>simp only[uY (l:=captured.toList) (λx i=>h x (by simp at i ⊢;exact .inr i))]
  |_=>rfl
 all_goals first
  |rfl
  |(simp only[ao,cy,or_false,forall_eq_or_imp,forall_eq]at h;first|rw[h]|rw[h.1,h.2]|rw[h.1,h.2.1,h.2.2])
theorem KO{C:Cfg}{run:FuncId->LA->H->Option (AV × H)}{cf:FuncId}{s s':PT}{hp:H}{o:Oper}(h:∀x∈o.op.operands.toList,ev s x=ev s' x):opA C run cf s hp o=opA C run cf s' hp o:=by
 unfold opA;cases l:o.op<;>rw[l]at h<;>simp only[Op.operands,Call.operands]at h ⊢
 case call c=>
  have⟨g,e,i⟩:=c;cases g with
  |builtin b=>
   have k:∀x∈e.toList,ev s x=ev s' x:=λx j=>h x (by simpa using j)
   cases b<;>simp only
   case append=>
    split
    ·rename_i x y t u a d;rw[k x (by rw[a];simp),k y (by rw[a];simp)]
    rfl
   case clear=>
    split
    ·rename_i x t a d;rw[k x (by rw[a];simp)]
    rfl
   case copy=>
    split
    ·rename_i x y t u a d;rw[k x (by rw[a];simp),k y (by rw[a];simp)]
    rfl
  |value f=>have m:ev s f=ev s' f:=h f s_;have n:evs s e.toList=evs s' e.toList:=uY (λx j=>h x (by simp at j ⊢;exact .inr j));simp only[m,n]
  |_=>rfl
 case buildSlice t len parts=>rw[rN (λx j=>h x (by simpa using j))]
 case makeMap t r=>cases r<;>rfl
 all_goals first
  |rfl
  |(simp only[ao,cy,or_false,forall_eq_or_imp,forall_eq]at h;first|rw[h]|rw[h.1,h.2]|rw[h.1,h.2.1,h.2.2])
theorem B0{C:Cfg}{run:FuncId->LA->H->Option (AV × H)}{cf:FuncId}{s s':PT}{hp:H}{o:Oper}(h:∀x∈o.op.operands.toList,ev s x=ev s' x):opV C run cf s hp o=opV C run cf s' hp o:=by
 unfold opV;split
 ·exact KO h
 rw[xO h];split
 ·rename_i t x a;rw[h x (by rw[a];simp[Op.operands])]
 rfl
theorem tB{C:Cfg}{run:FuncId->LA->H->Option (AV × H)}{cf:FuncId}{s:PT}{hp h':H}{o:Oper}{r:AV}(hh:opV C run cf s hp o=some (r,h')) (ha:dW o=false):h'=hp:=by
 unfold opV at hh;rw[ha]at hh;simp only[aw,if_false]at hh;split at hh
 ·split at hh<;>try(cases hh;done)
  split at hh<;>try(cases hh;done)
  simp only[aA,aD]at hh;exact hh.2.symm
 split at hh<;>try(cases hh;done)
 simp only[aA,aD]at hh;exact hh.2.symm
mutual
theorem AV.same_eq:∀ {a b:AV},AV.same a b=true->a=b
 |.bool _,b,h=>by cases b<;>simp[AV.same]at h<;>simp[h]
 |.int _ _,b,h=>by cases b<;>simp[AV.same]at h<;>simp[h]
 |.str _,b,h=>by cases b<;>simp[AV.same]at h<;>simp[h]
 |.nilptr,b,h=>by cases b<;>simp[AV.same]at h<;>rfl
 |.ptr _ _,b,h=>by cases b<;>simp[AV.same]at h<;>simp[h]
 |.iptr e o,b,h=>by cases b<;>simp[AV.same]at h;rw[AV.same_eq h.1,h.2]
 |.isl es x,b,h=>by cases b<;>simp[AV.same]at h;rw[AV.sames_eq h.1,h.2]
 |.msl _ _ _ _ _,b,h=>by cases b<;>simp[AV.same]at h<;>simp[h]
 |.nilmap,b,h=>by cases b<;>simp[AV.same]at h<;>rfl
 |.nilFunc,b,h=>by cases b<;>simp[AV.same]at h<;>rfl
 |.func f cs,b,h=>by cases b<;>simp[AV.same]at h;rw[AV.sames_eq h.2,h.1]
 |.nilIface,b,h=>by cases b<;>simp[AV.same]at h<;>rfl
 |.iface t v,b,h=>by cases b<;>simp[AV.same]at h;rw[AV.same_eq h.2,h.1]
 |.agg cs,b,h=>by cases b<;>simp[AV.same]at h;rw[AV.sames_eq h]
 |.tuple cs,b,h=>by cases b<;>simp[AV.same]at h;rw[AV.sames_eq h]
 |.yield _,b,h=>by cases b<;>simp[AV.same]at h<;>simp[h]
 |.mp _,b,h=>by cases b<;>simp[AV.same]at h<;>simp[h]
theorem AV.sames_eq:∀ {l m:LA},AV.sames l m=true->l=m
 |[],m,h=>by cases m<;>simp[AV.sames]at h<;>rfl
 |a::l,m,h=>by cases m<;>simp[AV.sames]at h;rw[AV.same_eq h.1,AV.sames_eq h.2]
end
def NL(h h':H):Prop:=∀(id:Nat) cs st,h[id]?=some (.cells cs st)->∃st',h'[id]?=some (.cells cs st')/\(st'=.dead↔st=.dead)
theorem tz:∀ {h h':H},nlB h h'=true->NL h h'
 |[],_,_,id,cs,st,hi=>by simp at hi
 |.cells c s::h,[],e,_,_,_,_=>by simp[nlB]at e
 |.cells c s::h,.cells d t::g,e,id,cs,st,hi=>by
  simp only[nlB,am,decide_eq_true_eq]at e;cases id with
  |zero=>simp only[be,aA,VObj.cells.injEq]at hi;obtain⟨rfl,rfl⟩:=hi;exact⟨t,by rw[be,AV.sames_eq e.1.1],e.1.2⟩
  |succ id=>exact tz e.2 id cs st hi
 |.cells c s::h,.tok _ _::g,e,_,_,_,_=>by simp[nlB]at e
 |.cells c s::h,.loop _ _::g,e,_,_,_,_=>by simp[nlB]at e
 |.cells c s::h,.map _::g,e,_,_,_,_=>by simp[nlB]at e
 |.cells c s::h,.void::g,e,_,_,_,_=>by simp[nlB]at e
 |.tok _ _::h,[],e,id,cs,st,hi=>by
  cases id with
  |zero=>simp at hi
  |succ id=>have⟨a,b,_⟩:=tz (h:=h) (h':=[]) e id cs st hi;simp at b
 |.loop _ _::h,[],e,id,cs,st,hi=>by
  cases id with
  |zero=>simp at hi
  |succ id=>have⟨a,b,_⟩:=tz (h:=h) (h':=[]) e id cs st hi;simp at b
 |.map _::h,[],e,id,cs,st,hi=>by
  cases id with
  |zero=>simp at hi
  |succ id=>have⟨a,b,_⟩:=tz (h:=h) (h':=[]) e id cs st hi;simp at b
 |.void::h,[],e,id,cs,st,hi=>by
  cases id with
  |zero=>simp at hi
  |succ id=>have⟨a,b,_⟩:=tz (h:=h) (h':=[]) e id cs st hi;simp at b
 |.tok _ _::h,y::g,e,id,cs,st,hi=>by
  cases id with
  |zero=>simp at hi
  |succ id=>exact tz (h:=h) (h':=g) e id cs st hi
 |.loop _ _::h,y::g,e,id,cs,st,hi=>by
  cases id with
  |zero=>simp at hi
  |succ id=>exact tz (h:=h) (h':=g) e id cs st hi
 |.map _::h,y::g,e,id,cs,st,hi=>by
  cases id with
  |zero=>simp at hi
  |succ id=>exact tz (h:=h) (h':=g) e id cs st hi
 |.void::h,y::g,e,id,cs,st,hi=>by
  cases id with
  |zero=>simp at hi
  |succ id=>exact tz (h:=h) (h':=g) e id cs st hi
theorem NL.refl(h:H):NL h h:=λ_ _ a b=>⟨a,b,Iff.rfl⟩
theorem NL.trans{a b c:H}(h:NL a b) (k:NL b c):NL a c:=λid f g i=>by have⟨d,j,l⟩:=h id f g i;have⟨e,m,n⟩:=k id f d j;exact⟨e,m,n.trans l⟩
theorem NL.stiller{h h':H}(s:Stiller h h'):NL h h':=λid g c b=>by
 rcases s.at_ id with e|⟨d,a,f⟩
 ·exact⟨c,e.trans b,Iff.rfl⟩
 rw[b]at a;simp only[aA,VObj.cells.injEq]at a;obtain⟨rfl,rfl⟩:=a;exact⟨_,f,s_⟩
theorem NL.push(h:H) (x:VObj):NL h (h++[x]):=λid c b a=>⟨b,by rw[aP (aB.1 a).1];exact a,Iff.rfl⟩
theorem F9{P:Program}{m:Mode}{h1 h h':H}{r r':AV}(hh:oA P m h1 h r=some (r',h')):NL h h':=by
 unfold oA at hh;split at hh
 ·split at hh<;>try(cases hh;done)
  split at hh<;>try(cases hh;done)
  split at hh<;>try(cases hh;done)
  ·simp only[aA,aD]at hh;obtain⟨_,rfl⟩:=hh;exact .push _ _
  split at hh
  ·simp only[aA,aD]at hh;obtain⟨_,rfl⟩:=hh;exact .refl _
  simp only[aA,aD]at hh;obtain⟨_,rfl⟩:=hh;exact .push _ _
 ·simp only[aA,aD]at hh;obtain⟨_,rfl⟩:=hh;exact .refl _
 ·split at hh<;>try(cases hh;done)
  split at hh<;>try(cases hh;done)
  split at hh<;>try(cases hh;done)
  ·simp only[aA,aD]at hh;obtain⟨_,rfl⟩:=hh;exact .push _ _
  simp only[aA,aD]at hh;obtain⟨_,rfl⟩:=hh;exact .refl _
 cases hh
theorem HO{P:Program}{m:Mode}{h1 h h2 h':H}{r r':AV}(h12:NL h h2) (hh:ky P m r h1 h h2=some (r',h')):NL h h':=by
 have b:∀z,lg r h1 h h2=some z->NL h z.2:=λz a=>by
  unfold lg at a;split at a<;>try(cases a;done)
  simp only[aA]at a;subst a;dsimp;split
  ·exact .refl _
  exact h12
 have c:∀m z,ju P m h1 h r=some z->NL h z.2:=λm z a=>by
  unfold ju at a;split at a
  ·split at a<;>try(cases a;done)
   rename_i g e f;split at a<;>try(cases a;done)
   simp only[aA]at a;subst a;exact F9 f
  exact F9 a
 have d:∀m z,jZ m h1 h2 r=some z->NL h z.2:=λm z a=>by
  have one:∀x z,lF h1 h2 x=some z->NL h z.2:=λx z a=>by
   unfold lF at a;split at a<;>try(cases a;done)
   split at a<;>try(cases a;done)
   split at a<;>try(cases a;done)
   split at a<;>try(cases a;done)
   simp only[aA]at a;subst a;exact h12.trans (.push _ _)
  unfold jZ at a;split at a<;>try(cases a;done)
  ·split at a<;>try(cases a;done)
   split at a<;>try(cases a;done)
   rename_i e;simp only[aA]at a;subst a;have:=one _ _ e;exact this
  exact one _ _ a
 unfold ky at hh;split at hh
 ·split at hh
  ·rename_i z a;simp only[aA]at hh;subst hh;exact c _ _ a
  split at hh
  ·rename_i z a;simp only[aA]at hh;subst hh;exact d _ _ a
  exact b _ hh
 ·split at hh
  ·rename_i z a;simp only[aA]at hh;subst hh;exact c _ _ a
  split at hh
  ·rename_i z a;simp only[aA]at hh;subst hh;exact d _ _ a
  exact b _ hh
 exact b _ hh
theorem BI{P:Program}{wr:Bool}{t:TypeId}{l c r:AV}{h h':H}(hh:gN P wr h t l c=some (r,h')):NL h h':=by
 unfold gN at hh;split at hh<;>try(cases hh;done)
 split at hh<;>try(cases hh;done)
 split at hh<;>try(cases hh;done)
 split at hh
 ·simp only[aA,aD]at hh;obtain⟨_,rfl⟩:=hh;exact .push _ _
 simp only[aA,aD]at hh;obtain⟨_,rfl⟩:=hh;exact .push _ _
def NLx(X:List Nat) (h h':H):Prop:=∀(id:Nat) cs st,id∉X->h[id]?=some (.cells cs st)->∃st',h'[id]?=some (.cells cs st')/\(st'=.dead↔st=.dead)
theorem NL.x{h h':H}(n:NL h h') (X:List Nat):NLx X h h':=λid a b _ c=>n id a b c
theorem NLx.set{h:H}{id:Nat}{x:VObj}{X:List Nat}(hx:id∈X\/∀cs st,h[id]?≠some (.cells cs st)):NLx X h (h.set id x):=λj cs st b a=>by
 have:id≠j:=λe=>by subst e;rcases hx with hx|hx;exact b hx;exact hx _ _ a
 exact⟨st,by rw[aE this];exact a,Iff.rfl⟩
theorem vj{P:Program}{t:TypeId}{a b r:AV}{h h':H}(hh:eV P h t a b=some (r,h')):NLx (ce a) h h':=by
 unfold eV at hh;split at hh<;>try(cases hh;done)
 split at hh<;>try(cases hh;done)
 split at hh<;>try(cases hh;done)
 split at hh<;>try(cases hh;done)
 ·split at hh<;>try(cases hh;done)
  split at hh<;>try(cases hh;done)
  split at hh
  ·split at hh
   ·simp only[aA,aD]at hh;obtain⟨_,rfl⟩:=hh;exact(NL.refl _).x _
   simp only[aA,aD]at hh;obtain⟨_,rfl⟩:=hh;exact(NL.push _ _).x _
  ·split at hh<;>try(cases hh;done)
   rename_i c;split at hh<;>try(cases hh;done)
   simp only[aA,aD]at hh;obtain⟨_,rfl⟩:=hh;exact .set (.inr λd f e=>by rw[c]at e;cases e)
  split at hh
  ·simp only[aA,aD]at hh;obtain⟨_,rfl⟩:=hh;exact(NL.refl _).x _
  cases hh
 split at hh<;>try(cases hh;done)
 split at hh<;>try(cases hh;done)
 simp only[aA,aD]at hh;obtain⟨_,rfl⟩:=hh;exact .set (.inl (by simp[ce]))
theorem vk{P:Program}{t:TypeId}{a b r:AV}{h h':H}(hh:fM P h t a b=some (r,h')):NLx (ce a) h h':=by
 unfold fM at hh;split at hh<;>try(cases hh;done)
 split at hh<;>try(cases hh;done)
 split at hh<;>try(cases hh;done)
 split at hh<;>try(cases hh;done)
 split at hh<;>try(cases hh;done)
 ·split at hh
  ·simp only[aA,aD]at hh;obtain⟨_,rfl⟩:=hh;exact(NL.refl _).x _
  split at hh<;>try(cases hh;done)
  simp only[aA,aD]at hh;obtain⟨_,rfl⟩:=hh;exact(NL.push _ _).x _
 split at hh
 ·simp only[aA,aD]at hh;obtain⟨_,rfl⟩:=hh;exact(NL.refl _).x _
 split at hh<;>try(cases hh;done)
 split at hh<;>try(cases hh;done)
 simp only[aA,aD]at hh;obtain⟨_,rfl⟩:=hh;exact λj g d f c=>⟨d,by rw[aP (by simp;exact(aB.1 c).1),aE (λe=>f (by simp[ce,e]))];exact c,Iff.rfl⟩
theorem IF{P:Program}{t:TypeId}{a r:AV}{n:Int}{h h':H}(hh:ob P h t a n=some (r,h')):NL h h':=by
 unfold ob at hh;split at hh<;>try(cases hh;done)
 split at hh<;>try(cases hh;done)
 split at hh<;>try(cases hh;done)
 split at hh
 ·simp only[aA,aD]at hh;obtain⟨_,rfl⟩:=hh;exact .refl _
 simp only[aA,aD]at hh;obtain⟨_,rfl⟩:=hh;exact .push _ _
theorem IG{P:Program}{wr:Bool}{t:TypeId}{a b r:AV}{h h':H}(hh:bu P wr h t a b=some (r,h')):NLx (ce a) h h':=by
 unfold bu at hh;split at hh
 ·exact vj hh
 split at hh
 ·split at hh
  ·rename_i z c;simp only[aA]at hh;subst hh;exact vj c
  exact vk hh
 split at hh
 ·rename_i z c;simp only[aA]at hh;subst hh;exact vk c
 exact vj hh
theorem UQ{C:Cfg}{run:FuncId->LA->H->Option (AV × H)}{cf:FuncId}{s:PT}{hp h':H}{o:Oper}{r:AV}(hh:opA C run cf s hp o=some (r,h')) (hq:clash.loud C o=false):NLx (fL s o) hp h':=by
 unfold opA at hh;split at hh
 ·split at hh
  ·simp only[aA,aD]at hh;obtain⟨_,rfl⟩:=hh;exact(NL.refl _).x _
  split at hh<;>try(cases hh;done)
  simp only[aA,aD]at hh;obtain⟨_,rfl⟩:=hh;exact(NL.push _ _).x _
 ·split at hh<;>try(cases hh;done)
  split at hh<;>try(cases hh;done)
  simp only[aA,aD]at hh;obtain⟨_,rfl⟩:=hh;exact(NL.push _ _).x _
 ·split at hh<;>try(cases hh;done)
  simp only[aA,aD]at hh;obtain⟨_,rfl⟩:=hh;exact(NL.push _ _).x _
 ·split at hh<;>try(cases hh;done)
  unfold cI at hh;split at hh<;>try(cases hh;done)
  split at hh<;>try(cases hh;done)
  split at hh<;>try(cases hh;done)
  split at hh<;>try(cases hh;done)
  split at hh<;>try(cases hh;done)
  simp only[aA,aD]at hh;obtain⟨_,rfl⟩:=hh;exact(NL.stiller (iM _ _)).x _
 ·split at hh<;>try(cases hh;done)
  exact(BI hh).x _
 ·rename_i h;simp[clash.loud,h]at hq
 ·rename_i w b h;split at hh<;>try(cases hh;done)
  rename_i x y t u j B;split at hh
  ·split at hh<;>try(cases hh;done)
   rename_i c d m D;have:=IG hh;have e:fL s o=ce c:=by simp only[fL,h,j,m]
   rw[e];exact this
  split at hh
  rotate_left 1
  ·split at hh<;>try(cases hh;done)
   split at hh<;>try(cases hh;done)
   rename_i c n m D;exact(IF hh).x _
  split at hh<;>try(cases hh;done)
  rename_i c d m D;have:=vk hh;have e:fL s o=ce c:=by simp only[fL,h,j,m]
  rw[e];exact this
 ·rename_i f w b h;split at hh<;>try(cases hh;done)
  ·rename_i g v l m E;split at hh
   rotate_left 1
   ·unfold K8 at hh;split at hh<;>try(cases hh;done)
    split at hh<;>try(cases hh;done)
    split at hh<;>try(cases hh;done)
    simp only[aA,aD]at hh;obtain⟨_,rfl⟩:=hh;exact(NL.refl _).x _
   cases f with
   |func f=>
    simp only[ev,aA,AV.func.injEq]at m;obtain⟨rfl,rfl⟩:=m;have a:C.mode f≠.openH:=by simpa[clash.loud,h]using hq
    unfold dM at hh;split at hh
    ·exact absurd ‹_› a
    ·split at hh<;>try(cases hh;done)
     split at hh<;>try(cases hh;done)
     rename_i p;simp only[aA,aD]at hh;obtain⟨_,rfl⟩:=hh;exact(tz p).x _
    ·split at hh<;>try(cases hh;done)
     split at hh<;>try(cases hh;done)
     rename_i p;split at hh<;>try(cases hh;done)
     simp only[aA,aD]at hh;obtain⟨_,rfl⟩:=hh;exact((tz p).trans (.stiller (iM _ _))).x _
    split at hh<;>try(cases hh;done)
    split at hh<;>try(cases hh;done)
    exact(HO (.stiller (iM _ _)) hh).x _
   |_=>simp[clash.loud,h]at hq
  rename_i i l m E;cases f with
  |func f=>simp[ev]at m
  |_=>simp[clash.loud,h]at hq
 ·simp only[aA,aD]at hh;obtain⟨_,rfl⟩:=hh;exact(NL.push _ _).x _
 ·split at hh<;>try(cases hh;done)
  split at hh<;>try(cases hh;done)
  simp only[aA,aD]at hh;obtain⟨_,rfl⟩:=hh;exact(NL.refl _).x _
 ·split at hh<;>try(cases hh;done)
  split at hh<;>try(cases hh;done)
  rename_i F a;simp only[aA,aD]at hh;obtain⟨_,rfl⟩:=hh;unfold fS at a;split at a<;>try(cases a;done)
  split at a<;>try(cases a;done)
  rename_i G q;have k:∀z A,hp[_]?≠some (VObj.cells z A):=λz A e=>by rw[q]at e;cases e
  split at a<;>try(cases a;done)
  split at a
  ·split at a<;>try(cases a;done)
   split at a<;>try(cases a;done)
   split at a<;>try(cases a;done)
   simp only[aA]at a;subst a;exact NLx.set (.inr k)
  ·split at a<;>try(cases a;done)
   simp only[aA]at a;subst a;exact NLx.set (.inr k)
  cases a
 ·split at hh<;>try(cases hh;done)
  split at hh<;>try(cases hh;done)
  rename_i F a;simp only[aA,aD]at hh;obtain⟨_,rfl⟩:=hh;unfold fS at a;split at a<;>try(cases a;done)
  split at a<;>try(cases a;done)
  rename_i G q;have k:∀z A,hp[_]?≠some (VObj.cells z A):=λz A e=>by rw[q]at e;cases e
  split at a<;>try(cases a;done)
  split at a
  ·split at a<;>try(cases a;done)
   split at a<;>try(cases a;done)
   split at a<;>try(cases a;done)
   simp only[aA]at a;subst a;exact NLx.set (.inr k)
  ·split at a<;>try(cases a;done)
   simp only[aA]at a;subst a;exact NLx.set (.inr k)
  cases a
 ·rename_i h;simp[clash.loud,h]at hq
 ·rename_i h;simp[clash.loud,h]at hq
 cases hh
end Go.V
