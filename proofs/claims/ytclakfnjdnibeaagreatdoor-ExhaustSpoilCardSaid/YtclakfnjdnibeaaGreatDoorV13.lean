/- A part of the proof. -/
import Derived.Test.YtclakfnjdnibeaaGreatDoorV27
set_option maxHeartbeats 1000000
namespace Go.V
open Go
section
variable {P:Program}{B:Nat}{A0:Nat->Nat->Prop}{σ:List (Option Nat)}{h:H}{w:World}
theorem vV{A:Nat->Nat->Prop}{c:AV}{v:Value}(r:IRel A w c v) (hn:bf c=true):v.cells.size=c.cells.length/\(∀x∈c.cells,x.one=true) /\
  ∀(i:Nat) x u,c.cells[i]?=some x->v.cells[i]?=some u->IRel A w x u:=by
 by_cases g:∃e,c=.agg e
 ·obtain⟨e,rfl⟩:=g;cases r with|agg h1 h2 h3=>exact⟨h2,h1,h3⟩
 have d:c.one=true:=by cases c<;>simp_all [AV.one,bf]
 have a:c.cells=[c]:=by cases c<;>simp_all [AV.cells,AV.one]
 have h:v.cells = #[v]:=by cases r<;>simp_all [Value.cells,AV.one]
 rw[a,h];refine⟨rfl,λx b=>by simp at b;subst b;exact d,λi x u b f=>?_⟩;cases i with
 |zero=>simp at b f;subst b f;exact r
 |succ i=>simp at b
theorem N5(off:Nat):∀(l:List Value) (k:Nat) (cs:Array Value),off+k+l.length<=cs.size ->
  ((l.zipIdx k).foldl (λcs (c,j)=>cs.setIfInBounds (off+j) c) cs).size=cs.size /\
  ∀m:Nat,((l.zipIdx k).foldl (λcs (c,j)=>cs.setIfInBounds (off+j) c) cs)[m]?=if off+k<=m/\m<off+k+l.length then l[m-(off+k)]? else cs[m]?:=by
 intro l;induction l with
 |nil=>intro k cs _;simp;intro m h i;omega
 |cons c l b=>
  intro k cs d;simp only[aG]at d;simp only[nU,gG];have⟨e,f⟩:=b (k+1) (cs.setIfInBounds (off+k) c) (by simp;omega);refine⟨by simp[e],λm=>?_⟩;rw[f];by_cases g:m=off+k
  ·subst g;rw[if_neg o_,if_pos (by simp only[aG];omega),kO o_];simp
  by_cases a:off+(k+1)<=m/\m<off+(k+1)+l.length
  ·rw[if_pos a,if_pos (by simp only[aG];omega)];rw[show m-(off+k)=(m-(off+(k+1)))+1 by omega];rfl
  rw[if_neg a,if_neg (by simp only[aG];omega)];rw[jJ o_]
theorem N9(sz:Nat):∀(us:List (Nat × Value)) (k:Nat) (vs:Array Value),us.map (·.1)=List.range' k us.length->(∀p∈us,p.2.cells.size=sz)->(k+us.length)*sz<=vs.size ->
  ∃vs':Array Value,Instr.fill (λi=>some (i*sz,sz)) vs us=some vs'/\vs'.size=vs.size/\(∀(i:Nat) p,us[i]?=some p->∀j,j<sz->vs'[(k+i)*sz+j]?=p.2.cells[j]?)/\∀m,m<k*sz->vs'[m]?=vs[m]?:=by
 intro us;induction us with
 |nil=>intro k vs _ _ _;exact⟨vs,rfl,rfl,s_,λ_ _=>rfl⟩
 |cons p us o=>
  intro k vs d l r;have⟨i,u⟩:=p;simp only[aS,aG,List.range'_succ,bw]at d;obtain⟨rfl,d⟩:=d;simp only[aG]at r;have s:u.cells.size=sz:=l (i,u) s_;have z:(i+(us.length+1))*sz=(i+1+us.length)*sz:=by congr 1;omega
  have A:(i+1)*sz=i*sz+sz:=gW i sz;have B:(i+1)*sz<=(i+1+us.length)*sz:=cQ _ o_;have⟨g,h⟩:=N5 (i*sz) u.cells.toList 0 vs (by simp;omega);simp only[df,dR,s]at g h;have b:(u.cells.zipIdx.foldl (λe (c,j)=>e.setIfInBounds (i*sz+j) c) vs)=((u.cells.toList.zipIdx 0).foldl (λe (c,j)=>e.setIfInBounds (i*sz+j) c) vs):=by rw[<-jy];simp
  have⟨vs',t,v,w,n⟩:=o (i+1) (u.cells.zipIdx.foldl (λe (c,j)=>e.setIfInBounds (i*sz+j) c) vs) d (λp x=>l p (by simp[x])) (by rw[b,g];omega);refine⟨vs',?_,by rw[v,b,g],λa q f j y=>?_,λm d=>?_⟩
  ·simp only[Instr.fill];rw[if_neg (by simp;omega)];exact t
  ·cases a with
   |zero=>simp only[be,aA]at f;subst f;rw[n _ (by rw[df];omega),b,h,if_pos (by rw[df];omega),bM];congr 1;rw[df];omega
   |succ a=>simp only[dH]at f;have:=w a q f j y;rw[<-this,show i+(a+1)=i+1+a by omega]
  rw[n m o_,b,h,if_neg o_]
theorem DW{n:Nat}:∀(l:LA),rn n l=true->∀e∈l,e.cells.length=n/\bf e=true:=by
 intro l;induction l with
 |nil=>intro _ e b;cases b
 |cons a l d=>
  intro c e b;simp only[rn,am,beq_iff_eq]at c;rcases ao.1 b with rfl|b
  ·exact c.1
  exact d c.2 e b
theorem wo [DFlag] (hr:HRel P B A0 σ h w){t:TypeId}{len:Nat}{parts:List (Nat × AV)}{us:Array (Nat × Value)}{r:AV}{h':H}(hh:cI P h t len parts=some (r,h')) (hl:us.size=parts.length)
  (hp:∀(k i:Nat) c j u,parts[k]?=some (i,c)->us[k]?=some (j,u)->i=j/\Rel P (Alw P B A0 σ h) σ h w c u/\bf c=true) :
  ∃v w',(Instr.buildSlice t len us).run P w=.ok v w'/\er P B A0 σ h w r h' v w':=by
 unfold cI at hh;split at hh<;>try(cases hh;done)
 rename_i l ht;split at hh<;>try(cases hh;done)
 rename_i g N;split at hh<;>try(cases hh;done)
 rename_i J;simp only[bo,cN,beq_iff_eq,not_or,iy,decide_eq_false_iff_not,Decidable.not_not]at J;have⟨⟨⟨q0,z1⟩,z2⟩,a⟩:=J;have a:parts.map (·.1)=List.range len:=by simpa using a
 split at hh<;>try(cases hh;done)
 rename_i O q4;split at hh<;>try(cases hh;done)
 rename_i q5;simp only[aA,aD]at hh;obtain⟨rfl,rfl⟩:=hh;have Q:=iM h (cY h dD (parts.map (·.2)));generalize freeze h (cY h dD (parts.map (·.2)))=h2 at *;have n:=hr.stiller Q;have S:=Step.stiller hr Q;have⟨m1,m2,_⟩:=ia n _ _ _ q4;have E:parts.length=len:=by have:=congrArg List.length a;simpa using this
 simp only[aU]at m1;have y:=DW _ q5;have⟨i,z,K,hz,z4⟩:=nh q0;have z3:i.size=g:=by simpa[cr,K]using N
 have f:∀(k:Nat) e,O[k]?=some e->∃u,us[k]?=some (k,u)/\IRel (Alw P B A0 σ h2) w e u:=by
  intro k e D;have q:k<parts.length:=by rw[<-m1];exact(aB.1 D).1
  have L:parts[k]?=some parts[k]:=aC q;have hu:us[k]?=some (us[k]' o_):=aT _;have⟨q1,q2,q3⟩:=hp k parts[k].1 parts[k].2 (us[k]' o_).1 (us[k]' o_).2 L hu;have z5:parts[k].1=k:=by
   have:(parts.map (·.1))[k]?=some parts[k].1:=by rw[ba,L];rfl
   rw[a,eO o_]at this;simpa using this.symm
  refine⟨(us[k]' o_).2,by rw[hu];congr 1;ext1<;>simp;omega,?_⟩;exact m2 k parts[k].2 e _ (by rw[ba,L];rfl) D (q2.step S)
 have U:∀p∈us.toList,p.2.cells.size=g:=by
  intro p q6;obtain⟨k,q,rfl⟩:=bg q6;have V:k<O.length:=by rw[m1,<-hl];simpa using q
  have⟨u,F,M⟩:=f k _ (aC V);have⟨e3,e4⟩:=y _ (aF V);have:=(vV M e4).1;have hu:us.toList[k]=(k,u):=by rw[<-bM,aC q]at F;simpa using F
  rw[hu];dsimp;omega
 have G:us.toList.map (·.1)=List.range' 0 us.toList.length:=by
  apply cU;intro k;rw[<-List.range_eq_range'];by_cases q:k<O.length
  ·have⟨u,F,M⟩:=f k _ (aC q);rw[ba,bM,F,eO (by simp;omega)];rfl
  rw[cK (by simp;omega),cK (by simp;omega)]
 have I:us.toList.length=len:=by simp;omega
 have run:∀d:Array Value,d.size=len*g->((len*g=0/\d = #[])\/(len*g≠0/\d=(Array.range (len*g)).map (z.cells[·% z.cells.size]!))) ->
   ∃s:Array Value,s.size=len*g/\(Instr.buildSlice t len us).run P w=.ok (.slice (some ⟨w.heap.size,0,none⟩) len len) (w.alloc (.cells s l))/\∀(k:Nat) u,us[k]?=some (k,u)->∀j,j<g->s[k*g+j]?=u.cells[j]?:=by
  intro d A m;have⟨s,k1,k2,k3,_⟩:=N9 g us.toList 0 d G U (by rw[I,cH];omega);refine⟨s,o_,?_,λk u q j hj=>by have:=k3 k (k,u) (by simpa using q) j hj;simpa using this⟩;have q7:(zeroValue l).run P w=.ok z w:=by simp[zeroValue,typeInfo,K,hz]
  simp only[Instr.buildSlice,Sem.run_bind,bd ht,Result.andThen_ok,fQ N];rw[if_neg o_];rcases m with⟨c1,rfl⟩|⟨c1,rfl⟩
  ·simp only[c1,if_true,Sem.run_bind,Sem.run_pure,Result.andThen_ok];have e0:(Array.range 0).map (λx=>(#[]:Array Value)[x%(#[]:Array Value).size]!) = #[]:=by simp[show Array.range 0=(#[]:Array Nat)from rfl]
   rw[e0,k1];simp only[newRow,Sem.run_bind,run_newObj,Result.andThen_ok,Sem.run_pure,World.alloc_eq]
  simp only[if_neg c1,Sem.run_bind,q7,Sem.run_pure,Result.andThen_ok];rw[k1];simp only[newRow,Sem.run_bind,run_newObj,Result.andThen_ok,Sem.run_pure,World.alloc_eq]
 have A:∃d:Array Value,d.size=len*g/\((len*g=0/\d = #[])\/(len*g≠0/\d=(Array.range (len*g)).map (z.cells[·% z.cells.size]!))):=by
  by_cases c:len*g=0
  ·exact⟨#[],by simp[c],.inl ⟨c,rfl⟩⟩
  exact⟨_,s_,.inr ⟨c,rfl⟩⟩
 have⟨d,A,m⟩:=A;have⟨s,q8,X,Y⟩:=run d A m;have J:=Grows.alloc w (.cells s l);have q9:=Step.grows n J;refine⟨_,_,X,σ,n.grows J,S.trans q9,?_⟩;have z':Flat (Alw P B A0 σ h2) (w.alloc (.cells s l)) g O s.toList:=by
  refine⟨by simp;rw[q8,m1,E],y,λe D=>?_,λk j e c D L=>?_⟩
  ·obtain⟨k,q,rfl⟩:=bg D;have⟨u,F,M⟩:=f k _ (aC q);exact(vV M (y _ D).2).2.1
  have⟨u,F,M⟩:=f k e D;have hm:=y e (ai D);have⟨q1,q2,q3⟩:=vV M hm.2;have hj:j<g:=by rw[<-hm.1];exact(aB.1 L).1
  have hx:u.cells[j]?=some (u.cells[j]' o_):=aT _;refine⟨_,by rw[bM,Y k u F j hj];exact hx,(q3 j c _ L hx).mono λb o x ha z0=>⟨ha,J.cell z0⟩⟩
 have Z:O.length=len:=o_;have q':len<=maxLen:=by have:len*1<=len*g:=lG _ o_;simp only[maxLen];omega
 have:=Cw (b:=w.heap.size) (o:=0) (cap:=len) z' o_ o_ q' (λk x hx=>by
  rw[cH];refine⟨?_,by rw[cell_of_row _ w.heap.size k s l _ (heap_alloc_new w _)];simpa using hx⟩;have:=hr.base;unfold Alw;rw[if_neg o_];refine⟨λi cs K hs=>?_,λi u ty K hs=>?_⟩
  ·have:=n.lt K rfl hs;omega
  have:=n.lt K rfl hs;omega)
 rw[Z]at this;exact .full this
variable {n:Nat}{s:PT}{a:Act}
theorem CQ(hg:lS (Alw P B A0 σ h) w) (hs:SRel P (Alw P B A0 σ h) σ h w n s a.tmps){args:Array Operand}{l:LA}(hl:evs s args.toList=some l) :
  (args.map a.eval).size=l.length/\∀(i:Nat) c u,l[i]?=some c->(args.map a.eval)[i]?=some u->Rel P (Alw P B A0 σ h) σ h w c u:=by
 have⟨e,f⟩:=uX hg hs _ _ hl;refine⟨by simpa using e.symm,λi c u g b=>?_⟩;rw[iR]at b;cases d:args[i]? with
 |none=>simp[d]at b
 |some x=>simp[d]at b;subst b;exact f i c x g (by simpa using d)
theorem Ci:∀ {l:LA}{us:List Value},toList l=some us->∀ {vs:Array Value},vs.size=l.length->(∀(i:Nat) c u,l[i]?=some c->vs[i]?=some u->Rel P (Alw P B A0 σ h) σ h w c u)->vs=us.toArray:=by
 have d:∀(l:LA) (us:List Value),toList l=some us->us.length=l.length/\∀(i:Nat) c u,l[i]?=some c->us[i]?=some u->cw c=some u:=by
  intro l;induction l with
  |nil=>intro us h;simp only[toList,aA]at h;subst h;simp
  |cons c l n=>
   intro us h;simp only[toList]at h;split at h<;>try(cases h;done)
   rename_i u o e k;simp only[aA]at h;subst h;have⟨f,g⟩:=n _ k;refine⟨by simp[f],λi x y a b=>?_⟩;cases i with
   |zero=>simp at a b;subst a b;exact e
   |succ i=>simp at a b;exact g i x y a b
 intro l us p vs q r;have⟨f,g⟩:=d l us p;apply Array.ext
 ·simp[q,f]
 intro i e k;have m:i<l.length:=o_;have s:vs[i]?=some vs[i]:=aT e;have t:us[i]?=some (us[i]' o_):=aC o_;have j:=g i l[i] _ (aC m) t;have v:=r i l[i] _ (aC m) s;have:fH l[i]=some (us[i]' o_):=by generalize l[i]=c at j;cases c<;>first|exact j|(simp[cw]at j;done)
 rw[km this v];simp
abbrev FR(ro:Option Nat):Fence:={Fence.wide with round:=ro}
variable {ro:Option Nat}{nd:Nat}
theorem gu{o:Oper}{next:Act->World->Prop}{Q:Exit->Act->World->Prop}{v:Value}{w':World}(hd:∀c,o.op≠.defer c) (he:(execOp a.eval o).run P w=.ok (.value v) w') (hn:next (a.put o.dst v) w'):o.wpIn (FR ro) nd P a w next Q:=by refine⟨λ_ _=>trivial,?_⟩;rw[Oper.semAt_eq _ _ _ hd,he];exact hn
theorem zX{o:Oper}{next:Act->World->Prop}{Q:Exit->Act->World->Prop}{w':World}(hd:∀c,o.op≠.defer c) (he:(execOp a.eval o).run P w=.ok .skip w') (hn:next (a.put o.dst undef) w'):o.wpIn (FR ro) nd P a w next Q:=by refine⟨λ_ _=>trivial,?_⟩;rw[Oper.semAt_eq _ _ _ hd,he];exact hn
theorem MH{o:Oper}{next:Act->World->Prop}{Q:Exit->Act->World->Prop}{f:FuncId}{vs:Array Value}{R:Value->World->Prop}(hd:∀c,o.op≠.defer c) (he:(execOp a.eval o).run P w=.ok (.enter f vs) w)
  (hc:Calls P f vs w (λe w'=>∃v,e=.returned v/\R v w')) (hn:∀v w',R v w'->next (a.put o.dst v) w'):o.wpIn (FR ro) nd P a w next Q:=by
 refine⟨λ_ _=>trivial,?_⟩;rw[Oper.semAt_eq _ _ _ hd,he];refine⟨λh=>(by cases h),?_⟩;have b:CallsIn (FR ro) (nd-1) P f vs w (λe w'=>∃v,e=.returned v/\R v w'):=(callsIn_wide (n:=nd-1)).2 hc;exact b.mono λe w' ⟨v,he,d⟩=>by subst he;exact hn v w' d
theorem MG{o:Oper}{next:Act->World->Prop}{Q:Exit->Act->World->Prop}{l:Nat}{f:FuncId}{tmps:Array Value}{assign body:Code}{R:Value->World->Prop}(hd:∀c,o.op≠.defer c)
  (he:(execOp a.eval o).run P w=.ok (.round l f tmps assign body) w)
  (hc:∀k,RoundIn Fence.wide k P l f tmps assign body w (λe w'=>∃v,e=.returned v/\R v w')) (hn:∀v w',R v w'->next (a.put o.dst v) w'):o.wpIn (FR ro) nd P a w next Q:=by
 refine⟨λ_ _=>trivial,?_⟩;rw[Oper.semAt_eq _ _ _ hd,he];refine⟨λh=>(by cases h),?_⟩;have b:RoundIn (FR ro) (nd-1) P l f tmps assign body w (λe w'=>∃v,e=.returned v/\R v w'):=hc (nd-1);exact b.mono λe w' ⟨v,he,d⟩=>by subst he;exact hn v w' d
theorem UO{s:PT}{o:Oper}{v:AV}(hv:opN P s o=some v):∀c,o.op≠.defer c:=λc e=>by simp[opN,e]at hv
theorem wB(hP:Good P){f:FuncId}{vs:Array Value}(hb:eE P f=true):(callFunc f vs).run P w=.ok (.enter f vs) w:=by
 unfold eE at hb;split at hb<;>try(cases hb;done)
 rename_i b a;have⟨c,d⟩:=dC.1 hb;simp only[callFunc,Sem.run_bind,run_program,Result.andThen_ok,a];rw[hP.names f b a];simp[d]
theorem xN [DFlag] {C:Cfg}(hP:Good P) (hC:C.P=P){run:FuncId->LA->H->Option (AV × H)}(hrun:Ok P run){cf:FuncId}(hr:HRel P B A0 σ h w) (hs:SRel P (Alw P B A0 σ h) σ h w n s a.tmps)
  {o:Oper}{r:AV}{h':H}(hh:opV C run cf s h o=some (r,h')){next:Act->World->Prop}{Q:Exit->Act->World->Prop}
  (hn:∀v w',er P B A0 σ h w r h' v w'->next (a.put o.dst v) w'):o.wpIn (FR ro) nd P a w next Q:=by
 subst hC;unfold opV at hh;split at hh
 ·rename_i X;unfold opA at hh;split at hh
  ·rename_i x A;have G:a.eval x=.slice none 0 0:=by simp only[dW,A,CH]at X;split at X<;>first|rfl|(cases X;done)
   split at hh
   ·simp only[aA,aD]at hh;obtain⟨rfl,rfl⟩:=hh;exact gu (by simp[A]) (by simp only[execOp,A,Sem.run_pure,G]) (hn _ _ ⟨σ,hr,.refl _ _ _,.full .islNil⟩)
   split at hh<;>try(cases hh;done)
   rename_i e he;simp only[aA,aD]at hh;obtain⟨rfl,rfl⟩:=hh;exact gu (by simp[A]) (by simp only[execOp,A,Sem.run_pure,G]) (hn _ _ (C3 hr e))
  ·rename_i t x A;split at hh<;>try(cases hh;done)
   rename_i c m G hm;split at hh<;>try(cases hh;done)
   rename_i V;simp only[aA,aD]at hh;obtain⟨rfl,rfl⟩:=hh;have⟨v,w',S,U⟩:=CZ (t:=t) hr (bz hr.gr hs G) V.2;exact gu (by simp[A]) (by simp only[execOp,A];simp only[Sem.run_bind,S,Result.andThen_ok,Sem.run_pure]) (hn _ _ U)
  ·rename_i t A;split at hh<;>try(cases hh;done)
   rename_i c hz;simp only[aA,aD]at hh;obtain⟨rfl,rfl⟩:=hh;have⟨v,w',S,U⟩:=F7 hr hz;exact gu (by simp[A]) (by simp only[execOp,A];simp only[Sem.run_bind,S,Result.andThen_ok,Sem.run_pure]) (hn _ _ U)
  ·rename_i t len Y A;split at hh<;>try(cases hh;done)
   rename_i l hl;have⟨S,U⟩:=wC hr.gr hs _ _ hl;have⟨v,w',J,K⟩:=wo (us:=Y.map λ(i,x)=>(i,a.eval x)) hr hh (by simpa using S.symm) (λk i c j u V M=>by
    rw[iR]at M;cases hp:Y[k]? with
    |none=>simp[hp]at M
    |some q=>have⟨j',x⟩:=q;simp[hp]at M;obtain⟨rfl,rfl⟩:=M;exact U k i c _ x V (by simpa using hp))
   exact gu (by simp[A]) (by simp only[execOp,A];simp only[Sem.run_bind,J,Result.andThen_ok,Sem.run_pure]) (hn _ _ K)
  ·rename_i t l c A;split at hh<;>try(cases hh;done)
   rename_i x y G N;have⟨v,w',J,K⟩:=xS hr hh (bz hr.gr hs G) (bz hr.gr hs N);exact gu (by simp[A]) (by simp only[execOp,A];simp only[Sem.run_bind,J,Result.andThen_ok,Sem.run_pure]) (hn _ _ K)
  ·rename_i t p x A;split at hh<;>try(cases hh;done)
   rename_i c d G N;split at hh<;>try(cases hh;done)
   rename_i h2 O;simp only[aA,aD]at hh;obtain⟨rfl,rfl⟩:=hh;have⟨w',J,K,g3⟩:=Ck hr O (bz hr.gr hs G) (bz hr.gr hs N);refine zX (w':=w') (by simp[A]) (by simp only[execOp,A,Sem.run_bind,J,Result.andThen_ok,Sem.run_pure]) (hn _ _ ⟨σ,K,g3,.data (.tuple (vs:=#[]) rfl s_)⟩)
  ·rename_i E D A;split at hh<;>try(cases hh;done)
   rename_i x y t u L I;have S:E = #[x,y]:=by apply Array.ext';simpa using L
   have U:D = #[t,u]:=by apply Array.ext';simpa using I
   subst S U;split at hh
   ·rename_i q2;subst q2;split at hh<;>try(cases hh;done)
    rename_i c d G N;have⟨v,w',J,K⟩:=BV (ty:=o.type) hr hh (bz hr.gr hs G) (bz hr.gr hs N);refine gu (w':=w') (v:=v) (by simp[A]) ?_ (hn _ _ K);simp only[execOp,A,resolve,invoke,builtin,Sem.run_bind,Sem.run_pure,Result.andThen_ok,iG,aS,bD,J]
   split at hh
   rotate_left 1
   ·split at hh<;>try(cases hh;done)
    rename_i Z;split at hh<;>try(cases hh;done)
    rename_i c n G N;have M:C.P.underlying u=some (.int .i64):=by
     unfold Nl at Z;split at Z
     ·assumption
     cases Z
    have⟨v,w',J,K⟩:=BU (ty:=o.type) hr M hh (bz hr.gr hs G);refine gu (w':=w') (v:=v) (by simp[A]) ?_ (hn _ _ K);have q6:=nW (bz hr.gr hs N);simp only[execOp,A,resolve,invoke,builtin,Sem.run_bind,Sem.run_pure,Result.andThen_ok,iG,aS,bD,q6,J]
   rename_i q4;split at hh<;>try(cases hh;done)
   rename_i c d G N;have⟨v,w',J,K⟩:=qW (ty:=o.type) hr (.inr q4) hh (bz hr.gr hs G) (bz hr.gr hs N);refine gu (w':=w') (v:=v) (by simp[A]) ?_ (hn _ _ K);simp only[execOp,A,resolve,invoke,builtin,Sem.run_bind,Sem.run_pure,Result.andThen_ok,iG,aS,bD,J]
  ·rename_i f E D A;split at hh<;>try(cases hh;done)
   ·rename_i g F l G hl;have⟨k1,k2⟩:=CQ hr.gr hs hl;have q':=bz hr.gr hs G;obtain⟨cs,q0,q7,q8⟩:∃cs:Array Value,a.eval f=.func (.func g) #[] cs/\cs.size=F.length/\∀(i:Nat) c u,F[i]?=some c->cs[i]?=some u->Rel C.P (Alw C.P B A0 σ h) σ h w c u:=by
     generalize a.eval f=z at q';cases q' with
     |data hr=>cases hr with|func h1 h2=>exact⟨_,rfl,h1,λi c u V M=>.data (h2 i c u V M)⟩
     |func h1 h2=>exact⟨_,rfl,h1,h2⟩
    have q1:(E.map a.eval++cs).size=(l++F).length:=by rw[mj,aL,k1,q7]
    have hrel:∀(i:Nat) c u,(l++F)[i]?=some c->(E.map a.eval++cs)[i]?=some u->Rel C.P (Alw C.P B A0 σ h) σ h w c u:=(λi c u V M=>by
     by_cases hi:i<l.length
     ·rw[aP hi]at V;rw[cT o_]at M;exact k2 i c u V M
     rw[aj o_]at V;rw[iA o_,k1]at M;exact q8 _ c u V M)
    split at hh
    ·rename_i hb;have q3:=zA rfl hrun hr hb (vs:=E.map a.eval++cs) hh q1 hrel;refine MH (f:=g) (vs:=E.map a.eval++cs) (by simp[A]) ?_ q3 hn;simp only[execOp,A,resolve,q0,Deferred.ofValue,Sem.run_bind,Sem.run_pure,Result.andThen_ok,invoke,jz];exact wB hP hb
    unfold K8 at hh;split at hh<;>try(cases hh;done)
    rename_i us q9;split at hh<;>try(cases hh;done)
    rename_i v hv;split at hh<;>try(cases hh;done)
    rename_i r' z';simp only[aA,aD]at hh;obtain⟨rfl,rfl⟩:=hh;have z0:E.map a.eval++cs=us.toArray:=Ci q9 q1 hrel;have z1:=C.extOk g us.toArray v w hv;refine gu (w':=w) (v:=v) (by simp[A]) ?_ (hn _ _ ⟨σ,hr,.refl _ _ _,jg z'⟩);simp only[execOp,A,resolve,q0,Deferred.ofValue,Sem.run_bind,Sem.run_pure,Result.andThen_ok,invoke,jz];rw[z0];exact z1
   rename_i i l G hl;have⟨k1,k2⟩:=CQ hr.gr hs hl;have q':=bz hr.gr hs G;obtain⟨b,q0,z2⟩:∃b,a.eval f=.func (.yield b) #[] #[]/\σ[i]?=some (some b):=by
    generalize a.eval f=z at q';cases q' with
    |data hr=>cases hr
    |yield h1 h2=>exact⟨_,rfl,h1⟩
   have⟨fn,tmps,q5,z4,S,U⟩:=hrun.yl i l h r h' hh B A0 σ w (E.map a.eval) hr k1 (λi c u V M=>k2 i c u V M) b z2;refine MG (l:=b) (by simp[A]) ?_ U hn;simp only[execOp,A,resolve,q0,Deferred.ofValue,Sem.run_bind,Sem.run_pure,Result.andThen_ok,invoke,jz,S]
  ·rename_i t A;simp only[aA,aD]at hh;obtain⟨rfl,rfl⟩:=hh;have⟨v,w',J,K⟩:=BJ hr t;exact gu (by simp[A]) (by simp only[execOp,A];simp only[Option.map_none,Sem.run_bind,J,Result.andThen_ok,Sem.run_pure]) (hn _ _ K)
  ·rename_i t x i ok A;split at hh<;>try(cases hh;done)
   rename_i c d G N;split at hh<;>try(cases hh;done)
   rename_i z hz;simp only[aA,aD]at hh;obtain⟨rfl,rfl⟩:=hh;have⟨v,J,K⟩:=BK hr hz (bz hr.gr hs G) (bz hr.gr hs N);exact gu (by simp[A]) (by simp only[execOp,A];simp only[Sem.run_bind,J,Result.andThen_ok,Sem.run_pure]) (hn _ _ ⟨σ,hr,.refl _ _ _,K⟩)
  ·rename_i t m k x A;split at hh<;>try(cases hh;done)
   rename_i c d e G N hz;split at hh<;>try(cases hh;done)
   rename_i h2 O;simp only[aA,aD]at hh;obtain⟨rfl,rfl⟩:=hh;have⟨w',J,K,g3⟩:=qp hr O (bz hr.gr hs G) (bz hr.gr hs N) (bz hr.gr hs hz);exact zX (w':=w') (by simp[A]) (by simp only[execOp,A,Sem.run_bind,J,Result.andThen_ok,Sem.run_pure]) (hn _ _ ⟨σ,K,g3,.data (.tuple (vs:=#[]) rfl s_)⟩)
  ·rename_i t m k x A;split at hh<;>try(cases hh;done)
   rename_i c d e G N hz;split at hh<;>try(cases hh;done)
   rename_i h2 O;simp only[aA,aD]at hh;obtain⟨rfl,rfl⟩:=hh;have⟨w',J,K,g3⟩:=qp hr O (bz hr.gr hs G) (bz hr.gr hs N) (bz hr.gr hs hz);exact zX (w':=w') (by simp[A]) (by simp only[execOp,A,Sem.run_bind,J,Result.andThen_ok,Sem.run_pure]) (hn _ _ ⟨σ,K,g3,.data (.tuple (vs:=#[]) rfl s_)⟩)
  ·rename_i E D A;split at hh<;>try(cases hh;done)
   rename_i x t L I;have S:E = #[x]:=by apply Array.ext';simpa using L
   have U:D = #[t]:=by apply Array.ext';simpa using I
   subst S U;split at hh<;>try(cases hh;done)
   rename_i c G;split at hh<;>try(cases hh;done)
   rename_i h2 O;simp only[aA,aD]at hh;obtain⟨rfl,rfl⟩:=hh;have⟨w',J,K,g3⟩:=Dc (ty:=o.type) hr O (bz hr.gr hs G);refine gu (w':=w') (v:=.tuple #[]) (by simp[A]) ?_ (hn _ _ ⟨σ,K,g3,.data (.tuple (vs:=#[]) rfl s_)⟩);simp only[execOp,A,resolve,invoke,builtin,Sem.run_bind,Sem.run_pure,Result.andThen_ok,iG,aS,bD,J]
  ·rename_i E D A;split at hh<;>try(cases hh;done)
   rename_i x y t u L I;have S:E = #[x,y]:=by apply Array.ext';simpa using L
   have U:D = #[t,u]:=by apply Array.ext';simpa using I
   subst S U;split at hh<;>try(cases hh;done)
   rename_i q2;split at hh<;>try(cases hh;done)
   rename_i c d G N;have z3:(∃e,C.P.underlying u=some (.slice e))\/C.P.underlying u=some .string:=by
    rcases q2 with rfl|M
    ·left;unfold JF at hh;split at hh<;>try(cases hh;done)
     exact⟨_,‹_›⟩
    right;unfold AP at M;split at M
    ·assumption
    cases M
   have⟨v,w',J,K⟩:=FI (ty:=o.type) hr z3 hh (bz hr.gr hs G) (bz hr.gr hs N);refine gu (w':=w') (v:=v) (by simp[A]) ?_ (hn _ _ K);simp only[execOp,A,resolve,invoke,builtin,Sem.run_bind,Sem.run_pure,Result.andThen_ok,iG,aS,bD,J]
  cases hh
 split at hh
 ·rename_i t x A;split at hh<;>try(cases hh;done)
  rename_i c G;split at hh<;>try(cases hh;done)
  rename_i v hv;simp only[aA,aD]at hh;obtain⟨rfl,rfl⟩:=hh;have⟨u,J,K⟩:=yL hr hv (bz hr.gr hs G);exact gu (by simp[A]) (by simp only[execOp,A];simp only[Sem.run_bind,J,Result.andThen_ok,Sem.run_pure]) (hn _ _ ⟨σ,hr,.refl _ _ _,K⟩)
 split at hh<;>try(cases hh;done)
 rename_i v hv;simp only[aA,aD]at hh;obtain⟨rfl,rfl⟩:=hh;have⟨u,J,K⟩:=KN hP hr.gr hs hv;exact gu (UO hv) J (hn _ _ ⟨σ,hr,.refl _ _ _,K⟩)
end
end Go.V
