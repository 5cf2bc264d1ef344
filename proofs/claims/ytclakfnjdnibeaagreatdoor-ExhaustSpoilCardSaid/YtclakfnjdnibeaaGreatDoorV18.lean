/- A part of the proof. -/
import Derived.Test.YtclakfnjdnibeaaGreatDoorV17
namespace Go.V
open Go
def WP(C:Cfg) (cf:FuncId) (c:Code) (s:PT) (h:H) (Q:Ex->PT->H->Prop):Prop:=∃e s' h',Exe C cf c s h=some (e,s',h')/\Q e s' h'
def OW(C:Cfg) (cf:FuncId) (ops:Array Oper) (l:List Oper) (s:PT) (h:H) (K:PT->H->Prop):Prop:=∃s' h',dz C (Call C) cf ops l s h=some (s',h')/\K s' h'
def zg(k:PT->H->Prop) (Q:Ex->PT->H->Prop):Ex->PT->H->Prop
 |.normal,s,h=>k s h
 |e,s,h=>Q e s h
def Az(id:Nat) (Q:Ex->PT->H->Prop):Ex->PT->H->Prop
 |.exit i,s,h=>if i=id then Q .normal s h else Q (.exit i) s h
 |e,s,h=>Q e s h
section
variable {C:Cfg}{cf:FuncId}{s:PT}{h:H}{Q:Ex->PT->H->Prop}{ops:Array Oper}{K:PT->H->Prop}
theorem WP.mono{c:Code}{Q':Ex->PT->H->Prop}(w:WP C cf c s h Q) (hq:∀e s h,Q e s h->Q' e s h):WP C cf c s h Q':=let ⟨e,s',h',hx,q⟩:=w;⟨e,s',h',hx,hq _ _ _ q⟩
@[simp] theorem P7 {k:PT->H->Prop}:zg k Q .normal s h=k s h:=rfl
@[simp] theorem Tr {k:PT->H->Prop}{i:Nat}:zg k Q (.exit i) s h=Q (.exit i) s h:=rfl
@[simp] theorem WD {k:PT->H->Prop}:zg k Q .ret s h=Q .ret s h:=rfl
@[simp] theorem Pt {id:Nat}:Az id Q .normal s h=Q .normal s h:=rfl
@[simp] theorem ye {id i:Nat}:Az id Q (.exit i) s h=if i=id then Q .normal s h else Q (.exit i) s h:=rfl
@[simp] theorem Vg {id:Nat}:Az id Q .ret s h=Q .ret s h:=rfl
theorem Sr:WP C cf .skip s h Q↔Q .normal s h:=⟨λ⟨e,b,c,a,q⟩=>by rw[GG]at a;cases a;exact q,λq=>⟨_,_,_,GG,q⟩⟩
theorem St{id:Nat}:WP C cf (.exit id) s h Q↔Q (.exit id) s h:=⟨λ⟨e,b,c,a,q⟩=>by rw[GI]at a;cases a;exact q,λq=>⟨_,_,_,GI id,q⟩⟩
theorem WP_ret:WP C cf .ret s h Q↔Q .ret s h:=⟨λ⟨e,b,c,a,q⟩=>by rw[Ja]at a;cases a;exact q,λq=>⟨_,_,_,Ja,q⟩⟩
theorem yA{id:Nat}{d:Bool}(hm:(d&&C.mix cf id)=false) (hd:pN C (Call C) cf ops d s h=true):WP C cf (.region id ops d) s h Q↔OW C cf ops ops.toList s h (λs h=>Q .normal s h):=by
 unfold WP OW;rw[IM _ _ _ hm];simp only[hd,if_true];constructor
 ·rintro⟨e,b,c,a,q⟩;split at a<;>try(cases a;done)
  rename_i f g i;simp only[aA,aD]at a;obtain⟨rfl,rfl,rfl⟩:=a;exact⟨f,g,i,q⟩
 rintro⟨b,c,a,q⟩;exact⟨.normal,b,c,by rw[a],q⟩
theorem Vw{a b:Code}:WP C cf (.seq a b) s h Q↔WP C cf a s h (zg (λs h=>WP C cf b s h Q) Q):=by
 unfold WP;rw[S7];constructor
 ·rintro⟨e,d,f,c,q⟩;split at c
  ·rename_i k l m;exact⟨.normal,k,l,m,e,d,f,c,q⟩
  rename_i g;refine⟨e,d,f,c,?_⟩;cases e with
  |normal=>exact absurd c (g _ _)
  |_=>exact q
 rintro⟨e,d,f,c,q⟩;cases e with
 |normal=>have⟨n,o,p,j,r⟩:=q;exact⟨n,o,p,by rw[c];exact j,r⟩
 |exit i=>exact⟨_,d,f,by rw[c],q⟩
 |ret=>exact⟨_,d,f,by rw[c],q⟩
theorem WP_cond{c:Operand}{a b:Code}:WP C cf (.cond c a b) s h Q↔∃x,ev s c=some (.bool x)/\(x=true->WP C cf a s h Q)/\(x=false->WP C cf b s h Q):=by
 unfold WP;rw[Po];constructor
 ·rintro⟨e,g,i,f,q⟩;split at f<;>try(cases f;done)
  ·rename_i d;exact⟨true,d,λ_=>⟨e,g,i,f,q⟩,λe=>by cases e⟩
  rename_i d;exact⟨false,d,λe=>(by cases e),λ_=>⟨e,g,i,f,q⟩⟩
 rintro⟨x,d,j,k⟩;cases x with
 |true=>rw[d];exact j rfl
 |false=>rw[d];exact k rfl
theorem PX{id:Nat}{b:Code}:WP C cf (.block id b) s h Q↔WP C cf b s h (Az id Q):=by
 unfold WP;rw[MC];constructor
 ·rintro⟨e,c,d,a,q⟩;split at a
  ·rename_i i g j k;refine⟨.exit i,g,j,k,?_⟩;simp only[ye];split at a
   ·simp only[aA,aD]at a;obtain⟨rfl,rfl,rfl⟩:=a;rw[if_pos ‹_›];exact q
   simp only[aA,aD]at a;obtain⟨rfl,rfl,rfl⟩:=a;rw[if_neg ‹_›];exact q
  rename_i f;refine⟨e,c,d,a,?_⟩;cases e with
  |exit i=>exact absurd a (f _ _ _)
  |_=>exact q
 rintro⟨e,c,d,a,q⟩;cases e with
 |normal=>exact⟨_,c,d,by rw[a],q⟩
 |ret=>exact⟨_,c,d,by rw[a],q⟩
 |exit i=>
  rw[a];simp only[ye]at q;by_cases e:i=id
  ·rw[if_pos e]at q;exact⟨_,c,d,by simp only[if_pos e],q⟩
  rw[if_neg e]at q;exact⟨_,c,d,by simp only[if_neg e],q⟩
theorem Ss{b:Code}(I:Nat->PT->H->Prop) (n:Nat) (h0:I n s h) (hs:∀n s h,I n s h->WP C cf b s h (zg (λs h=>∃m,m<n/\I m s h) Q)):WP C cf (.loop b) s h Q:=by
 induction n using Nat.strongRecOn generalizing s h with
 |ind n d=>
  have⟨e,a,c,f,q⟩:=hs n s h h0;unfold WP;rw[Pn,f];cases e with
  |normal=>have⟨m,g,j⟩:=q;exact d m g j
  |exit i=>exact⟨_,a,c,rfl,q⟩
  |ret=>exact⟨_,a,c,rfl,q⟩
theorem V0:OW C cf ops [] s h K↔K s h:=⟨λ⟨b,c,a,q⟩=>by simp only[dz,aA,aD]at a;obtain⟨rfl,rfl⟩:=a;exact q,λq=>⟨s,h,rfl,q⟩⟩
theorem JW{o:Oper}{l:List Oper}:OW C cf ops (o::l) s h K↔if Region.wanted o (dw ops s)=true then ∃v h',opV C (Call C) cf s h o=some (v,h')/\OW C cf ops l (jB s o.dst v) h' K else OW C cf ops l (jB s o.dst AV.undef) h K:=by
 unfold OW;simp only[dz];split
 ·constructor
  ·rintro⟨b,h',a,q⟩;split at a<;>try(cases a;done)
   rename_i v d c;exact⟨v,d,c,b,h',a,q⟩
  rintro⟨v,d,c,b,h',a,q⟩;exact⟨b,h',by rw[c];exact a,q⟩
 exact Iff.rfl
theorem tv{d:Option Tmp}{op:Op}{t:TypeId}{p:String}{af:Array Edge}{l:List Oper} :
  OW C cf ops (⟨d,op,t,p,af,none⟩::l) s h K↔∃v h',opV C (Call C) cf s h ⟨d,op,t,p,af,none⟩=some (v,h')/\OW C cf ops l (jB s d v) h' K:=by
 rw[JW,if_pos (show Region.wanted (⟨d,op,t,p,af,none⟩:Oper) (dw ops s)=true from rfl)]
theorem Pa{d:Option Tmp}{op:Op}{t:TypeId}{p:String}{af:Array Edge}{j:Nat}{want:Bool}{l:List Oper} :
  OW C cf ops (⟨d,op,t,p,af,some (j,want)⟩::l) s h K↔if dw ops s j=some want then ∃v h',opV C (Call C) cf s h ⟨d,op,t,p,af,some (j,want)⟩=some (v,h')/\OW C cf ops l (jB s d v) h' K else OW C cf ops l (jB s d AV.undef) h K:=by
 rw[JW];simp only[Region.wanted,beq_iff_eq]
theorem wF{o:Oper}(ha:dW o=false) (hl:jS o=false):opV C (Call C) cf s h o=(match opN C.P s o with|some v=>some (v,h)|none=>none):=by
 unfold opV;rw[ha];simp only[aw,if_false];split
 ·rename_i t x a;simp[jS,a]at hl
 rfl
theorem AK{o:Oper}{t:TypeId}{x:Operand}(ho:o.op=.load t x):opV C (Call C) cf s h o=(match ev s x with|some a=>(match aW C.P h t a with|some v=>some (v,h)|none=>none)|none=>none):=by
 unfold opV;rw[show dW o=false by simp[dW,ho]];simp only[aw,if_false];split
 ·rename_i d e b;rw[ho]at b;simp only[Op.load.injEq]at b;obtain⟨rfl,rfl⟩:=b;rfl
 rename_i c;exact absurd ho (c _ _)
theorem lh{o:Oper}(ha:dW o=true):opV C (Call C) cf s h o=opA C (Call C) cf s h o:=by unfold opV;rw[if_pos ha]
def dat:AV->Option AV
 |.agg cs=>match qD cs with
  |some l=>some (.agg l)
  |none=>none
 |.tuple cs=>match qD cs with
  |some l=>some (.tuple l)
  |none=>none
 |.func f cs=>match qD cs with
  |some l=>some (.func f l)
  |none=>none
 |v=>Hd v
def jd:LA->Option (LA)
 |[]=>some []
 |v::r=>match dat v,jd r with
  |some a,some l=>some (a::l)
  |_,_=>none
theorem CS{v v':AV}(hd:Hd v=some v') (n:Nat):fc h (n+1) v=some v'/\iW h (n+1) v=[]:=by cases v<;>simp only[Hd,aA]at hd<;>first|(cases hd;done)|(subst hd;exact⟨rfl,rfl⟩)
theorem jq:∀ {l l':LA},qD l=some l'->∀n,l.length<n->gE h (n+1) l=some l'/\cY h (n+1) l=[]:=by
 intro l;induction l with
 |nil=>intro l' b n _;simp only[qD,aA]at b;subst b;exact⟨rfl,rfl⟩
 |cons v l c=>
  intro l' b n d;simp only[aG]at d;obtain⟨n,rfl⟩:∃k,n=k+1:=⟨n-1,o_⟩
  simp only[qD]at b;split at b<;>try(cases b;done)
  rename_i a r e f;simp only[aA]at b;subst b;have⟨g,i⟩:=c f n o_;have⟨j,m⟩:=CS (h:=h) e n;exact⟨by simp only[gE,g,j],by simp only[cY,i,m,bm]⟩
theorem FH{v v':AV}(hd:dat v=some v') (n:Nat) (hn:∀cs,(v=.agg cs\/v=.tuple cs\/∃f,v=.func f cs)->cs.length<n):fc h (n+2) v=some v'/\iW h (n+2) v=[]:=by
 unfold dat at hd;split at hd
 ·split at hd<;>try(cases hd;done)
  rename_i cs l a;simp only[aA]at hd;subst hd;have⟨b,c⟩:=jq (h:=h) a n (hn _ (.inl rfl));exact⟨by simp only[fc,b],by simp only[iW,c]⟩
 ·split at hd<;>try(cases hd;done)
  rename_i cs l a;simp only[aA]at hd;subst hd;have⟨b,c⟩:=jq (h:=h) a n (hn _ (.inr (.inl rfl)));exact⟨by simp only[fc,b],by simp only[iW,c]⟩
 ·split at hd<;>try(cases hd;done)
  rename_i f cs l a;simp only[aA]at hd;subst hd;have⟨b,c⟩:=jq (h:=h) a n (hn _ (.inr (.inr ⟨_,rfl⟩)));exact⟨by simp only[fc,b],by simp only[iW,c]⟩
 exact CS hd (n+1)
def short(v:AV):Bool:=match v with
 |.agg cs | .tuple cs | .func _ cs=>decide (cs.length<900000)
 |_=>true
theorem zw{v:AV}(hs:short v=true):∀cs,(v=.agg cs\/v=.tuple cs\/∃f,v=.func f cs)->cs.length<900000:=by intro cs a;rcases a with rfl|rfl|⟨f,rfl⟩<;>simpa[short]using hs
theorem eo:∀ {l l':LA},jd l=some l'->l.all short=true->∀n,900000+l.length+3<=n->gE h n l=some l'/\cY h n l=[]:=by
 intro l;induction l with
 |nil=>intro l' b _ n d;simp only[jd,aA]at b;subst b;obtain⟨n,rfl⟩:∃k,n=k+1:=⟨n-1,o_⟩;exact⟨rfl,rfl⟩
 |cons v l e=>
  intro l' b c n d;simp only[aG]at d;obtain⟨n,rfl⟩:∃k,n=k+1:=⟨n-1,o_⟩
  simp only[jd]at b;split at b<;>try(cases b;done)
  rename_i a r f g;simp only[aA]at b;subst b;simp only[dt,am]at c;have⟨i,j⟩:=e g c.2 n o_;obtain⟨m,rfl⟩:∃k,n=k+2:=⟨n-2,o_⟩
  have⟨o,p⟩:=FH (h:=h) f m (λq s=>by have:=zw c.1 q s;omega);exact⟨by simp only[gE,i,o],by simp only[cY,j,p,bm]⟩
noncomputable def az(C:Cfg) (f:FuncId) (args:LA):Option AV:=match Call C f args []with
 |some (r,h1)=>fc (bj h1) dD r
 |none=>none
theorem oI{f:FuncId}{l l':LA}(hm:C.mode f=.strip) (hd:jd l=some l') (hs:l.all short=true) (hl:l.length<90000) :
  dM C (Call C) f l h=(match az C f l' with|some v=>some (v,h)|none=>none):=by
 have⟨a,b⟩:=eo (h:=h) hd hs dD (by unfold dD;omega);unfold dM az;rw[hm];dsimp only;rw[b];simp only[freeze,a];cases Call C f l' []with
 |none=>rfl
 |some x=>have⟨r,c⟩:=x;dsimp only;simp only[ky,lg,ite_self];cases fc (bj c) dD r<;>rfl
theorem Pp{f:FuncId}{args:LA}{fn:Func}{c:Code}{v:AV}(hp:C.prim f args []=none) (hf:C.P.funcs[f]?=some fn) (hb:fn.body=some c) (hok:gO C f fn.ntmps false c=true) (hn:args.length<=fn.ntmps)
  (hw:WP C f c (kC 0 args .leaf) [] (λe s h=>(e=.normal\/e=.ret)/\∃r,aY C.P s h fn.results.toList=some r/\fc (bj h) dD r=some v)):az C f args=some v:=by
 have⟨e,i,j,a,b,r,d,g⟩:=hw;unfold az;rw[D6 hp hf hb hok hn,a];rcases b with rfl|rfl<;>simp only[d,g]
theorem aK{r v:AV}(hd:dat r=some v) (hs:short r=true):fc h dD r=some v:=
 (FH (h:=h) hd (999998) (λa b=>by have:=zw hs a b;omega)).1
end
end Go.V
