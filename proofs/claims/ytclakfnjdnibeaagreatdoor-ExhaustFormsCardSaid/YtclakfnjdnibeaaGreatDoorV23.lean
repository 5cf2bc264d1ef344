/- A part of the proof. -/
import Derived.Test.YtclakfnjdnibeaaGreatDoorV20
namespace Go.V
open Go
theorem oC{C:Cfg}{f:FuncId}{args:LA}{fn:Func}{c:Code}{h:H}{Q:AV->H->Prop}(hp:C.prim f args h=none) (hf:C.P.funcs[f]?=some fn) (hb:fn.body=some c) (hok:fv C f fn.ntmps false c=true) (hn:args.length<=fn.ntmps)
  (hw:∀R:Ex->PT->H->Prop,(∀e s h,(e=.normal\/e=.ret)->(∃r,ag C.P s h fn.results.toList=some r/\Q r h)->R e s h)->W C f R c [] (mF 0 args .leaf) h):∃r h',Call C f args h=some (r,h')/\Q r h':=by
 have⟨e,j,h',b,a,r,d,g⟩:=hw (λe s h=>(e=.normal\/e=.ret)/\∃r,ag C.P s h fn.results.toList=some r/\Q r h) λ_ _ _ a i=>⟨a,i⟩
 refine⟨r,h',?_,g⟩;rw[HX hp hf hb hok hn,b];rcases a with rfl|rfl<;>simp only[d]
section
variable {C:Cfg}{cf:FuncId}{R:Ex->PT->H->Prop}{k:List It}{s:PT}{h h1:H}{g:Operand}{ps:Array Tmp}{assign body:Code}{gf:FuncId}{cap:LA}{fn:Func}{v:AV}{L:LoopV}
end
def IZ(o:Oper):Option Tmp:=match o.op with
 |.load _ (.tmp t)=>some t
 |.call {callee:=.builtin .append,args,..}=>match args.toList with
  |[.tmp t,_]=>some t
  |_=>none
 |_=>none
def DC(o:Oper):Bool:=match o.op with
 |.load _ (.tmp _)=>true
 |.load _ _=>false
 |.call {callee:=.builtin .append,args,..}=>match args.toList with
  |[.tmp _,_]=>true
  |[_,_]=>false
  |_=>true
 |_=>true
def NK:List Oper->Bool
 |[]=>true
 |o::r=>DC o&&(match IZ o with|some t=>(o::r).all λx=>!(x.dst==some t)|none=>true)&&NK r
def iF(s:PT):List Oper->List Nat
 |[]=>[]
 |o::r=>kK s o++iF s r
def iI(s:PT):List Oper->List Nat
 |[]=>[]
 |o::r=>er s o++iI s r
def ip(l:List Oper) (s:PT):Bool:=(iF s l).all λi=>!(iI s l).contains i
theorem Er{C:Cfg}{cf:FuncId}{ops:Array Oper}{run:Run}:∀(l:List Oper) (s:PT) (h:H) (s':PT) (h':H),dZ C run cf ops l s h=some (s',h')->∀t,(l.all λx=>!(x.dst==some t))=true->s'.get t=s.get t:=by
 intro l;induction l with
 |nil=>intro s h s' h' a t _;simp only[dZ,aA,aD]at a;rw[a.1]
 |cons o l f=>
  intro s h s' h' a t c;simp only[dp,aq]at c;have b:∀v,(iP s o.dst v).get t=s.get t:=by
   intro v;cases i:o.dst with
   |none=>rfl
   |some d=>
    have:t≠d:=by have g:=c.1;rw[i]at g;intro e;subst e;simp at g
    simp only[iP,PT.get_set,if_neg this]
  simp only[dZ]at a;split at a
  ·split at a<;>try(cases a;done)
   rw[f _ _ _ _ a t c.2,b]
  rw[f _ _ _ _ a t c.2,b]
theorem Nv{s s':PT}{o:Oper}(hm:DC o=true) (ht:∀t,IZ o=some t->s'.get t=s.get t):kK s' o=kK s o:=by
 unfold kK;split
 ·rename_i t x a;cases x with
  |tmp t=>have:=ht t (by simp[IZ,a]);simp only[ev,this]
  |_=>simp[DC,a]at hm
 rfl
theorem Mb{s s':PT}{o:Oper}(hm:DC o=true) (ht:∀t,IZ o=some t->s'.get t=s.get t):er s' o=er s o:=by
 unfold er;split
 ·rename_i b _ _ c;split
  ·rename_i x y a;cases x with
   |tmp t=>have:=ht t (by simp[IZ,c,a]);simp only[ev,this]
   |_=>simp[DC,c,a]at hm
  rfl
 rfl
theorem Dd{C:Cfg}{cf:FuncId}{ops:Array Oper}{run:Run}:∀(l:List Oper) (s:PT) (h:H) (s':PT) (h':H),dZ C run cf ops l s h=some (s',h')->NK l=true ->
  (∀i∈(jP C run cf ops l s h).1,i∈iF s' l)/\(∀i∈(jP C run cf ops l s h).2,i∈iI s' l):=by
 intro l;induction l with
 |nil=>intro s h s' h' _ _;simp[jP]
 |cons o l g=>
  intro s h s' h' d e;simp only[NK,aq]at e;have⟨⟨j,k⟩,e⟩:=e;have m:∀t,IZ o=some t->s'.get t=s.get t:=λt n=>by rw[n]at k;exact Er _ _ _ _ _ d t k
  have p:=Nv j m;have q:=Mb j m;simp only[dZ]at d;simp only[jP,iF,iI];split at d
  ·rename_i f;rw[if_pos f];split at d<;>try(cases d;done)
   rename_i v u r;have⟨a,b⟩:=g _ _ _ _ d e;try rw[r]
   dsimp only;refine⟨λi c=>?_,λi c=>?_⟩
   ·rw[aZ]at c ⊢;exact c.imp (λh=>by rw[p];exact h) (a i)
   rw[aZ]at c ⊢;exact c.imp (λh=>by rw[q];exact h) (b i)
  rename_i f;rw[if_neg f];have⟨a,b⟩:=g _ _ _ _ d e;exact⟨λi c=>aZ.2 (.inr (a i c)),λi c=>aZ.2 (.inr (b i c))⟩
section
variable {C:Cfg}{cf:FuncId}{R:Ex->PT->H->Prop}{k:List It}{s:PT}{h:H}
theorem gJ(id:Nat) (o:List Oper) (hm:C.mix cf id=false) (hs:NK o=true) (hw:OW C cf o.toArray o s h λs' h'=>ip o s'=true/\N C cf R k s' h'):W C cf R (.region id o.toArray true) k s h:=by have⟨s',h',e,c,g⟩:=hw;refine(Jm id o.toArray hm ?_).2 ⟨s',h',e,g⟩;have⟨a,b⟩:=Dd o s h s' h' e hs;unfold oX;simp only[fH,ml,bZ];refine .inr ?_;rw[bM];intro i d;unfold ip at c;rw[bM]at c;have f:=c i (a i d);simp only[bq,List.contains_eq_mem,decide_eq_false_iff_not]at f ⊢;exact λj=>f (b i j)
end
end Go.V
namespace Go.V
open Go
section
variable {C:Cfg}{cf:FuncId}{s:PT}{h:H}{ops:Array Oper}{K:PT->H->Prop}{d:Tmp}{ty:TypeId}{p:String}{af:Array Edge}{l:List Oper}
@[go_sem] theorem Jp:OW C cf ops (⟨some d,.assign (.const (.pointer none)),ty,p,af,none⟩::l) s h K↔OW C cf ops l (s.set d .nilptr) h K:=by rw[oc rfl rfl];simp[opN,ev,dl,dT]
@[go_sem] theorem Ps (b:ByteArray):OW C cf ops (⟨some d,.assign (.const (.string b)),ty,p,af,none⟩::l) s h K↔OW C cf ops l (s.set d (.str b)) h K:=by rw[oc rfl rfl];simp[opN,ev,dl,dT]
@[go_sem] theorem SG:ev s (.const .nilFunc)=some .nilFunc:=(rfl)
@[go_sem] theorem Ta (t:TypeId):OW C cf ops (⟨some d,.makeMap t none,ty,p,af,none⟩::l) s h K↔OW C cf ops l (s.set d (.mp h.length)) (h++[.map []]) K:=by
 rw[rJ rfl];simp only[opA,sk];constructor
 ·rintro⟨v,c,b,a⟩;simp only[aA,aD]at b;obtain⟨rfl,rfl⟩:=b;exact a
 exact λa=>⟨_,_,rfl,a⟩
@[go_sem] theorem VV (t:TypeId) (x y:Operand) (ok:Bool):OW C cf ops (⟨some d,.lookup t x y ok,ty,p,af,none⟩::l) s h K↔bO (bi2 (ev s x) (ev s y) λa b=>mf C.P h t a b ok) λv=>OW C cf ops l (s.set d v) h K:=by
 rw[rJ rfl,bO_iff];simp only[opA,sk];constructor
 ·rintro⟨v,j,e,i⟩;split at e<;>try(cases e;done)
  rename_i a b f g;split at e<;>try(cases e;done)
  rename_i z c;simp only[aA,aD]at e;obtain⟨rfl,rfl⟩:=e;exact⟨z,by rw[f,g];exact c,i⟩
 rintro⟨z,c,i⟩;cases f:ev s x with
 |none=>rw[f]at c;cases c
 |some a=>cases g:ev s y with
  |none=>rw[f,g]at c;cases c
  |some b=>rw[f,g]at c;exact⟨z,h,by simp only[show mf C.P h t a b ok=some z from c],i⟩
end
end Go.V
