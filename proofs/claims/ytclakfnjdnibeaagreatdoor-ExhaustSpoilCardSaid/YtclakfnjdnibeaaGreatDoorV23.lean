/- A part of the proof. -/
import Derived.Test.YtclakfnjdnibeaaGreatDoorV20
namespace Go.V
open Go
theorem lC{C:Cfg}{f:FuncId}{args:LA}{fn:Func}{c:Code}{h:H}{Q:AV->H->Prop}(hp:C.prim f args h=none) (hf:C.P.funcs[f]?=some fn) (hb:fn.body=some c) (hok:gO C f fn.ntmps false c=true) (hn:args.length<=fn.ntmps)
  (hw:∀R:Ex->PT->H->Prop,(∀e s h,(e=.normal\/e=.ret)->(∃r,aY C.P s h fn.results.toList=some r/\Q r h)->R e s h)->W C f R c [] (kC 0 args .leaf) h):∃r h',Call C f args h=some (r,h')/\Q r h':=by
 have⟨e,j,h',b,a,r,d,g⟩:=hw (λe s h=>(e=.normal\/e=.ret)/\∃r,aY C.P s h fn.results.toList=some r/\Q r h) λ_ _ _ a i=>⟨a,i⟩
 refine⟨r,h',?_,g⟩;rw[D6 hp hf hb hok hn,b];rcases a with rfl|rfl<;>simp only[d]
section
variable {C:Cfg}{cf:FuncId}{R:Ex->PT->H->Prop}{k:List It}{s:PT}{h h1:H}{g:Operand}{ps:Array Tmp}{assign body:Code}{gf:FuncId}{cap:LA}{fn:Func}{v:AV}{L:LoopV}
end
def Kd(o:Oper):Option Tmp:=match o.op with
 |.load _ (.tmp t)=>some t
 |.call {callee:=.builtin .append,args,..}=>match args.toList with
  |[.tmp t,_]=>some t
  |_=>none
 |_=>none
def Eg(o:Oper):Bool:=match o.op with
 |.load _ (.tmp _)=>true
 |.load _ _=>false
 |.call {callee:=.builtin .append,args,..}=>match args.toList with
  |[.tmp _,_]=>true
  |[_,_]=>false
  |_=>true
 |_=>true
def QF:List Oper->Bool
 |[]=>true
 |o::r=>Eg o&&(match Kd o with|some t=>(o::r).all λx=>!(x.dst==some t)|none=>true)&&QF r
def iK(s:PT):List Oper->List Nat
 |[]=>[]
 |o::r=>kW s o++iK s r
def iO(s:PT):List Oper->List Nat
 |[]=>[]
 |o::r=>fL s o++iO s r
def ij(l:List Oper) (s:PT):Bool:=(iK s l).all λi=>!(iO s l).contains i
theorem Gk{C:Cfg}{cf:FuncId}{ops:Array Oper}{run:Run}:∀(l:List Oper) (s:PT) (h:H) (s':PT) (h':H),dz C run cf ops l s h=some (s',h')->∀t,(l.all λx=>!(x.dst==some t))=true->s'.get t=s.get t:=by
 intro l;induction l with
 |nil=>intro s h s' h' a t _;simp only[dz,aA,aD]at a;rw[a.1]
 |cons o l f=>
  intro s h s' h' a t c;simp only[dt,am]at c;have b:∀v,(jB s o.dst v).get t=s.get t:=by
   intro v;cases i:o.dst with
   |none=>rfl
   |some d=>
    have:t≠d:=by have g:=c.1;rw[i]at g;intro e;subst e;simp at g
    simp only[jB,PT.get_set,if_neg this]
  simp only[dz]at a;split at a
  ·split at a<;>try(cases a;done)
   rw[f _ _ _ _ a t c.2,b]
  rw[f _ _ _ _ a t c.2,b]
theorem Qv{s s':PT}{o:Oper}(hm:Eg o=true) (ht:∀t,Kd o=some t->s'.get t=s.get t):kW s' o=kW s o:=by
 unfold kW;split
 ·rename_i t x a;cases x with
  |tmp t=>have:=ht t (by simp[Kd,a]);simp only[ev,this]
  |_=>simp[Eg,a]at hm
 rfl
theorem PQ{s s':PT}{o:Oper}(hm:Eg o=true) (ht:∀t,Kd o=some t->s'.get t=s.get t):fL s' o=fL s o:=by
 unfold fL;split
 ·rename_i b _ _ c;split
  ·rename_i x y a;cases x with
   |tmp t=>have:=ht t (by simp[Kd,c,a]);simp only[ev,this]
   |_=>simp[Eg,c,a]at hm
  rfl
 rfl
theorem FA{C:Cfg}{cf:FuncId}{ops:Array Oper}{run:Run}:∀(l:List Oper) (s:PT) (h:H) (s':PT) (h':H),dz C run cf ops l s h=some (s',h')->QF l=true ->
  (∀i∈(jp C run cf ops l s h).1,i∈iK s' l)/\(∀i∈(jp C run cf ops l s h).2,i∈iO s' l):=by
 intro l;induction l with
 |nil=>intro s h s' h' _ _;simp[jp]
 |cons o l g=>
  intro s h s' h' d e;simp only[QF,am]at e;have⟨⟨j,k⟩,e⟩:=e;have m:∀t,Kd o=some t->s'.get t=s.get t:=λt n=>by rw[n]at k;exact Gk _ _ _ _ _ d t k
  have p:=Qv j m;have q:=PQ j m;simp only[dz]at d;simp only[jp,iK,iO];split at d
  ·rename_i f;rw[if_pos f];split at d<;>try(cases d;done)
   rename_i v u r;have⟨a,b⟩:=g _ _ _ _ d e;try rw[r]
   dsimp only;refine⟨λi c=>?_,λi c=>?_⟩
   ·rw[ac]at c ⊢;exact c.imp (λh=>by rw[p];exact h) (a i)
   rw[ac]at c ⊢;exact c.imp (λh=>by rw[q];exact h) (b i)
  rename_i f;rw[if_neg f];have⟨a,b⟩:=g _ _ _ _ d e;exact⟨λi c=>ac.2 (.inr (a i c)),λi c=>ac.2 (.inr (b i c))⟩
section
variable {C:Cfg}{cf:FuncId}{R:Ex->PT->H->Prop}{k:List It}{s:PT}{h:H}
theorem gS(id:Nat) (o:List Oper) (hm:C.mix cf id=false) (hs:QF o=true) (hw:OW C cf o.toArray o s h λs' h'=>ij o s'=true/\N C cf R k s' h'):W C cf R (.region id o.toArray true) k s h:=by have⟨s',h',e,c,g⟩:=hw;refine(MA id o.toArray hm ?_).2 ⟨s',h',e,g⟩;have⟨a,b⟩:=FA o s h s' h' e hs;unfold pN;simp only[du,ng,bo];refine .inr ?_;rw[bI];intro i d;unfold ij at c;rw[bI]at c;have f:=c i (a i d);simp only[cN,List.contains_eq_mem,decide_eq_false_iff_not]at f ⊢;exact λj=>f (b i j)
end
end Go.V
namespace Go.V
open Go
section
variable {C:Cfg}{cf:FuncId}{s:PT}{h:H}{ops:Array Oper}{K:PT->H->Prop}{d:Tmp}{ty:TypeId}{p:String}{af:Array Edge}{l:List Oper}
@[go_sem] theorem MD:OW C cf ops (⟨some d,.assign (.const (.pointer none)),ty,p,af,none⟩::l) s h K↔OW C cf ops l (s.set d .nilptr) h K:=by rw[pU rfl rfl];simp[opN,ev,eC,db]
@[go_sem] theorem Sv (b:ByteArray):OW C cf ops (⟨some d,.assign (.const (.string b)),ty,p,af,none⟩::l) s h K↔OW C cf ops l (s.set d (.str b)) h K:=by rw[pU rfl rfl];simp[opN,ev,eC,db]
@[go_sem] theorem VN:ev s (.const .nilFunc)=some .nilFunc:=(rfl)
@[go_sem] theorem Vy (f:FuncId) (cap:List Operand):OW C cf ops (⟨some d,.makeFunc (.func f) #[] cap.toArray,ty,p,af,none⟩::l) s h K↔bO (bi1 (evs s cap) λl=>some (.func f l)) λv=>OW C cf ops l (s.set d v) h K:=
 OWn (by simp only[opN,bi1];cases evs s cap<;>rfl) rfl rfl
@[go_sem] theorem Wl (t:TypeId):OW C cf ops (⟨some d,.makeMap t none,ty,p,af,none⟩::l) s h K↔OW C cf ops l (s.set d (.mp h.length)) (h++[.map []]) K:=by
 rw[qX rfl];simp only[opA,uI];constructor
 ·rintro⟨v,c,b,a⟩;simp only[aA,aD]at b;obtain⟨rfl,rfl⟩:=b;exact a
 exact λa=>⟨_,_,rfl,a⟩
@[go_sem] theorem Yq (t:TypeId) (x y:Operand) (ok:Bool):OW C cf ops (⟨some d,.lookup t x y ok,ty,p,af,none⟩::l) s h K↔bO (bi2 (ev s x) (ev s y) λa b=>nX C.P h t a b ok) λv=>OW C cf ops l (s.set d v) h K:=by
 rw[qX rfl,bO_iff];simp only[opA,uI];constructor
 ·rintro⟨v,j,e,i⟩;split at e<;>try(cases e;done)
  rename_i a b f g;split at e<;>try(cases e;done)
  rename_i z c;simp only[aA,aD]at e;obtain⟨rfl,rfl⟩:=e;exact⟨z,by rw[f,g];exact c,i⟩
 rintro⟨z,c,i⟩;cases f:ev s x with
 |none=>rw[f]at c;cases c
 |some a=>cases g:ev s y with
  |none=>rw[f,g]at c;cases c
  |some b=>rw[f,g]at c;exact⟨z,h,by simp only[show nX C.P h t a b ok=some z from c],i⟩
end
end Go.V
