/- A part of the proof. -/
import Derived.Test.YtbcnnpkfkopoeaaGreatDoorV18
namespace Go.V
open Go
section
variable {C:Cfg}{cf:FuncId}{s:PT}{h:H}{ops:Array Oper}{K:PT->H->Prop}{d:Tmp}{ty:TypeId}{p:String}{af:Array Edge}{l:List Oper}
theorem uB{op:Op}(ha:eP ⟨some d,op,ty,p,af,none⟩=false) (hl:nx ⟨some d,op,ty,p,af,none⟩=false) :
  OW C cf ops (⟨some d,op,ty,p,af,none⟩::l) s h K↔∃v,opN C.P s ⟨some d,op,ty,p,af,none⟩=some v/\OW C cf ops l (s.set d v) h K:=by
 rw[uC,wU ha hl];constructor
 ·rintro⟨v,e,a,b⟩;split at a<;>try(cases a;done)
  rename_i u c;simp only[aA,aE]at a;obtain⟨rfl,rfl⟩:=a;exact⟨u,c,b⟩
 rintro⟨v,a,b⟩;exact⟨v,h,by rw[a],b⟩
theorem RW{x:Operand}{t:TypeId}:OW C cf ops (⟨some d,.load t x,ty,p,af,none⟩::l) s h K↔∃a,ev s x=some a/\∃v,aJ C.P h t a=some v/\OW C cf ops l (s.set d v) h K:=by
 rw[uC,AI rfl];constructor
 ·rintro⟨v,g,b,c⟩;split at b<;>try(cases b;done)
  rename_i a e;split at b<;>try(cases b;done)
  rename_i u f;simp only[aA,aE]at b;obtain⟨rfl,rfl⟩:=b;exact⟨a,e,u,f,c⟩
 rintro⟨a,e,v,b,c⟩;exact⟨v,h,by rw[e];simp only[b],c⟩
theorem qt{dd:Option Tmp}{op:Op}(ha:eP ⟨dd,op,ty,p,af,none⟩=true) :
  OW C cf ops (⟨dd,op,ty,p,af,none⟩::l) s h K↔∃v h',opA C (Call C) cf s h ⟨dd,op,ty,p,af,none⟩=some (v,h')/\OW C cf ops l (kU s dd v) h' K:=by
 rw[uC,jr ha]
theorem TY(t:Tmp):ev s (.tmp t)=some (s.get t):=(rfl)
theorem Tb(k:IntKind) (n:Int):ev s (.const (.int k n))=some (.int k n):=(rfl)
theorem QG(b:Bool):ev s (.const (.bool b))=some (.bool b):=(rfl)
theorem TZ(b:ByteArray):ev s (.const (.string b))=some (.str b):=(rfl)
theorem E9:ev s (.const (.slice none 0 0))=some (.isl [] .full):=(rfl)
theorem Ko:ev s (.const (.pointer none))=some .nilptr:=(rfl)
theorem QF(f:FuncId):ev s (.func f)=some (.func f []):=(rfl)
theorem QE:evs s []=some []:=(rfl)
theorem WE(x:Operand) (r:List Operand):evs s (x::r)=(match ev s x,evs s r with|some a,some l=>some (a::l)|_,_=>none):=(rfl)
attribute [go_sem] PT.get_set
theorem uR(v:AV):kU s (some d) v=s.set d v:=(rfl)
theorem BX(t:Tmp):OW C cf ops (⟨some d,.assign (.tmp t),ty,p,af,none⟩::l) s h K↔OW C cf ops l (s.set d (s.get t)) h K:=by rw[uB rfl rfl];simp[opN,ev]
theorem BZ(k:IntKind) (n:Int):OW C cf ops (⟨some d,.assign (.const (.int k n)),ty,p,af,none⟩::l) s h K↔OW C cf ops l (s.set d (.int k n)) h K:=by rw[uB rfl rfl];simp[opN,ev,fR,eX]
theorem A9(b:Bool):OW C cf ops (⟨some d,.assign (.const (.bool b)),ty,p,af,none⟩::l) s h K↔OW C cf ops l (s.set d (.bool b)) h K:=by rw[uB rfl rfl];simp[opN,ev,fR,eX]
theorem BY:OW C cf ops (⟨some d,.assign (.const (.slice none 0 0)),ty,p,af,none⟩::l) s h K↔if C.wr cf d=true then OW C cf ops l (s.set d (.isl [] .full)) h K else ∃e,ja C.P ty=some e/\OW C cf ops l (s.set d (.isl [] (.tok h.length))) (h++[.tok 0 e]) K:=by
 rw[qt rfl];simp only[opA,uR,wrO];by_cases g:C.wr cf d=true
 ·simp only[g,if_true];constructor
  ·rintro⟨v,i,a,b⟩;simp only[aA,aE]at a;obtain⟨rfl,rfl⟩:=a;exact b
  exact λb=>⟨_,_,rfl,b⟩
 have c:C.wr cf d=false:=by simpa using g
 simp only[c,aT,if_false];constructor
 ·rintro⟨v,i,a,b⟩;split at a<;>try(cases a;done)
  rename_i e f;simp only[aA,aE]at a;obtain⟨rfl,rfl⟩:=a;exact⟨e,f,b⟩
 rintro⟨e,f,b⟩;exact⟨_,_,by rw[f],b⟩
theorem YR(c x y:Operand):OW C cf ops (⟨some d,.pick c x y,ty,p,af,none⟩::l) s h K↔∃v,(match ev s c with|some (.bool true)=>ev s x|some (.bool false)=>ev s y|_=>none)=some v/\OW C cf ops l (s.set d v) h K:=uB rfl rfl
theorem ON(t:TypeId) (a x:Operand):OW C cf ops (⟨none,.store t a x,ty,p,af,none⟩::l) s h K↔∃q v h',ev s a=some q/\ev s x=some v/\ah C.P h t q v=some h'/\OW C cf ops l s h' K:=by
 rw[qt rfl];simp only[opA];constructor
 ·rintro⟨v,h',b,c⟩;split at b<;>try(cases b;done)
  rename_i q u d f;split at b<;>try(cases b;done)
  rename_i g e;simp only[aA,aE]at b;obtain⟨rfl,rfl⟩:=b;exact⟨q,u,g,d,f,e,c⟩
 rintro⟨q,v,h',d,b,e,c⟩;exact⟨AV.undef,h',by rw[d,b];simp only[e],c⟩
noncomputable def aj(C:Cfg) (h:H) (g:AV) (l:Option (LA)):Option (AV × H):=match g,l with
 |.func g cap,some l=>if dl C.P g then dJ C (Call C) g (l++cap) h else Kn C g (l++cap) h
 |.yield i,some l=>Call C (yb C.P+i) l h
 |_,_=>none
theorem RX(f:FuncId) (args:Array Operand) (at_:Array TypeId):OW C cf ops (⟨some d,.call {callee:=.value (.func f),args:=args,argTypes:=at_},ty,p,af,none⟩::l) s h K ↔
  ∃v h',aj C h (.func f []) (evs s args.toList)=some (v,h')/\OW C cf ops l (s.set d v) h' K:=by
 have e:opA C (Call C) cf s h ⟨some d,.call {callee:=.value (.func f),args:=args,argTypes:=at_},ty,p,af,none⟩=aj C h (.func f []) (evs s args.toList):=by simp only[opA];generalize evs s args.toList=z;cases z<;>rfl
 rw[qt rfl,e];exact Iff.rfl
theorem OP(t:Tmp) (args:Array Operand) (at_:Array TypeId):OW C cf ops (⟨some d,.call {callee:=.value (.tmp t),args:=args,argTypes:=at_},ty,p,af,none⟩::l) s h K ↔
  ∃v h',aj C h (s.get t) (evs s args.toList)=some (v,h')/\OW C cf ops l (s.set d v) h' K:=by
 have e:opA C (Call C) cf s h ⟨some d,.call {callee:=.value (.tmp t),args:=args,argTypes:=at_},ty,p,af,none⟩=aj C h (s.get t) (evs s args.toList):=by simp only[opA,show ev s (.tmp t)=some (s.get t)from rfl];generalize evs s args.toList=z;generalize s.get t=g;cases g<;>cases z<;>rfl
 rw[qt rfl,e];exact Iff.rfl
end
inductive It where
 |code (c:Code)
 |blk (id:Nat)
 |again (J:PT->H->Prop)
def KQ(C:Cfg) (cf:FuncId) (R:Ex->PT->H->Prop):List It->Ex->PT->H->Prop
 |[]=>R
 |.code c::k=>zZ (λs h=>WP C cf c s h (KQ C cf R k)) (KQ C cf R k)
 |.blk id::k=>Az id (KQ C cf R k)
 |.again J::k=>zZ J (KQ C cf R k)
def W(C:Cfg) (cf:FuncId) (R:Ex->PT->H->Prop) (c:Code) (k:List It) (s:PT) (h:H):Prop:=WP C cf c s h (KQ C cf R k)
def N(C:Cfg) (cf:FuncId) (R:Ex->PT->H->Prop) (k:List It) (s:PT) (h:H):Prop:=KQ C cf R k .normal s h
def X(C:Cfg) (cf:FuncId) (R:Ex->PT->H->Prop) (id:Nat) (k:List It) (s:PT) (h:H):Prop:=KQ C cf R k (.exit id) s h
section
variable {C:Cfg}{cf:FuncId}{R:Ex->PT->H->Prop}{k:List It}{s:PT}{h:H}
theorem Wq(a b:Code):W C cf R (.seq a b) k s h↔W C cf R a (.code b::k) s h:=UQ
theorem RP(id:Nat) (b:Code):W C cf R (.block id b) k s h↔W C cf R b (.blk id::k) s h:=OK
theorem UN:W C cf R .skip k s h↔N C cf R k s h:=RQ
theorem UO(id:Nat):W C cf R (.exit id) k s h↔X C cf R id k s h:=RS
theorem Ua:∀k:List It,KQ C cf R k .ret s h↔R .ret s h:=by
 intro k;induction k with
 |nil=>exact Iff.rfl
 |cons x k a=>cases x<;>simpa[KQ]using a
theorem Wr:W C cf R .ret k s h↔R .ret s h:=WP_ret.trans (Ua k)
def TF(v:AV) (p q:Prop):Prop:=match v with
 |.bool true=>p
 |.bool false=>q
 |_=>False
theorem UP(t:Tmp) (a b:Code):W C cf R (.cond (.tmp t) a b) k s h↔TF (s.get t) (W C cf R a k s h) (W C cf R b k s h):=by
 refine WP_cond.trans ?_;simp only[ev,aA];constructor
 ·rintro⟨x,c,d,f⟩;rw[c];cases x with
  |true=>exact d rfl
  |false=>exact f rfl
 intro c;unfold TF at c;split at c
 ·rename_i e;exact⟨true,e,λ_=>c,λe=>by cases e⟩
 ·rename_i e;exact⟨false,e,λe=>(by cases e),λ_=>c⟩
 exact c.elim
theorem OJ(id:Nat) (ops:Array Oper):W C cf R (.region id ops false) k s h↔OW C cf ops ops.toList s h (N C cf R k):=yR s_ rfl
theorem LH(id:Nat) (ops:Array Oper) (hm:C.mix cf id=false) (ha:qE ops.toList=false):W C cf R (.region id ops true) k s h↔OW C cf ops ops.toList s h (N C cf R k):=yR (by simp[hm]) (by simp[pw,ha])
theorem LI(id:Nat) (ops:Array Oper) (hm:C.mix cf id=false) (hd:pw C (Call C) cf ops true s h=true):W C cf R (.region id ops true) k s h↔OW C cf ops ops.toList s h (N C cf R k):=yR (by simp[hm]) hd
theorem Wz:N C cf R [] s h↔R .normal s h:=Iff.rfl
theorem UV(c:Code):N C cf R (.code c::k) s h↔W C cf R c k s h:=Iff.rfl
theorem W0(id:Nat):N C cf R (.blk id::k) s h↔N C cf R k s h:=Iff.rfl
theorem RY(J:PT->H->Prop):N C cf R (.again J::k) s h↔J s h:=Iff.rfl
theorem UM(id:Nat) (c:Code):X C cf R id (.code c::k) s h↔X C cf R id k s h:=Iff.rfl
theorem Wo(id i:Nat):X C cf R id (.blk i::k) s h↔if id=i then N C cf R k s h else X C cf R id k s h:=Iff.rfl
theorem RO(id:Nat) (J:PT->H->Prop):X C cf R id (.again J::k) s h↔X C cf R id k s h:=Iff.rfl
theorem bX{b:Code}(I:Nat->PT->H->Prop) (n:Nat) (h0:I n s h) (hs:∀n s h,I n s h->W C cf R b (.again (λs h=>∃m,m<n/\I m s h)::k) s h):W C cf R (.loop b) k s h:=
 RR I n h0 hs
end
theorem oV{C:Cfg}{f:FuncId}{args:LA}{fn:Func}{c:Code}{v:AV}(hp:C.prim f args []=none) (hf:C.P.funcs[f]?=some fn) (hb:fn.body=some c) (hok:gi C f fn.ntmps false c=true) (hn:args.length<=fn.ntmps)
  (hw:∀R:Ex->PT->H->Prop,(∀e s h,(e=.normal\/e=.ret)->(∃r,ag C.P s h fn.results.toList=some r/\eW (bo h) cM r=some v)->R e s h)->W C f R c [] (dP 0 args .leaf) []):az C f args=some v:=
 Oa hp hf hb hok hn (hw _ λ_ _ _ he hr=>⟨he,hr⟩)
theorem bL{C:Cfg}{f:FuncId}{args:LA}{fn:Func}{c:Code}{v:AV}(hf:C.P.funcs[f]?=some fn) (hb:fn.body=some c)
  (hw:∀R:Ex->PT->H->Prop,(∀{s h},(∃r,ag C.P s h fn.results.toList=some r/\eW (bo h) cM r=some v)->R .ret s h)->W C f R c [] (dP 0 args .leaf) [])
  (hp:C.prim f args []=none:=by rfl) (hok:gi C f fn.ntmps false c=true:=by(kernel_rfl)) (hn:args.length<=fn.ntmps:=by exact Nat.le_of_ble_eq_true rfl):az C f args=some v:=
 oV hp hf hb hok hn λR hR=>hw R λhr=>hR _ _ _ (.inr rfl) hr
section
variable {P:Program}{t:TypeId}{x y:Operand}{k:IntKind}{a b:Int}
@[go_sem] theorem YD:jU P .add t x y (.int k a) (.int k b)=some (.int k (k.wrap (a+b))):=by simp[jU,fI,cn,dA,eqGuard,binOp,Op.intArith,fR,eX,bind,Sem.bind,pure]
@[go_sem] theorem X6:jU P .sub t x y (.int k a) (.int k b)=some (.int k (k.wrap (a-b))):=by simp[jU,fI,cn,dA,eqGuard,binOp,Op.intArith,fR,eX,bind,Sem.bind,pure]
@[go_sem] theorem YC:jU P .eql t x y (.int k a) (.int k b)=some (.bool (decide (a=b))):=by
 have:(a==b)=decide (a=b):=by by_cases h:a=b<;>simp[h]
 simp[jU,fI,cn,dA,eqGuard,binOp,Op.intCmp,fR,eX,bind,Sem.bind,pure,this]
@[go_sem] theorem X7:jU P .neq t x y (.int k a) (.int k b)=some (.bool (decide (a≠b))):=by
 have:(a != b)=decide (a≠b):=by by_cases h:a=b<;>simp[h]
 simp[jU,fI,cn,dA,eqGuard,binOp,Op.intCmp,fR,eX,bind,Sem.bind,pure,this]
@[go_sem] theorem X8:jU P .lss t x y (.int k a) (.int k b)=some (.bool (decide (a<b))):=by simp[jU,fI,cn,dA,eqGuard,binOp,Op.intCmp,fR,eX,bind,Sem.bind,pure]
@[go_sem] theorem X9:jU P .leq t x y (.int k a) (.int k b)=some (.bool (decide (a<=b))):=by simp[jU,fI,cn,dA,eqGuard,binOp,Op.intCmp,fR,eX,bind,Sem.bind,pure]
@[go_sem] theorem YA:jU P .gtr t x y (.int k a) (.int k b)=some (.bool (decide (a>b))):=by simp[jU,fI,cn,dA,eqGuard,binOp,Op.intCmp,fR,eX,bind,Sem.bind,pure]
@[go_sem] theorem YB:jU P .geq t x y (.int k a) (.int k b)=some (.bool (decide (a≥b))):=by simp[jU,fI,cn,dA,eqGuard,binOp,Op.intCmp,fR,eX,bind,Sem.bind,pure]
theorem ay{n:Int}(h:-9223372036854775808<=n/\n<=9223372036854775807):IntKind.i64.wrap n=n:=IntWalk.i64_in _ h
theorem wS(k:Nat)(h:-9223372036854775808<=(k:Int)+1/\(k:Int)+1<=9223372036854775807):IntKind.i64.wrap ((k:Int)+1)=((k+1:Nat):Int):=by rw[ay h];omega
end
end Go.V
