/- A part of the proof. -/
import Derived.Test.YtclakfnjdnibeaaGreatDoorV18
namespace Go.V
open Go
section
variable {C:Cfg}{cf:FuncId}{s:PT}{h:H}{ops:Array Oper}{K:PT->H->Prop}{d:Tmp}{ty:TypeId}{p:String}{af:Array Edge}{l:List Oper}
theorem pU{op:Op}(ha:dW ⟨some d,op,ty,p,af,none⟩=false) (hl:jS ⟨some d,op,ty,p,af,none⟩=false) :
  OW C cf ops (⟨some d,op,ty,p,af,none⟩::l) s h K↔∃v,opN C.P s ⟨some d,op,ty,p,af,none⟩=some v/\OW C cf ops l (s.set d v) h K:=by
 rw[tv,wF ha hl];constructor
 ·rintro⟨v,e,a,b⟩;split at a<;>try(cases a;done)
  rename_i u c;simp only[aA,aD]at a;obtain⟨rfl,rfl⟩:=a;exact⟨u,c,b⟩
 rintro⟨v,a,b⟩;exact⟨v,h,by rw[a],b⟩
theorem Sz{x:Operand}{t:TypeId}:OW C cf ops (⟨some d,.load t x,ty,p,af,none⟩::l) s h K↔∃a,ev s x=some a/\∃v,aW C.P h t a=some v/\OW C cf ops l (s.set d v) h K:=by
 rw[tv,AK rfl];constructor
 ·rintro⟨v,g,b,c⟩;split at b<;>try(cases b;done)
  rename_i a e;split at b<;>try(cases b;done)
  rename_i u f;simp only[aA,aD]at b;obtain⟨rfl,rfl⟩:=b;exact⟨a,e,u,f,c⟩
 rintro⟨a,e,v,b,c⟩;exact⟨v,h,by rw[e];simp only[b],c⟩
theorem qX{dd:Option Tmp}{op:Op}(ha:dW ⟨dd,op,ty,p,af,none⟩=true) :
  OW C cf ops (⟨dd,op,ty,p,af,none⟩::l) s h K↔∃v h',opA C (Call C) cf s h ⟨dd,op,ty,p,af,none⟩=some (v,h')/\OW C cf ops l (jB s dd v) h' K:=by
 rw[tv,lh ha]
theorem VL(t:Tmp):ev s (.tmp t)=some (s.get t):=(rfl)
theorem VO(k:IntKind) (n:Int):ev s (.const (.int k n))=some (.int k n):=(rfl)
theorem Re(b:Bool):ev s (.const (.bool b))=some (.bool b):=(rfl)
theorem VM(b:ByteArray):ev s (.const (.string b))=some (.str b):=(rfl)
theorem E7:ev s (.const (.slice none 0 0))=some (.isl [] .full):=(rfl)
theorem K9:ev s (.const (.pointer none))=some .nilptr:=(rfl)
theorem Rc(f:FuncId):ev s (.func f)=some (.func f []):=(rfl)
theorem Rb:evs s []=some []:=(rfl)
theorem X8(x:Operand) (r:List Operand):evs s (x::r)=(match ev s x,evs s r with|some a,some l=>some (a::l)|_,_=>none):=(rfl)
attribute [go_sem] PT.get_set
theorem uI(v:AV):jB s (some d) v=s.set d v:=(rfl)
theorem BX(t:Tmp):OW C cf ops (⟨some d,.assign (.tmp t),ty,p,af,none⟩::l) s h K↔OW C cf ops l (s.set d (s.get t)) h K:=by rw[pU rfl rfl];simp[opN,ev]
theorem BZ(k:IntKind) (n:Int):OW C cf ops (⟨some d,.assign (.const (.int k n)),ty,p,af,none⟩::l) s h K↔OW C cf ops l (s.set d (.int k n)) h K:=by rw[pU rfl rfl];simp[opN,ev,eC,db]
theorem BA(b:Bool):OW C cf ops (⟨some d,.assign (.const (.bool b)),ty,p,af,none⟩::l) s h K↔OW C cf ops l (s.set d (.bool b)) h K:=by rw[pU rfl rfl];simp[opN,ev,eC,db]
theorem BY:OW C cf ops (⟨some d,.assign (.const (.slice none 0 0)),ty,p,af,none⟩::l) s h K↔if C.wr cf d=true then OW C cf ops l (s.set d (.isl [] .full)) h K else ∃e,ii C.P ty=some e/\OW C cf ops l (s.set d (.isl [] (.tok h.length))) (h++[.tok 0 e]) K:=by
 rw[qX rfl];simp only[opA,uI,wrO];by_cases g:C.wr cf d=true
 ·simp only[g,if_true];constructor
  ·rintro⟨v,i,a,b⟩;simp only[aA,aD]at a;obtain⟨rfl,rfl⟩:=a;exact b
  exact λb=>⟨_,_,rfl,b⟩
 have c:C.wr cf d=false:=by simpa using g
 simp only[c,aw,if_false];constructor
 ·rintro⟨v,i,a,b⟩;split at a<;>try(cases a;done)
  rename_i e f;simp only[aA,aD]at a;obtain⟨rfl,rfl⟩:=a;exact⟨e,f,b⟩
 rintro⟨e,f,b⟩;exact⟨_,_,by rw[f],b⟩
theorem aAG(c x y:Operand):OW C cf ops (⟨some d,.pick c x y,ty,p,af,none⟩::l) s h K↔∃v,(match ev s c with|some (.bool true)=>ev s x|some (.bool false)=>ev s y|_=>none)=some v/\OW C cf ops l (s.set d v) h K:=pU rfl rfl
theorem PZ(t:TypeId) (a x:Operand):OW C cf ops (⟨none,.store t a x,ty,p,af,none⟩::l) s h K↔∃q v h',ev s a=some q/\ev s x=some v/\cL C.P h t q v=some h'/\OW C cf ops l s h' K:=by
 rw[qX rfl];simp only[opA];constructor
 ·rintro⟨v,h',b,c⟩;split at b<;>try(cases b;done)
  rename_i q u d f;split at b<;>try(cases b;done)
  rename_i g e;simp only[aA,aD]at b;obtain⟨rfl,rfl⟩:=b;exact⟨q,u,g,d,f,e,c⟩
 rintro⟨q,v,h',d,b,e,c⟩;exact⟨AV.undef,h',by rw[d,b];simp only[e],c⟩
noncomputable def ak(C:Cfg) (h:H) (g:AV) (l:Option (LA)):Option (AV × H):=match g,l with
 |.func g cap,some l=>if eE C.P g then dM C (Call C) g (l++cap) h else K8 C g (l++cap) h
 |.yield i,some l=>Call C (yb C.P+i) l h
 |_,_=>none
theorem S0(f:FuncId) (args:Array Operand) (at_:Array TypeId):OW C cf ops (⟨some d,.call {callee:=.value (.func f),args:=args,argTypes:=at_},ty,p,af,none⟩::l) s h K ↔
  ∃v h',ak C h (.func f []) (evs s args.toList)=some (v,h')/\OW C cf ops l (s.set d v) h' K:=by
 have e:opA C (Call C) cf s h ⟨some d,.call {callee:=.value (.func f),args:=args,argTypes:=at_},ty,p,af,none⟩=ak C h (.func f []) (evs s args.toList):=by simp only[opA];generalize evs s args.toList=z;cases z<;>rfl
 rw[qX rfl,e];exact Iff.rfl
theorem Pb(t:Tmp) (args:Array Operand) (at_:Array TypeId):OW C cf ops (⟨some d,.call {callee:=.value (.tmp t),args:=args,argTypes:=at_},ty,p,af,none⟩::l) s h K ↔
  ∃v h',ak C h (s.get t) (evs s args.toList)=some (v,h')/\OW C cf ops l (s.set d v) h' K:=by
 have e:opA C (Call C) cf s h ⟨some d,.call {callee:=.value (.tmp t),args:=args,argTypes:=at_},ty,p,af,none⟩=ak C h (s.get t) (evs s args.toList):=by simp only[opA,show ev s (.tmp t)=some (s.get t)from rfl];generalize evs s args.toList=z;generalize s.get t=g;cases g<;>cases z<;>rfl
 rw[qX rfl,e];exact Iff.rfl
end
inductive It where
 |code (c:Code)
 |blk (id:Nat)
 |again (J:PT->H->Prop)
def KQ(C:Cfg) (cf:FuncId) (R:Ex->PT->H->Prop):List It->Ex->PT->H->Prop
 |[]=>R
 |.code c::k=>zg (λs h=>WP C cf c s h (KQ C cf R k)) (KQ C cf R k)
 |.blk id::k=>Az id (KQ C cf R k)
 |.again J::k=>zg J (KQ C cf R k)
def W(C:Cfg) (cf:FuncId) (R:Ex->PT->H->Prop) (c:Code) (k:List It) (s:PT) (h:H):Prop:=WP C cf c s h (KQ C cf R k)
def N(C:Cfg) (cf:FuncId) (R:Ex->PT->H->Prop) (k:List It) (s:PT) (h:H):Prop:=KQ C cf R k .normal s h
def X(C:Cfg) (cf:FuncId) (R:Ex->PT->H->Prop) (id:Nat) (k:List It) (s:PT) (h:H):Prop:=KQ C cf R k (.exit id) s h
section
variable {C:Cfg}{cf:FuncId}{R:Ex->PT->H->Prop}{k:List It}{s:PT}{h:H}
theorem Yl(a b:Code):W C cf R (.seq a b) k s h↔W C cf R a (.code b::k) s h:=Vw
theorem Sq(id:Nat) (b:Code):W C cf R (.block id b) k s h↔W C cf R b (.blk id::k) s h:=PX
theorem Vt:W C cf R .skip k s h↔N C cf R k s h:=Sr
theorem Vu(id:Nat):W C cf R (.exit id) k s h↔X C cf R id k s h:=St
theorem WA:∀k:List It,KQ C cf R k .ret s h↔R .ret s h:=by
 intro k;induction k with
 |nil=>exact Iff.rfl
 |cons x k a=>cases x<;>simpa[KQ]using a
theorem Ym:W C cf R .ret k s h↔R .ret s h:=WP_ret.trans (WA k)
def TF(v:AV) (p q:Prop):Prop:=match v with
 |.bool true=>p
 |.bool false=>q
 |_=>False
theorem Vv(t:Tmp) (a b:Code):W C cf R (.cond (.tmp t) a b) k s h↔TF (s.get t) (W C cf R a k s h) (W C cf R b k s h):=by
 refine WP_cond.trans ?_;simp only[ev,aA];constructor
 ·rintro⟨x,c,d,f⟩;rw[c];cases x with
  |true=>exact d rfl
  |false=>exact f rfl
 intro c;unfold TF at c;split at c
 ·rename_i e;exact⟨true,e,λ_=>c,λe=>by cases e⟩
 ·rename_i e;exact⟨false,e,λe=>(by cases e),λ_=>c⟩
 exact c.elim
theorem PW(id:Nat) (ops:Array Oper):W C cf R (.region id ops false) k s h↔OW C cf ops ops.toList s h (N C cf R k):=yA s_ rfl
theorem L9(id:Nat) (ops:Array Oper) (hm:C.mix cf id=false) (ha:pT ops.toList=false):W C cf R (.region id ops true) k s h↔OW C cf ops ops.toList s h (N C cf R k):=yA (by simp[hm]) (by simp[pN,ha])
theorem MA(id:Nat) (ops:Array Oper) (hm:C.mix cf id=false) (hd:pN C (Call C) cf ops true s h=true):W C cf R (.region id ops true) k s h↔OW C cf ops ops.toList s h (N C cf R k):=yA (by simp[hm]) hd
theorem Yu:N C cf R [] s h↔R .normal s h:=Iff.rfl
theorem V1(c:Code):N C cf R (.code c::k) s h↔W C cf R c k s h:=Iff.rfl
theorem Yv(id:Nat):N C cf R (.blk id::k) s h↔N C cf R k s h:=Iff.rfl
theorem S1(J:PT->H->Prop):N C cf R (.again J::k) s h↔J s h:=Iff.rfl
theorem Vs(id:Nat) (c:Code):X C cf R id (.code c::k) s h↔X C cf R id k s h:=Iff.rfl
theorem Yj(id i:Nat):X C cf R id (.blk i::k) s h↔if id=i then N C cf R k s h else X C cf R id k s h:=Iff.rfl
theorem Sp(id:Nat) (J:PT->H->Prop):X C cf R id (.again J::k) s h↔X C cf R id k s h:=Iff.rfl
theorem bL{b:Code}(I:Nat->PT->H->Prop) (n:Nat) (h0:I n s h) (hs:∀n s h,I n s h->W C cf R b (.again (λs h=>∃m,m<n/\I m s h)::k) s h):W C cf R (.loop b) k s h:=
 Ss I n h0 hs
end
theorem hJ{C:Cfg}{f:FuncId}{args:LA}{fn:Func}{c:Code}{v:AV}(hp:C.prim f args []=none) (hf:C.P.funcs[f]?=some fn) (hb:fn.body=some c) (hok:gO C f fn.ntmps false c=true) (hn:args.length<=fn.ntmps)
  (hw:∀R:Ex->PT->H->Prop,(∀e s h,(e=.normal\/e=.ret)->(∃r,aY C.P s h fn.results.toList=some r/\fc (bj h) dD r=some v)->R e s h)->W C f R c [] (kC 0 args .leaf) []):az C f args=some v:=
 Pp hp hf hb hok hn (hw _ λ_ _ _ he hr=>⟨he,hr⟩)
theorem ay{C:Cfg}{f:FuncId}{args:LA}{fn:Func}{c:Code}{v:AV}(hf:C.P.funcs[f]?=some fn) (hb:fn.body=some c)
  (hw:∀R:Ex->PT->H->Prop,(∀{s h},(∃r,aY C.P s h fn.results.toList=some r/\fc (bj h) dD r=some v)->R .ret s h)->W C f R c [] (kC 0 args .leaf) [])
  (hp:C.prim f args []=none:=by rfl) (hok:gO C f fn.ntmps false c=true:=by(kernel_rfl)) (hn:args.length<=fn.ntmps:=by exact Nat.le_of_ble_eq_true rfl):az C f args=some v:=
 hJ hp hf hb hok hn λR hR=>hw R λhr=>hR _ _ _ (.inr rfl) hr
section
variable {P:Program}{t:TypeId}{x y:Operand}{k:IntKind}{a b:Int}
@[go_sem] theorem Z1:iN P .add t x y (.int k a) (.int k b)=some (.int k (k.wrap (a+b))):=by simp[iN,fH,cw,dI,eqGuard,binOp,Op.intArith,eC,db,bind,Sem.bind,pure]
@[go_sem] theorem Zt:iN P .sub t x y (.int k a) (.int k b)=some (.int k (k.wrap (a-b))):=by simp[iN,fH,cw,dI,eqGuard,binOp,Op.intArith,eC,db,bind,Sem.bind,pure]
@[go_sem] theorem Zv:iN P .mul t x y (.int k a) (.int k b)=some (.int k (k.wrap (a*b))):=by simp[iN,fH,cw,dI,eqGuard,binOp,Op.intArith,eC,db,bind,Sem.bind,pure]
@[go_sem] theorem Z0:iN P .eql t x y (.int k a) (.int k b)=some (.bool (decide (a=b))):=by
 have:(a==b)=decide (a=b):=by by_cases h:a=b<;>simp[h]
 simp[iN,fH,cw,dI,eqGuard,binOp,Op.intCmp,eC,db,bind,Sem.bind,pure,this]
@[go_sem] theorem Zu:iN P .neq t x y (.int k a) (.int k b)=some (.bool (decide (a≠b))):=by
 have:(a != b)=decide (a≠b):=by by_cases h:a=b<;>simp[h]
 simp[iN,fH,cw,dI,eqGuard,binOp,Op.intCmp,eC,db,bind,Sem.bind,pure,this]
@[go_sem] theorem Zw:iN P .lss t x y (.int k a) (.int k b)=some (.bool (decide (a<b))):=by simp[iN,fH,cw,dI,eqGuard,binOp,Op.intCmp,eC,db,bind,Sem.bind,pure]
@[go_sem] theorem Zx:iN P .leq t x y (.int k a) (.int k b)=some (.bool (decide (a<=b))):=by simp[iN,fH,cw,dI,eqGuard,binOp,Op.intCmp,eC,db,bind,Sem.bind,pure]
@[go_sem] theorem Zy:iN P .gtr t x y (.int k a) (.int k b)=some (.bool (decide (a>b))):=by simp[iN,fH,cw,dI,eqGuard,binOp,Op.intCmp,eC,db,bind,Sem.bind,pure]
@[go_sem] theorem Zz:iN P .geq t x y (.int k a) (.int k b)=some (.bool (decide (a≥b))):=by simp[iN,fH,cw,dI,eqGuard,binOp,Op.intCmp,eC,db,bind,Sem.bind,pure]
theorem av{n:Int}(h:-9223372036854775808<=n/\n<=9223372036854775807):IntKind.i64.wrap n=n:=IntWalk.i64_in _ h
theorem wS(k:Nat)(h:-9223372036854775808<=(k:Int)+1/\(k:Int)+1<=9223372036854775807):IntKind.i64.wrap ((k:Int)+1)=((k+1:Nat):Int):=by rw[av h];omega
end
end Go.V
