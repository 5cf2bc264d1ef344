/- A part of the proof. -/
import Derived.Test.YtbcnnpkfkopoeaaGreatDoorV19
namespace Go.V
open Go
def pd:Nat:=0
def Ya:Nat:=0
@[go_sem] theorem Ub:pd=Ya:=(rfl)
def Ife(c A B:Prop):Prop:=(c->A)/\(¬c->B)
@[congr] theorem Uz {c c' A B:Prop}{tk:Nat}(h:c=c') (_:pd=tk):Ife c A B=Ife c' A B:=by rw[h]
@[go_sem] theorem Xy (A B:Prop):Ife True A B↔A:=by simp[Ife]
@[go_sem] theorem Uy (A B:Prop):Ife False A B↔B:=by simp[Ife]
theorem Ife_iff{c A B:Prop}:Ife c A B↔(c->A)/\(¬c->B):=Iff.rfl
theorem JX{c:Prop} [Decidable c] {A B:Prop}:(if c then A else B)↔Ife c A B:=by by_cases h:c<;>simp[Ife,h]
def bO{α:Type}(x:Option α) (f:α->Prop):Prop:=match x with
 |some a=>f a
 |none=>False
theorem bO_iff{α:Type}{x:Option α}{f:α->Prop}:bO x f↔∃a,x=some a/\f a:=by
 cases x with
 |none=>simp[bO]
 |some a=>simp[bO]
@[congr] theorem WS {α:Type}{x y:Option α}{f:α->Prop}{tk:Nat}(h:x=y) (_:pd=tk):bO x f=bO y f:=by rw[h]
@[go_sem] theorem YE {α:Type}(a:α) (f:α->Prop):bO (some a) f↔f a:=Iff.rfl
def bi2{α β γ:Type}(x:Option α) (y:Option β) (g:α->β->Option γ):Option γ:=match x,y with
 |some a,some b=>g a b
 |_,_=>none
@[congr] theorem Ur {α β γ:Type}{x x':Option α}{y y':Option β}{g:α->β->Option γ}{tk:Nat}(h:x=x') (h':y=y') (_:pd=tk):bi2 x y g=bi2 x' y' g:=by rw[h,h']
@[go_sem] theorem WQ {α β γ:Type}(a:α) (b:β) (g:α->β->Option γ):bi2 (some a) (some b) g=g a b:=(rfl)
def bi1{α γ:Type}(x:Option α) (g:α->Option γ):Option γ:=match x with
 |some a=>g a
 |none=>none
@[congr] theorem Us {α γ:Type}{x x':Option α}{g:α->Option γ}{tk:Nat}(h:x=x') (_:pd=tk):bi1 x g=bi1 x' g:=by rw[h]
@[go_sem] theorem WR {α γ:Type}(a:α) (g:α->Option γ):bi1 (some a) g=g a:=(rfl)
section
variable {C:Cfg}{cf:FuncId}{s:PT}{h:H}{ops:Array Oper}{K:PT->H->Prop}{d:Tmp}{dd:Option Tmp}{ty:TypeId}{p:String}{af:Array Edge}{l:List Oper}
@[congr] theorem Wy {tk:Nat}(_:pd=tk):OW C cf ops l s h K=OW C cf ops l s h K:=rfl
@[congr] theorem Uh (t:Tmp){tk:Nat}(_:pd=tk):PT.get s t=PT.get s t:=rfl
@[congr] theorem Uk (x:Operand){tk:Nat}(_:pd=tk):ev s x=ev s x:=rfl
@[congr] theorem TX (x:List Operand){tk:Nat}(_:pd=tk):evs s x=evs s x:=rfl
@[congr] theorem Ob (x:List (Nat × Operand)){tk:Nat}(_:pd=tk):fT s x=fT s x:=rfl
@[congr] theorem YJ (R:Ex->PT->H->Prop) (c:Code) (k:List It){tk:Nat}(_:pd=tk):W C cf R c k s h=W C cf R c k s h:=rfl
@[congr] theorem YS (R:Ex->PT->H->Prop) (k:List It){tk:Nat}(_:pd=tk):N C cf R k s h=N C cf R k s h:=rfl
@[congr] theorem YH (R:Ex->PT->H->Prop) (id:Nat) (k:List It){tk:Nat}(_:pd=tk):X C cf R id k s h=X C cf R id k s h:=rfl
def nU:List Oper->Nat->Option Tmp
 |[],_=>none
 |o::_,0=>o.dst
 |_::l,n+1=>nU l n
@[congr] theorem Td (n:Nat){tk:Nat}(_:pd=tk):nU l n=nU l n:=rfl
@[go_sem] theorem Un (dd:Option Tmp) (op:Op) (ty:TypeId) (p:String) (af:Array Edge) (g:Option (Nat × Bool)):nU (⟨dd,op,ty,p,af,g⟩::l) 0=dd:=(rfl)
@[go_sem] theorem Uo (o:Oper) (n:Nat):nU (o::l) (n+1)=nU l n:=(rfl)
theorem QL:∀(l:List Oper) (n:Nat),nU l n=(l[n]?).bind (·.dst):=by
 intro l;induction l with
 |nil=>intro n;simp[nU]
 |cons o l a=>intro n;cases n<;>simp[nU,a]
def yP:AV->Option Bool
 |.bool b=>some b
 |_=>none
def gV(v:AV) (want:Bool) (A B:Prop):Prop:=if yP v=some want then A else B
@[congr] theorem V7 {v v':AV}{want:Bool}{A B:Prop}{tk:Nat}(h:v=v') (_:pd=tk):gV v want A B=gV v' want A B:=by rw[h]
@[go_sem] theorem X3 (b want:Bool) (A B:Prop):gV (.bool b) want A B↔Ife (b=want) A B:=by rw[<-JX];simp[gV,yP]
def gI(t:Option Tmp) (s:PT) (want:Bool) (A B:Prop):Prop:=match t with
 |some t=>gV (s.get t) want A B
 |none=>B
@[congr] theorem WA {t t':Option Tmp}{want:Bool}{A B:Prop}{tk:Nat}(h:t=t') (_:pd=tk):gI t s want A B=gI t' s want A B:=by rw[h]
@[go_sem] theorem X5 (t:Tmp) (want:Bool) (A B:Prop):gI (some t) s want A B↔gV (s.get t) want A B:=Iff.rfl
theorem BE(o:List Oper) (j:Nat):eR o.toArray s j=(match nU o j with
 |some t=>yP (s.get t)
 |none=>none):=by
 unfold eR;rw[QL,dI];cases (o[j]?).bind λx=>x.dst with
 |none=>rfl
 |some t=>dsimp only;cases s.get t<;>rfl
@[go_sem] theorem OWG (o:List Oper) (op:Op) (j:Nat) (want:Bool):OW C cf o.toArray (⟨dd,op,ty,p,af,some (j,want)⟩::l) s h K ↔
  gI (nU o j) s want (OW C cf o.toArray (⟨dd,op,ty,p,af,none⟩::l) s h K) (OW C cf o.toArray l (kU s dd AV.undef) h K):=by
 rw[OO,BE,uC];unfold gI;cases nU o j with
 |none=>simp
 |some t=>exact Iff.rfl
theorem OWn{op:Op}{x:Option AV}(he:opN C.P s ⟨some d,op,ty,p,af,none⟩=x) (ha:eP ⟨some d,op,ty,p,af,none⟩=false) (hl:nx ⟨some d,op,ty,p,af,none⟩=false) :
  OW C cf ops (⟨some d,op,ty,p,af,none⟩::l) s h K↔bO x λv=>OW C cf ops l (s.set d v) h K:=by
 subst he;exact(uB ha hl).trans bO_iff.symm
theorem RF{x:Option (AV × H)}{f:AV->H->Prop}:(∃v h',x=some (v,h')/\f v h')↔bO x λz=>f z.1 z.2:=by
 rw[bO_iff];constructor
 ·rintro⟨v,h',e,k⟩;exact⟨(v,h'),e,k⟩
 rintro⟨⟨v,h'⟩,e,k⟩;exact⟨v,h',e,k⟩
theorem OWa{op:Op}{x:Option (AV × H)}(he:opA C (Call C) cf s h ⟨some d,op,ty,p,af,none⟩=x) (ha:eP ⟨some d,op,ty,p,af,none⟩=true) :
  OW C cf ops (⟨some d,op,ty,p,af,none⟩::l) s h K↔bO x λz=>OW C cf ops l (s.set d z.1) z.2 K:=by
 subst he;exact(qt ha).trans RF
@[go_sem] theorem aAP:OW C cf ops [] s h K↔K s h:=UU
@[go_sem] theorem Sc (v:AV):kU s (some d) v=s.set d v:=(rfl)
@[go_sem] theorem Sd (v:AV):kU s none v=s:=(rfl)
@[go_sem] theorem aAO (o:Oper) (d:Tmp) (v:AV):OW C cf ops (o::l) (kU s (some d) v) h K↔OW C cf ops (o::l) (s.set d v) h K:=Iff.rfl
@[go_sem] theorem ZX (x:Operand):OW C cf ops (⟨some d,.move x,ty,p,af,none⟩::l) s h K↔bO (ev s x) λv=>OW C cf ops l (s.set d v) h K:=OWn rfl rfl rfl
@[go_sem] theorem Ww (t:Tmp):OW C cf ops (⟨some d,.assign (.tmp t),ty,p,af,none⟩::l) s h K↔bO (some (s.get t)) λv=>OW C cf ops l (s.set d v) h K:=BX t
@[go_sem] theorem RV (k:IntKind) (n:Int):OW C cf ops (⟨some d,.assign (.const (.int k n)),ty,p,af,none⟩::l) s h K↔OW C cf ops l (s.set d (.int k n)) h K:=BZ k n
@[go_sem] theorem Oe (b:Bool):OW C cf ops (⟨some d,.assign (.const (.bool b)),ty,p,af,none⟩::l) s h K↔OW C cf ops l (s.set d (.bool b)) h K:=A9 b
@[go_sem] theorem RU:OW C cf ops (⟨some d,.assign (.const (.slice none 0 0)),ty,p,af,none⟩::l) s h K↔Ife (C.wr cf d=true) (OW C cf ops l (s.set d (.isl [] .full)) h K) (bO (ja C.P ty) λe=>OW C cf ops l (s.set d (.isl [] (.tok h.length))) (h++[.tok 0 e]) K):=by rw[BY,<-JX,bO_iff]
@[go_sem] theorem aAU (op:BinOp) (t t2:TypeId) (x y:Operand):OW C cf ops (⟨some d,.binOp op t x y t2,ty,p,af,none⟩::l) s h K↔bO (bi2 (ev s x) (ev s y) (jU C.P op t x y)) λv=>OW C cf ops l (s.set d v) h K:=OWn (by simp only[opN,bi2];cases ev s x<;>cases ev s y<;>rfl) rfl rfl
def EW(c:AV) (x y:Option AV):Option AV:=match c with
 |.bool true=>x
 |.bool false=>y
 |_=>none
@[congr] theorem Rj {c c':AV}{x y:Option AV}{tk:Nat}(h:c=c') (_:pd=tk):EW c x y=EW c' x y:=by rw[h]
@[go_sem] theorem Sh (b:Bool) (x y:Option AV):EW (.bool b) x y=if b=true then x else y:=by cases b<;>rfl
@[go_sem] theorem ZW (c x y:Operand):OW C cf ops (⟨some d,.pick c x y,ty,p,af,none⟩::l) s h K↔bO (bi1 (ev s c) λc=>EW c (ev s x) (ev s y)) λv=>OW C cf ops l (s.set d v) h K:=OWn (by simp only[opN,bi1,EW];cases ev s c<;>first|rfl|(rename_i c;cases c<;>first|rfl|(rename_i b;cases b<;>rfl))) rfl rfl
@[go_sem] theorem R2 (t:TypeId) (x i:Operand):OW C cf ops (⟨some d,.indexAddr t x i,ty,p,af,none⟩::l) s h K↔bO (bi2 (ev s x) (ev s i) (aZ C.P t)) λv=>OW C cf ops l (s.set d v) h K:=OWn (by simp only[opN,bi2];cases ev s x<;>cases ev s i<;>rfl) rfl rfl
@[go_sem] theorem R3 (t:TypeId) (x:Operand) (f:Nat):OW C cf ops (⟨some d,.fieldAddr t x f,ty,p,af,none⟩::l) s h K↔bO (bi1 (ev s x) λa=>bp C.P t a f) λv=>OW C cf ops l (s.set d v) h K:=OWn (by simp only[opN,bi1];cases ev s x<;>rfl) rfl rfl
def exV(v:AV) (i:Nat):Option AV:=match v with
 |.tuple l=>l[i]?
 |_=>none
@[go_sem] theorem Uj (l:LA) (i:Nat):exV (.tuple l) i=l[i]?:=(rfl)
@[go_sem] theorem Uw (x:Operand) (i:Nat):OW C cf ops (⟨some d,.extract x i,ty,p,af,none⟩::l) s h K↔bO (bi1 (ev s x) λv=>exV v i) λv=>OW C cf ops l (s.set d v) h K:=OWn (by simp only[opN,bi1,exV];cases ev s x<;>first|rfl|(rename_i c;cases c<;>rfl)) rfl rfl
@[go_sem] theorem YL (t:TypeId) (x:Operand) (lo hi mx:Option Operand):OW C cf ops (⟨some d,.slice t x lo hi mx,ty,p,af,none⟩::l) s h K↔bO (opN C.P s ⟨some d,.slice t x lo hi mx,ty,p,af,none⟩) λv=>OW C cf ops l (s.set d v) h K:=OWn rfl rfl rfl
@[go_sem] theorem aAR (t:TypeId) (x:Operand):OW C cf ops (⟨some d,.call {callee:=.builtin .len,args:=#[x],argTypes:=#[t]},ty,p,af,none⟩::l) s h K↔bO (bi1 (ev s x) (fG C.P t)) λv=>OW C cf ops l (s.set d v) h K:=OWn (by simp only[opN,bi1];cases ev s x<;>rfl) rfl rfl
@[go_sem] theorem aAc (op:UnOp) (t:TypeId) (x:Operand):OW C cf ops (⟨some d,.unOp op t x,ty,p,af,none⟩::l) s h K↔bO (bi1 (ev s x) (unV C.P op)) λv=>OW C cf ops l (s.set d v) h K:=OWn (by simp only[opN,bi1];cases ev s x<;>rfl) rfl rfl
@[go_sem] theorem YX (P:Program) (b:Bool):unV P .not (.bool b)=some (.bool !b):=by cases b<;>rfl
@[go_sem] theorem ZY (t:TypeId) (x:Operand):OW C cf ops (⟨some d,.load t x,ty,p,af,none⟩::l) s h K↔bO (bi1 (ev s x) (aJ C.P h t)) λv=>OW C cf ops l (s.set d v) h K:=by
 rw[RW,bO_iff];constructor
 ·rintro⟨a,c,v,b,e⟩;exact⟨v,by rw[c];exact b,e⟩
 rintro⟨v,b,e⟩;cases c:ev s x with
 |none=>rw[c]at b;cases b
 |some a=>rw[c]at b;exact⟨a,rfl,v,b,e⟩
@[go_sem] theorem YK (t:TypeId) (a x:Operand):OW C cf ops (⟨none,.store t a x,ty,p,af,none⟩::l) s h K↔bO (bi2 (ev s a) (ev s x) (ah C.P h t)) λh'=>OW C cf ops l s h' K:=by
 rw[ON,bO_iff];constructor
 ·rintro⟨q,v,h',c,d,b,e⟩;exact⟨h',by rw[c,d];exact b,e⟩
 rintro⟨h',b,e⟩;cases c:ev s a with
 |none=>rw[c]at b;cases b
 |some q=>cases d:ev s x with
  |none=>rw[c,d]at b;cases b
  |some v=>rw[c,d]at b;exact⟨q,v,h',rfl,rfl,b,e⟩
def mg(P:Program) (h:H) (t:TypeId) (a:AV):Option (AV × H):=match cw P t with
 |some n=>if a.cells.length=n/\au a then some (.ptr h.length 0,h++[.cells a.cells .live])else none
 |none=>none
@[go_sem] theorem aAT (t:TypeId) (x:Operand):OW C cf ops (⟨some d,.box t x,ty,p,af,none⟩::l) s h K↔bO (bi1 (ev s x) (mg C.P h t)) λz=>OW C cf ops l (s.set d z.1) z.2 K:=OWa (by simp only[opA,bi1,mg];cases ev s x<;>cases cw C.P t<;>rfl) rfl
@[go_sem] theorem YQ (t:TypeId):OW C cf ops (⟨some d,.alloc t,ty,p,af,none⟩::l) s h K↔bO (iV C.P t) λa=>OW C cf ops l (s.set d (.ptr h.length 0)) (h++[.cells a.cells .live]) K:=by
 rw[qt rfl,bO_iff];simp only[opA,uR];constructor
 ·rintro⟨v,f,b,c⟩;split at b<;>try(cases b;done)
  rename_i a e;simp only[aA,aE]at b;obtain⟨rfl,rfl⟩:=b;exact⟨a,e,c⟩
 rintro⟨a,e,c⟩;exact⟨_,_,by rw[e],c⟩
@[go_sem] theorem R1 (t:TypeId) (x y:Operand):OW C cf ops (⟨some d,.makeSlice t x y,ty,p,af,none⟩::l) s h K↔bO (bi2 (ev s x) (ev s y) (iY C.P (C.wr cf d) h t)) λz=>OW C cf ops l (s.set d z.1) z.2 K:=OWa (by simp only[opA,bi2];cases ev s x<;>cases ev s y<;>rfl) rfl
@[go_sem] theorem RT (t:TypeId) (n:Nat) (parts:List (Nat × Operand)):OW C cf ops (⟨some d,.buildSlice t n parts.toArray,ty,p,af,none⟩::l) s h K↔bO (bi1 (fT s parts) (cQ C.P h t n)) λz=>OW C cf ops l (s.set d z.1) z.2 K:=OWa (by simp only[opA,bi1];cases fT s parts<;>rfl) rfl
@[go_sem] theorem Wx (t:TypeId) (x y:Operand):OW C cf ops (⟨some d,.call {callee:=.builtin .append,args:=#[x,y],argTypes:=#[t,t]},ty,p,af,none⟩::l) s h K↔bO (bi2 (ev s x) (ev s y) (bi C.P (C.wr cf d) h t)) λz=>OW C cf ops l (s.set d z.1) z.2 K:=OWa (by simp only[opA,bi2,if_true];cases ev s x<;>cases ev s y<;>rfl) rfl
@[go_sem] theorem UT (f:FuncId) (args:List Operand) (at_:Array TypeId):OW C cf ops (⟨some d,.call {callee:=.value (.func f),args:=args.toArray,argTypes:=at_},ty,p,af,none⟩::l) s h K ↔
  bO (bi1 (evs s args) λas=>aj C h (.func f []) (some as)) λz=>OW C cf ops l (s.set d z.1) z.2 K:=by
 rw[RX,bO_iff];constructor
 ·rintro⟨v,c,a,e⟩;cases b:evs s args with
  |none=>rw[b]at a;cases a
  |some as=>rw[b]at a;exact⟨(v,c),a,e⟩
 rintro⟨⟨v,c⟩,a,e⟩;cases b:evs s args with
 |none=>rw[b]at a;cases a
 |some as=>rw[b]at a;exact⟨v,c,a,e⟩
@[go_sem] theorem YO (t:Tmp) (args:List Operand) (at_:Array TypeId):OW C cf ops (⟨some d,.call {callee:=.value (.tmp t),args:=args.toArray,argTypes:=at_},ty,p,af,none⟩::l) s h K ↔
  bO (bi1 (evs s args) λas=>aj C h (s.get t) (some as)) λz=>OW C cf ops l (s.set d z.1) z.2 K:=by
 rw[OP,bO_iff];constructor
 ·rintro⟨v,c,a,f⟩;cases b:evs s args with
  |none=>rw[b]at a;unfold aj at a;split at a<;>first|(cases a;done)|(rename_i e;cases e)
  |some as=>rw[b]at a;exact⟨(v,c),a,f⟩
 rintro⟨⟨v,c⟩,a,f⟩;cases b:evs s args with
 |none=>rw[b]at a;cases a
 |some as=>rw[b]at a;exact⟨v,c,a,f⟩
attribute [go_sem] TY Tb QG TZ E9 Ko QF QE
@[go_sem] theorem aAZ (x:Operand) (r:List Operand):evs s (x::r)=bi2 (ev s x) (evs s r) λa l=>some (a::l):=by simp only[evs,bi2];cases ev s x<;>cases evs s r<;>rfl
@[go_sem] theorem Si:fT s []=some []:=(rfl)
@[go_sem] theorem Yj (i:Nat) (x:Operand) (r:List (Nat × Operand)):fT s ((i,x)::r)=bi2 (ev s x) (fT s r) λa l=>if au a then some ((i,a)::l)else none:=by simp only[fT,bi2];cases ev s x<;>cases fT s r<;>rfl
@[go_sem] theorem Mx (i:Nat) (v:AV) (r:LA) (s:PT) (t:Tmp):(dP i (v::r) s).get t=(dP (i+1) r (s.set i v)).get t:=(rfl)
@[go_sem] theorem Oc (i:Nat) (s:PT) (t:Tmp):(dP i [] s).get t=s.get t:=(rfl)
variable {R:Ex->PT->H->Prop}{k:List It}
@[congr] theorem Wt {v v':AV}{A B:Prop}{tk:Nat}(h:v=v') (_:pd=tk):TF v A B=TF v' A B:=by rw[h]
attribute [go_sem] Wq RP UN UO Wr UP Wz UV W0 RY UM Wo RO
@[go_sem] theorem YI (id:Nat) (o:List Oper):W C cf R (.region id o.toArray false) k s h↔OW C cf o.toArray o s h (N C cf R k):=OJ id o.toArray
@[congr] theorem RJ {tk:Nat}(_:pd=tk):qE l=qE l:=rfl
@[go_sem] theorem ZT (b:Bool) (p q:Prop):TF (.bool b) p q↔Ife (b=true) p q:=by cases b<;>simp[TF,Ife]
@[go_sem] theorem UI:qE []=false:=(rfl)
@[go_sem] theorem Rz (dd:Option Tmp) (op:Op) (ty:TypeId) (p:String) (af:Array Edge) (g:Option (Nat × Bool)):qE (⟨dd,op,ty,p,af,g⟩::l)=(If ⟨none,op,0,p,#[],none⟩||qE l):=(rfl)
attribute [go_sem] If
@[go_sem] theorem Wp (id:Nat) (o:List Oper) (hm:C.mix cf id=false) (ha:qE o=false):W C cf R (.region id o.toArray true) k s h↔OW C cf o.toArray o s h (N C cf R k):=LH id o.toArray hm ha
end
end Go.V
namespace Go.V
open Go
theorem wD{C:Cfg}{f:FuncId}{args:LA}{fn:Func}{c:Code}{h h1:H}{v:AV}(hp:C.prim f args h=none) (hf:C.P.funcs[f]?=some fn) (hb:fn.body=some c) (hok:gi C f fn.ntmps false c=true) (hn:args.length<=fn.ntmps)
  (hw:∀R:Ex->PT->H->Prop,(∀e s h,(e=.normal\/e=.ret)->(∃r,ag C.P s h fn.results.toList=some r/\(r,h)=(v,h1))->R e s h)->W C f R c [] (dP 0 args .leaf) h):Call C f args h=some (v,h1):=by
 have⟨e,i,j,b,a,r,h1,d⟩:=hw (λe s h=>(e=.normal\/e=.ret)/\∃r,ag C.P s h fn.results.toList=some r/\(r,h)=(v,h1)) λ_ _ _ a g=>⟨a,g⟩
 rw[Dr hp hf hb hok hn,b];rcases a with rfl|rfl<;>simp only[h1,d]
theorem cY{P:Program}{h:H}{t e:TypeId}{len sz:Nat}{parts:List (Nat × AV)}{es:LA}(hu:P.underlying t=some (.slice e)) (hs:cw P e=some sz) (hz:ip P e=true) (h0:(sz==0)=false)
  (hl:len*sz<=16777216) (hi:(parts.map (·.1)==List.range len)=true) (hd:iT (parts.map (·.2))=some es) (hsh:(parts.map (·.2)).all short=true) (hpl:parts.length<90000) (he:uh sz es=true) :
  cQ P h t len parts=some (.isl es .full,h):=by
 have⟨b,c⟩:=dM (h:=h) hd hsh cM (by simp only[ax];unfold cM;omega);have a:(!ip P e||sz==0 || !decide (len*sz<=16777216) || !(parts.map (·.1)==List.range len))=false:=by rw[hz,h0,hi];simp[hl]
 unfold cQ;rw[hu];simp only[hs];simp only[a,aT,if_false,c,freeze,b,he,if_true]
theorem gN(P:Program) (h:H) (t:TypeId) (s x:AV):bi P false h t s x=ed P h t s x:=by simp[bi]
def cG:AV->Option Nat
 |.isl _ (.tok i)=>some i
 |.msl i _ _ _ _=>some i
 |.ptr i _=>some i
 |_=>none
def OwnR(e:TypeId) (h:H) (v:AV) (xs:LA):Prop:=v=.isl xs .full\/∃id,v=.isl xs (.tok id)/\h[id]?=some (.tok xs.length e)
def Keep(h h':H) (x:Option Nat):Prop:=h.length<=h'.length/\∀j,j<h.length->x≠some j->h'[j]?=h[j]?
theorem Keep.refl(h:H) (x:Option Nat):Keep h h x:=⟨aP _,λ_ _ _=>rfl⟩
theorem Keep.append(h g:H) (x:Option Nat):Keep h (h++g) x:=⟨s_,λj a _=>by rw[aH a]⟩
theorem Keep.set(h:H) (i:Nat) (o:VObj):Keep h (h.set i o) (some i):=⟨s_,λj b a=>by rw[aC];intro e;exact a (by rw[e])⟩
theorem Keep.get{h h':H}{x:Option Nat}(k:Keep h h' x){j:Nat}{o:VObj}(hj:h[j]?=some o) (hn:x≠some j):h'[j]?=some o:=by rw[k.2 j (aB.1 hj).1 hn];exact hj
theorem Keep.trans{h h' h2:H}{x y:Option Nat}(k:Keep h h' x) (k':Keep h' h2 y) (hy:y=x\/y=none\/∃j,y=some j/\h.length<=j):Keep h h2 x:=by
 refine⟨cJ k.1 k'.1,λj a b=>?_⟩;rw[k'.2 j (fW a k.1) ?_,k.2 j a b];rcases hy with rfl|rfl|⟨i,rfl,c⟩
 ·exact b
 ·exact λe=>by cases e
 intro e;simp only[aA]at e;omega
theorem OwnR.keep{e:TypeId}{h h':H}{v:AV}{xs:LA}{x:Option Nat}(o:OwnR e h v xs) (k:Keep h h' x) (hn:∀i,cG v=some i->x≠some i):OwnR e h' v xs:=by
 rcases o with rfl|⟨id,rfl,a⟩
 ·exact .inl rfl
 exact .inr ⟨id,rfl,k.get a (hn id rfl)⟩
theorem OwnR.isl{e:TypeId}{h:H}{v:AV}{xs:LA}(o:OwnR e h v xs):∃x,v=.isl xs x:=by rcases o with rfl|⟨id,rfl,_⟩<;>exact⟨_,rfl⟩
theorem OwnR.lt{e:TypeId}{h:H}{v:AV}{xs:LA}(o:OwnR e h v xs){i:Nat}(hi:cG v=some i):i<h.length:=by
 rcases o with rfl|⟨id,rfl,a⟩
 ·cases hi
 simp only[cG,aA]at hi;subst hi;exact(aB.1 a).1
theorem OwnR.new(e:TypeId) (h:H):OwnR e (h++[.tok 0 e]) (.isl [] (.tok h.length)) []:=.inr ⟨h.length,rfl,s_⟩
theorem mQ{P:Program}{t e:TypeId}{sz by_:Nat}(hu:P.underlying t=some (.slice e)) (hs:cw P e=some sz) (hb:jy P e=some by_) (hz:ip P e=true) (h0:(sz==0)=false)
  {h:H}{v:AV}{xs ys:LA}{x:Ext}(o:OwnR e h v xs) (hx:iN sz xs=true) (hy:iN sz ys=true) (hl:(xs.length+ys.length)*(by_+1)<=35184372088832) :
  ∃v' h',bi P false h t v (.isl ys x)=some (v',h')/\OwnR e h' v' (xs++ys)/\Keep h h' (cG v)/\(cG v'=cG v\/cG v=none/\cG v'=some h.length):=by
 have c:(!ip P e||sz==0 || !iN sz ys)=false:=by simp[hz,h0,hy]
 have a:(!decide ((xs.length+ys.length)*(by_+1)<=35184372088832))=false:=by simp[hl]
 rcases o with rfl|⟨id,rfl,b⟩
 ·cases ys with
  |nil=>exact⟨.isl xs .full,h,by simp only[gN,ed,hu,hs,hb,km,c,hx,a,dC,aT,if_false],by simp[OwnR],.refl _ _,.inl rfl⟩
  |cons y ys=>exact⟨.isl (xs++y::ys) (.tok h.length),h++[.tok (xs.length+(y::ys).length) e],by simp only[gN,ed,hu,hs,hb,km,c,hx,a,dC,aT,if_false],.inr ⟨_,rfl,s_⟩,.append _ _ _,.inr ⟨rfl,rfl⟩⟩
 have d:=(aB.1 b).1;refine⟨.isl (xs++ys) (.tok id),h.set id (.tok (xs.length+ys.length) e),?_,.inr ⟨id,rfl,by simp[d]⟩,.set _ _ _,.inl rfl⟩;have e:bi P false h t (.isl xs (.tok id)) (.isl ys x)=ed P h t (.isl xs (.tok id)) (.isl ys x):=gN _ _ _ _ _;rw[e];simp only[ed,hu,hs,hb,km,c,hx,a,dC,aT,if_false,b,and_self,if_true]
end Go.V
