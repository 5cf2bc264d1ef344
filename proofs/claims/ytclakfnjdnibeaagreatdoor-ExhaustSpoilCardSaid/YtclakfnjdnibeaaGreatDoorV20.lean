/- A part of the proof. -/
import Derived.Test.YtclakfnjdnibeaaGreatDoorV19
namespace Go.V
open Go
def nD:Nat:=0
def aAO:Nat:=0
@[go_sem] theorem WC:nD=aAO:=(rfl)
def Ife(c A B:Prop):Prop:=(c->A)/\(¬c->B)
@[congr] theorem Wp {c c' A B:Prop}{tk:Nat}(h:c=c') (_:nD=tk):Ife c A B=Ife c' A B:=by rw[h]
@[go_sem] theorem Zi (A B:Prop):Ife True A B↔A:=by simp[Ife]
@[go_sem] theorem Wo (A B:Prop):Ife False A B↔B:=by simp[Ife]
theorem Ife_iff{c A B:Prop}:Ife c A B↔(c->A)/\(¬c->B):=Iff.rfl
theorem JY{c:Prop} [Decidable c] {A B:Prop}:(if c then A else B)↔Ife c A B:=by by_cases h:c<;>simp[Ife,h]
def bO{α:Type}(x:Option α) (f:α->Prop):Prop:=match x with
 |some a=>f a
 |none=>False
theorem bO_iff{α:Type}{x:Option α}{f:α->Prop}:bO x f↔∃a,x=some a/\f a:=by
 cases x with
 |none=>simp[bO]
 |some a=>simp[bO]
@[congr] theorem YX {α:Type}{x y:Option α}{f:α->Prop}{tk:Nat}(h:x=y) (_:nD=tk):bO x f=bO y f:=by rw[h]
@[go_sem] theorem Z2 {α:Type}(a:α) (f:α->Prop):bO (some a) f↔f a:=Iff.rfl
def bi2{α β γ:Type}(x:Option α) (y:Option β) (g:α->β->Option γ):Option γ:=match x,y with
 |some a,some b=>g a b
 |_,_=>none
@[congr] theorem Wg {α β γ:Type}{x x':Option α}{y y':Option β}{g:α->β->Option γ}{tk:Nat}(h:x=x') (h':y=y') (_:nD=tk):bi2 x y g=bi2 x' y' g:=by rw[h,h']
@[go_sem] theorem YV {α β γ:Type}(a:α) (b:β) (g:α->β->Option γ):bi2 (some a) (some b) g=g a b:=(rfl)
def bi1{α γ:Type}(x:Option α) (g:α->Option γ):Option γ:=match x with
 |some a=>g a
 |none=>none
@[congr] theorem Wh {α γ:Type}{x x':Option α}{g:α->Option γ}{tk:Nat}(h:x=x') (_:nD=tk):bi1 x g=bi1 x' g:=by rw[h]
@[go_sem] theorem YW {α γ:Type}(a:α) (g:α->Option γ):bi1 (some a) g=g a:=(rfl)
section
variable {C:Cfg}{cf:FuncId}{s:PT}{h:H}{ops:Array Oper}{K:PT->H->Prop}{d:Tmp}{dd:Option Tmp}{ty:TypeId}{p:String}{af:Array Edge}{l:List Oper}
@[congr] theorem Yt {tk:Nat}(_:nD=tk):OW C cf ops l s h K=OW C cf ops l s h K:=rfl
@[congr] theorem WL (t:Tmp){tk:Nat}(_:nD=tk):PT.get s t=PT.get s t:=rfl
@[congr] theorem WO (x:Operand){tk:Nat}(_:nD=tk):ev s x=ev s x:=rfl
@[congr] theorem VK (x:List Operand){tk:Nat}(_:nD=tk):evs s x=evs s x:=rfl
@[congr] theorem Pq (x:List (Nat × Operand)){tk:Nat}(_:nD=tk):gJ s x=gJ s x:=rfl
@[congr] theorem Z7 (R:Ex->PT->H->Prop) (c:Code) (k:List It){tk:Nat}(_:nD=tk):W C cf R c k s h=W C cf R c k s h:=rfl
@[congr] theorem aAH (R:Ex->PT->H->Prop) (k:List It){tk:Nat}(_:nD=tk):N C cf R k s h=N C cf R k s h:=rfl
@[congr] theorem Z5 (R:Ex->PT->H->Prop) (id:Nat) (k:List It){tk:Nat}(_:nD=tk):X C cf R id k s h=X C cf R id k s h:=rfl
def nM:List Oper->Nat->Option Tmp
 |[],_=>none
 |o::_,0=>o.dst
 |_::l,n+1=>nM l n
@[congr] theorem VR (n:Nat){tk:Nat}(_:nD=tk):nM l n=nM l n:=rfl
@[go_sem] theorem Wa (dd:Option Tmp) (op:Op) (ty:TypeId) (p:String) (af:Array Edge) (g:Option (Nat × Bool)):nM (⟨dd,op,ty,p,af,g⟩::l) 0=dd:=(rfl)
@[go_sem] theorem Wb (o:Oper) (n:Nat):nM (o::l) (n+1)=nM l n:=(rfl)
theorem Rj:∀(l:List Oper) (n:Nat),nM l n=(l[n]?).bind (·.dst):=by
 intro l;induction l with
 |nil=>intro n;simp[nM]
 |cons o l a=>intro n;cases n<;>simp[nM,a]
def xu:AV->Option Bool
 |.bool b=>some b
 |_=>none
def gV(v:AV) (want:Bool) (A B:Prop):Prop:=if xu v=some want then A else B
@[congr] theorem X0 {v v':AV}{want:Bool}{A B:Prop}{tk:Nat}(h:v=v') (_:nD=tk):gV v want A B=gV v' want A B:=by rw[h]
@[go_sem] theorem Zo (b want:Bool) (A B:Prop):gV (.bool b) want A B↔Ife (b=want) A B:=by rw[<-JY];simp[gV,xu]
def gI(t:Option Tmp) (s:PT) (want:Bool) (A B:Prop):Prop:=match t with
 |some t=>gV (s.get t) want A B
 |none=>B
@[congr] theorem X3 {t t':Option Tmp}{want:Bool}{A B:Prop}{tk:Nat}(h:t=t') (_:nD=tk):gI t s want A B=gI t' s want A B:=by rw[h]
@[go_sem] theorem Zq (t:Tmp) (want:Bool) (A B:Prop):gI (some t) s want A B↔gV (s.get t) want A B:=Iff.rfl
theorem BB(o:List Oper) (j:Nat):dw o.toArray s j=(match nM o j with
 |some t=>xu (s.get t)
 |none=>none):=by
 unfold dw;rw[Rj,dB];cases (o[j]?).bind λx=>x.dst with
 |none=>rfl
 |some t=>dsimp only;cases s.get t<;>rfl
@[go_sem] theorem OWG (o:List Oper) (op:Op) (j:Nat) (want:Bool):OW C cf o.toArray (⟨dd,op,ty,p,af,some (j,want)⟩::l) s h K ↔
  gI (nM o j) s want (OW C cf o.toArray (⟨dd,op,ty,p,af,none⟩::l) s h K) (OW C cf o.toArray l (jB s dd AV.undef) h K):=by
 rw[Pa,BB,tv];unfold gI;cases nM o j with
 |none=>simp
 |some t=>exact Iff.rfl
theorem OWn{op:Op}{x:Option AV}(he:opN C.P s ⟨some d,op,ty,p,af,none⟩=x) (ha:dW ⟨some d,op,ty,p,af,none⟩=false) (hl:jS ⟨some d,op,ty,p,af,none⟩=false) :
  OW C cf ops (⟨some d,op,ty,p,af,none⟩::l) s h K↔bO x λv=>OW C cf ops l (s.set d v) h K:=by
 subst he;exact(pU ha hl).trans bO_iff.symm
theorem Sj{x:Option (AV × H)}{f:AV->H->Prop}:(∃v h',x=some (v,h')/\f v h')↔bO x λz=>f z.1 z.2:=by
 rw[bO_iff];constructor
 ·rintro⟨v,h',e,k⟩;exact⟨(v,h'),e,k⟩
 rintro⟨⟨v,h'⟩,e,k⟩;exact⟨v,h',e,k⟩
theorem OWa{op:Op}{x:Option (AV × H)}(he:opA C (Call C) cf s h ⟨some d,op,ty,p,af,none⟩=x) (ha:dW ⟨some d,op,ty,p,af,none⟩=true) :
  OW C cf ops (⟨some d,op,ty,p,af,none⟩::l) s h K↔bO x λz=>OW C cf ops l (s.set d z.1) z.2 K:=by
 subst he;exact(qX ha).trans Sj
@[go_sem] theorem aCE:OW C cf ops [] s h K↔K s h:=V0
@[go_sem] theorem UI (v:AV):jB s (some d) v=s.set d v:=(rfl)
@[go_sem] theorem UJ (v:AV):jB s none v=s:=(rfl)
@[go_sem] theorem aCD (o:Oper) (d:Tmp) (v:AV):OW C cf ops (o::l) (jB s (some d) v) h K↔OW C cf ops (o::l) (s.set d v) h K:=Iff.rfl
@[go_sem] theorem aBT (x:Operand):OW C cf ops (⟨some d,.move x,ty,p,af,none⟩::l) s h K↔bO (ev s x) λv=>OW C cf ops l (s.set d v) h K:=OWn rfl rfl rfl
@[go_sem] theorem Yr (t:Tmp):OW C cf ops (⟨some d,.assign (.tmp t),ty,p,af,none⟩::l) s h K↔bO (some (s.get t)) λv=>OW C cf ops l (s.set d v) h K:=BX t
@[go_sem] theorem Sx (k:IntKind) (n:Int):OW C cf ops (⟨some d,.assign (.const (.int k n)),ty,p,af,none⟩::l) s h K↔OW C cf ops l (s.set d (.int k n)) h K:=BZ k n
@[go_sem] theorem Pu (b:Bool):OW C cf ops (⟨some d,.assign (.const (.bool b)),ty,p,af,none⟩::l) s h K↔OW C cf ops l (s.set d (.bool b)) h K:=BA b
@[go_sem] theorem Sw:OW C cf ops (⟨some d,.assign (.const (.slice none 0 0)),ty,p,af,none⟩::l) s h K↔Ife (C.wr cf d=true) (OW C cf ops l (s.set d (.isl [] .full)) h K) (bO (ii C.P ty) λe=>OW C cf ops l (s.set d (.isl [] (.tok h.length))) (h++[.tok 0 e]) K):=by rw[BY,<-JY,bO_iff]
@[go_sem] theorem aCI (op:BinOp) (t t2:TypeId) (x y:Operand):OW C cf ops (⟨some d,.binOp op t x y t2,ty,p,af,none⟩::l) s h K↔bO (bi2 (ev s x) (ev s y) (iN C.P op t x y)) λv=>OW C cf ops l (s.set d v) h K:=OWn (by simp only[opN,bi2];cases ev s x<;>cases ev s y<;>rfl) rfl rfl
def ET(c:AV) (x y:Option AV):Option AV:=match c with
 |.bool true=>x
 |.bool false=>y
 |_=>none
@[congr] theorem TG {c c':AV}{x y:Option AV}{tk:Nat}(h:c=c') (_:nD=tk):ET c x y=ET c' x y:=by rw[h]
@[go_sem] theorem UL (b:Bool) (x y:Option AV):ET (.bool b) x y=if b=true then x else y:=by cases b<;>rfl
@[go_sem] theorem aBS (c x y:Operand):OW C cf ops (⟨some d,.pick c x y,ty,p,af,none⟩::l) s h K↔bO (bi1 (ev s c) λc=>ET c (ev s x) (ev s y)) λv=>OW C cf ops l (s.set d v) h K:=OWn (by simp only[opN,bi1,ET];cases ev s c<;>first|rfl|(rename_i c;cases c<;>first|rfl|(rename_i b;cases b<;>rfl))) rfl rfl
@[go_sem] theorem Tc (t:TypeId) (x i:Operand):OW C cf ops (⟨some d,.indexAddr t x i,ty,p,af,none⟩::l) s h K↔bO (bi2 (ev s x) (ev s i) (bH C.P t)) λv=>OW C cf ops l (s.set d v) h K:=OWn (by simp only[opN,bi2];cases ev s x<;>cases ev s i<;>rfl) rfl rfl
@[go_sem] theorem Td (t:TypeId) (x:Operand) (f:Nat):OW C cf ops (⟨some d,.fieldAddr t x f,ty,p,af,none⟩::l) s h K↔bO (bi1 (ev s x) λa=>bF C.P t a f) λv=>OW C cf ops l (s.set d v) h K:=OWn (by simp only[opN,bi1];cases ev s x<;>rfl) rfl rfl
def exV(v:AV) (i:Nat):Option AV:=match v with
 |.tuple l=>l[i]?
 |_=>none
@[go_sem] theorem WN (l:LA) (i:Nat):exV (.tuple l) i=l[i]?:=(rfl)
@[go_sem] theorem Wm (x:Operand) (i:Nat):OW C cf ops (⟨some d,.extract x i,ty,p,af,none⟩::l) s h K↔bO (bi1 (ev s x) λv=>exV v i) λv=>OW C cf ops l (s.set d v) h K:=OWn (by simp only[opN,bi1,exV];cases ev s x<;>first|rfl|(rename_i c;cases c<;>rfl)) rfl rfl
@[go_sem] theorem Z9 (t:TypeId) (x:Operand) (lo hi mx:Option Operand):OW C cf ops (⟨some d,.slice t x lo hi mx,ty,p,af,none⟩::l) s h K↔bO (opN C.P s ⟨some d,.slice t x lo hi mx,ty,p,af,none⟩) λv=>OW C cf ops l (s.set d v) h K:=OWn rfl rfl rfl
@[go_sem] theorem aCG (t:TypeId) (x:Operand):OW C cf ops (⟨some d,.call {callee:=.builtin .len,args:=#[x],argTypes:=#[t]},ty,p,af,none⟩::l) s h K↔bO (bi1 (ev s x) (fB C.P t)) λv=>OW C cf ops l (s.set d v) h K:=OWn (by simp only[opN,bi1];cases ev s x<;>rfl) rfl rfl
@[go_sem] theorem aCW (op:UnOp) (t:TypeId) (x:Operand):OW C cf ops (⟨some d,.unOp op t x,ty,p,af,none⟩::l) s h K↔bO (bi1 (ev s x) (unV C.P op)) λv=>OW C cf ops l (s.set d v) h K:=OWn (by simp only[opN,bi1];cases ev s x<;>rfl) rfl rfl
@[go_sem] theorem aAL (P:Program) (b:Bool):unV P .not (.bool b)=some (.bool !b):=by cases b<;>rfl
@[go_sem] theorem aBU (t:TypeId) (x:Operand):OW C cf ops (⟨some d,.load t x,ty,p,af,none⟩::l) s h K↔bO (bi1 (ev s x) (aW C.P h t)) λv=>OW C cf ops l (s.set d v) h K:=by
 rw[Sz,bO_iff];constructor
 ·rintro⟨a,c,v,b,e⟩;exact⟨v,by rw[c];exact b,e⟩
 rintro⟨v,b,e⟩;cases c:ev s x with
 |none=>rw[c]at b;cases b
 |some a=>rw[c]at b;exact⟨a,rfl,v,b,e⟩
@[go_sem] theorem Z8 (t:TypeId) (a x:Operand):OW C cf ops (⟨none,.store t a x,ty,p,af,none⟩::l) s h K↔bO (bi2 (ev s a) (ev s x) (cL C.P h t)) λh'=>OW C cf ops l s h' K:=by
 rw[PZ,bO_iff];constructor
 ·rintro⟨q,v,h',c,d,b,e⟩;exact⟨h',by rw[c,d];exact b,e⟩
 rintro⟨h',b,e⟩;cases c:ev s a with
 |none=>rw[c]at b;cases b
 |some q=>cases d:ev s x with
  |none=>rw[c,d]at b;cases b
  |some v=>rw[c,d]at b;exact⟨q,v,h',rfl,rfl,b,e⟩
def nR(P:Program) (h:H) (t:TypeId) (a:AV):Option (AV × H):=match cr P t with
 |some n=>if a.cells.length=n/\bf a then some (.ptr h.length 0,h++[.cells a.cells .live])else none
 |none=>none
@[go_sem] theorem aCH (t:TypeId) (x:Operand):OW C cf ops (⟨some d,.box t x,ty,p,af,none⟩::l) s h K↔bO (bi1 (ev s x) (nR C.P h t)) λz=>OW C cf ops l (s.set d z.1) z.2 K:=OWa (by simp only[opA,bi1,nR];cases ev s x<;>cases cr C.P t<;>rfl) rfl
@[go_sem] theorem aAF (t:TypeId):OW C cf ops (⟨some d,.alloc t,ty,p,af,none⟩::l) s h K↔bO (iH C.P t) λa=>OW C cf ops l (s.set d (.ptr h.length 0)) (h++[.cells a.cells .live]) K:=by
 rw[qX rfl,bO_iff];simp only[opA,uI];constructor
 ·rintro⟨v,f,b,c⟩;split at b<;>try(cases b;done)
  rename_i a e;simp only[aA,aD]at b;obtain⟨rfl,rfl⟩:=b;exact⟨a,e,c⟩
 rintro⟨a,e,c⟩;exact⟨_,_,by rw[e],c⟩
@[go_sem] theorem Tb (t:TypeId) (x y:Operand):OW C cf ops (⟨some d,.makeSlice t x y,ty,p,af,none⟩::l) s h K↔bO (bi2 (ev s x) (ev s y) (gN C.P (C.wr cf d) h t)) λz=>OW C cf ops l (s.set d z.1) z.2 K:=OWa (by simp only[opA,bi2];cases ev s x<;>cases ev s y<;>rfl) rfl
@[go_sem] theorem Su (t:TypeId) (n:Nat) (parts:List (Nat × Operand)):OW C cf ops (⟨some d,.buildSlice t n parts.toArray,ty,p,af,none⟩::l) s h K↔bO (bi1 (gJ s parts) (cI C.P h t n)) λz=>OW C cf ops l (s.set d z.1) z.2 K:=OWa (by simp only[opA,bi1];cases gJ s parts<;>rfl) rfl
@[go_sem] theorem Ys (t:TypeId) (x y:Operand):OW C cf ops (⟨some d,.call {callee:=.builtin .append,args:=#[x,y],argTypes:=#[t,t]},ty,p,af,none⟩::l) s h K↔bO (bi2 (ev s x) (ev s y) (bu C.P (C.wr cf d) h t)) λz=>OW C cf ops l (s.set d z.1) z.2 K:=OWa (by simp only[opA,bi2,if_true];cases ev s x<;>cases ev s y<;>rfl) rfl
@[go_sem] theorem Vz (f:FuncId) (args:List Operand) (at_:Array TypeId):OW C cf ops (⟨some d,.call {callee:=.value (.func f),args:=args.toArray,argTypes:=at_},ty,p,af,none⟩::l) s h K ↔
  bO (bi1 (evs s args) λas=>ak C h (.func f []) (some as)) λz=>OW C cf ops l (s.set d z.1) z.2 K:=by
 rw[S0,bO_iff];constructor
 ·rintro⟨v,c,a,e⟩;cases b:evs s args with
  |none=>rw[b]at a;cases a
  |some as=>rw[b]at a;exact⟨(v,c),a,e⟩
 rintro⟨⟨v,c⟩,a,e⟩;cases b:evs s args with
 |none=>rw[b]at a;cases a
 |some as=>rw[b]at a;exact⟨v,c,a,e⟩
@[go_sem] theorem aAD (t:Tmp) (args:List Operand) (at_:Array TypeId):OW C cf ops (⟨some d,.call {callee:=.value (.tmp t),args:=args.toArray,argTypes:=at_},ty,p,af,none⟩::l) s h K ↔
  bO (bi1 (evs s args) λas=>ak C h (s.get t) (some as)) λz=>OW C cf ops l (s.set d z.1) z.2 K:=by
 rw[Pb,bO_iff];constructor
 ·rintro⟨v,c,a,f⟩;cases b:evs s args with
  |none=>rw[b]at a;unfold ak at a;split at a<;>first|(cases a;done)|(rename_i e;cases e)
  |some as=>rw[b]at a;exact⟨(v,c),a,f⟩
 rintro⟨⟨v,c⟩,a,f⟩;cases b:evs s args with
 |none=>rw[b]at a;cases a
 |some as=>rw[b]at a;exact⟨v,c,a,f⟩
attribute [go_sem] VL VO Re VM E7 K9 Rc Rb
@[go_sem] theorem aCT (x:Operand) (r:List Operand):evs s (x::r)=bi2 (ev s x) (evs s r) λa l=>some (a::l):=by simp only[evs,bi2];cases ev s x<;>cases evs s r<;>rfl
@[go_sem] theorem UM:gJ s []=some []:=(rfl)
@[go_sem] theorem aAY (i:Nat) (x:Operand) (r:List (Nat × Operand)):gJ s ((i,x)::r)=bi2 (ev s x) (gJ s r) λa l=>if bf a then some ((i,a)::l)else none:=by simp only[gJ,bi2];cases ev s x<;>cases gJ s r<;>rfl
@[go_sem] theorem No (i:Nat) (v:AV) (r:LA) (s:PT) (t:Tmp):(kC i (v::r) s).get t=(kC (i+1) r (s.set i v)).get t:=(rfl)
@[go_sem] theorem Ps (i:Nat) (s:PT) (t:Tmp):(kC i [] s).get t=s.get t:=(rfl)
variable {R:Ex->PT->H->Prop}{k:List It}
@[congr] theorem Yp {v v':AV}{A B:Prop}{tk:Nat}(h:v=v') (_:nD=tk):TF v A B=TF v' A B:=by rw[h]
attribute [go_sem] Yl Sq Vt Vu Ym Vv Yu V1 Yv S1 Vs Yj Sp
@[go_sem] theorem Z6 (id:Nat) (o:List Oper):W C cf R (.region id o.toArray false) k s h↔OW C cf o.toArray o s h (N C cf R k):=PW id o.toArray
@[congr] theorem Sn {tk:Nat}(_:nD=tk):pT l=pT l:=rfl
@[go_sem] theorem aBQ (b:Bool) (p q:Prop):TF (.bool b) p q↔Ife (b=true) p q:=by cases b<;>simp[TF,Ife]
@[go_sem] theorem Vn:pT []=false:=(rfl)
@[go_sem] theorem TZ (dd:Option Tmp) (op:Op) (ty:TypeId) (p:String) (af:Array Edge) (g:Option (Nat × Bool)):pT (⟨dd,op,ty,p,af,g⟩::l)=(I2 ⟨none,op,0,p,#[],none⟩||pT l):=(rfl)
attribute [go_sem] I2
@[go_sem] theorem Yk (id:Nat) (o:List Oper) (hm:C.mix cf id=false) (ha:pT o=false):W C cf R (.region id o.toArray true) k s h↔OW C cf o.toArray o s h (N C cf R k):=L9 id o.toArray hm ha
end
end Go.V
namespace Go.V
open Go
theorem WB{C:Cfg}{f:FuncId}{args:LA}{fn:Func}{c:Code}{h h1:H}{v:AV}(hp:C.prim f args h=none) (hf:C.P.funcs[f]?=some fn) (hb:fn.body=some c) (hok:gO C f fn.ntmps false c=true) (hn:args.length<=fn.ntmps)
  (hw:∀R:Ex->PT->H->Prop,(∀e s h,(e=.normal\/e=.ret)->(∃r,aY C.P s h fn.results.toList=some r/\(r,h)=(v,h1))->R e s h)->W C f R c [] (kC 0 args .leaf) h):Call C f args h=some (v,h1):=by
 have⟨e,i,j,b,a,r,h1,d⟩:=hw (λe s h=>(e=.normal\/e=.ret)/\∃r,aY C.P s h fn.results.toList=some r/\(r,h)=(v,h1)) λ_ _ _ a g=>⟨a,g⟩
 rw[D6 hp hf hb hok hn,b];rcases a with rfl|rfl<;>simp only[h1,d]
theorem cG{P:Program}{h:H}{t e:TypeId}{len sz:Nat}{parts:List (Nat × AV)}{es:LA}(hu:P.underlying t=some (.slice e)) (hs:cr P e=some sz) (hz:gH P e=true) (h0:(sz==0)=false)
  (hl:len*sz<=16777216) (hi:(parts.map (·.1)==List.range len)=true) (hd:jd (parts.map (·.2))=some es) (hsh:(parts.map (·.2)).all short=true) (hpl:parts.length<90000) (he:rn sz es=true) :
  cI P h t len parts=some (.isl es .full,h):=by
 have⟨b,c⟩:=eo (h:=h) hd hsh dD (by simp only[aU];unfold dD;omega);have a:(!gH P e||sz==0 || !decide (len*sz<=16777216) || !(parts.map (·.1)==List.range len))=false:=by rw[hz,h0,hi];simp[hl]
 unfold cI;rw[hu];simp only[hs];simp only[a,aw,if_false,c,freeze,b,he,if_true]
theorem iE(P:Program) (h:H) (t:TypeId) (s x:AV):bu P false h t s x=eV P h t s x:=by simp[bu]
def bv:AV->Option Nat
 |.isl _ (.tok i)=>some i
 |.msl i _ _ _ _=>some i
 |.ptr i _=>some i
 |_=>none
def OwnR(e:TypeId) (h:H) (v:AV) (xs:LA):Prop:=v=.isl xs .full\/∃id,v=.isl xs (.tok id)/\h[id]?=some (.tok xs.length e)
def Keep(h h':H) (x:Option Nat):Prop:=h.length<=h'.length/\∀j,j<h.length->x≠some j->h'[j]?=h[j]?
theorem Keep.refl(h:H) (x:Option Nat):Keep h h x:=⟨aR _,λ_ _ _=>rfl⟩
theorem Keep.append(h g:H) (x:Option Nat):Keep h (h++g) x:=⟨s_,λj a _=>by rw[aP a]⟩
theorem Keep.set(h:H) (i:Nat) (o:VObj):Keep h (h.set i o) (some i):=⟨s_,λj b a=>by rw[aE];intro e;exact a (by rw[e])⟩
theorem Keep.get{h h':H}{x:Option Nat}(k:Keep h h' x){j:Nat}{o:VObj}(hj:h[j]?=some o) (hn:x≠some j):h'[j]?=some o:=by rw[k.2 j (aB.1 hj).1 hn];exact hj
theorem Keep.trans{h h' h2:H}{x y:Option Nat}(k:Keep h h' x) (k':Keep h' h2 y) (hy:y=x\/y=none\/∃j,y=some j/\h.length<=j):Keep h h2 x:=by
 refine⟨cW k.1 k'.1,λj a b=>?_⟩;rw[k'.2 j (eG a k.1) ?_,k.2 j a b];rcases hy with rfl|rfl|⟨i,rfl,c⟩
 ·exact b
 ·exact λe=>by cases e
 intro e;simp only[aA]at e;omega
theorem OwnR.keep{e:TypeId}{h h':H}{v:AV}{xs:LA}{x:Option Nat}(o:OwnR e h v xs) (k:Keep h h' x) (hn:∀i,bv v=some i->x≠some i):OwnR e h' v xs:=by
 rcases o with rfl|⟨id,rfl,a⟩
 ·exact .inl rfl
 exact .inr ⟨id,rfl,k.get a (hn id rfl)⟩
theorem OwnR.isl{e:TypeId}{h:H}{v:AV}{xs:LA}(o:OwnR e h v xs):∃x,v=.isl xs x:=by rcases o with rfl|⟨id,rfl,_⟩<;>exact⟨_,rfl⟩
theorem OwnR.lt{e:TypeId}{h:H}{v:AV}{xs:LA}(o:OwnR e h v xs){i:Nat}(hi:bv v=some i):i<h.length:=by
 rcases o with rfl|⟨id,rfl,a⟩
 ·cases hi
 simp only[bv,aA]at hi;subst hi;exact(aB.1 a).1
theorem OwnR.new(e:TypeId) (h:H):OwnR e (h++[.tok 0 e]) (.isl [] (.tok h.length)) []:=.inr ⟨h.length,rfl,s_⟩
theorem jG{P:Program}{t e:TypeId}{sz by_:Nat}(hu:P.underlying t=some (.slice e)) (hs:cr P e=some sz) (hb:hG P e=some by_) (hz:gH P e=true) (h0:(sz==0)=false)
  {h:H}{v:AV}{xs ys:LA}{x:Ext}(o:OwnR e h v xs) (hx:gn sz xs=true) (hy:gn sz ys=true) (hl:(xs.length+ys.length)*(by_+1)<=35184372088832) :
  ∃v' h',bu P false h t v (.isl ys x)=some (v',h')/\OwnR e h' v' (xs++ys)/\Keep h h' (bv v)/\(bv v'=bv v\/bv v=none/\bv v'=some h.length):=by
 have c:(!gH P e||sz==0 || !gn sz ys)=false:=by simp[hz,h0,hy]
 have a:(!decide ((xs.length+ys.length)*(by_+1)<=35184372088832))=false:=by simp[hl]
 rcases o with rfl|⟨id,rfl,b⟩
 ·cases ys with
  |nil=>exact⟨.isl xs .full,h,by simp only[iE,eV,hu,hs,hb,lp,c,hx,a,du,aw,if_false],by simp[OwnR],.refl _ _,.inl rfl⟩
  |cons y ys=>exact⟨.isl (xs++y::ys) (.tok h.length),h++[.tok (xs.length+(y::ys).length) e],by simp only[iE,eV,hu,hs,hb,lp,c,hx,a,du,aw,if_false],.inr ⟨_,rfl,s_⟩,.append _ _ _,.inr ⟨rfl,rfl⟩⟩
 have d:=(aB.1 b).1;refine⟨.isl (xs++ys) (.tok id),h.set id (.tok (xs.length+ys.length) e),?_,.inr ⟨id,rfl,by simp[d]⟩,.set _ _ _,.inl rfl⟩;have e:bu P false h t (.isl xs (.tok id)) (.isl ys x)=eV P h t (.isl xs (.tok id)) (.isl ys x):=iE _ _ _ _ _;rw[e];simp only[eV,hu,hs,hb,lp,c,hx,a,du,aw,if_false,b,and_self,if_true]
end Go.V
