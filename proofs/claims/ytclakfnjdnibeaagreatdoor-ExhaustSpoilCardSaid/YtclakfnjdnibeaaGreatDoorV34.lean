/- A part of the proof. -/
import Derived.Test.YtclakfnjdnibeaaGreatDoorV23
namespace Go.V
open Go
def ifV(b:Bool) (v:AV):AV:=if b=true then v else AV.undef
@[go_sem] theorem Xt (v:AV):ifV true v=v:=(rfl)
@[go_sem] theorem WI (v:AV):ifV false v=AV.undef:=(rfl)
@[go_sem] theorem aA7 {b:Bool}(h:b=true) (v:AV):ifV b v=v:=by subst h;rfl
def bG(b:Bool) (x:Option AV) (f:AV->Prop):Prop:=bO (if b=true then x else some AV.undef) f
@[congr] theorem YZ {b b':Bool}{x y:Option AV}{f:AV->Prop}{tk:Nat}(hb:b=b') (h:b'=true->x=y) (_:nD=tk):bG b x f=bG b' y f:=by
 subst hb;cases b with
 |true=>rw[h rfl]
 |false=>rfl
@[go_sem] theorem Z4 (b:Bool) (v:AV) (f:AV->Prop):bG b (some v) f↔f (ifV b v):=by cases b<;>rfl
@[go_sem] theorem Z3 (x:Option AV) (f:AV->Prop):bG true x f↔bO x f:=Iff.rfl
@[go_sem] theorem YY (x:Option AV) (f:AV->Prop):bG false x f↔f AV.undef:=Iff.rfl
def pK(v:AV) (want:Bool):Bool:=xu v==some want
@[go_sem] theorem Xw (b:Bool):pK (.bool b) true=b:=by cases b<;>rfl
def nb(b:Bool):Bool:=!b
@[go_sem] theorem Xx (b:Bool):pK (.bool b) false=nb b:=by cases b<;>rfl
@[go_sem] theorem Zm:nb true=false:=(rfl)
@[go_sem] theorem XS:nb false=true:=(rfl)
@[go_sem] theorem Q7 (want:Bool):pK AV.undef want=false:=by cases want<;>rfl
@[go_sem] theorem WJ (b:Bool) (v:AV) (want:Bool):pK (ifV b v) want=(b&&pK v want):=by cases b<;>cases want<;>rfl
def gP(t:Option Tmp) (s:PT) (want:Bool) (x:Option AV) (f:AV->Prop):Prop:=match t with
 |some t=>bG (pK (s.get t) want) x f
 |none=>f AV.undef
@[congr] theorem X1 {t t':Option Tmp}{s:PT}{want:Bool}{x:Option AV}{f:AV->Prop}{tk:Nat}(h:t=t') (_:nD=tk):gP t s want x f=gP t' s want x f:=by rw[h]
@[go_sem] theorem Zp (t:Tmp) (s:PT) (want:Bool) (x:Option AV) (f:AV->Prop):gP (some t) s want x f↔bG (pK (s.get t) want) x f:=Iff.rfl
def bGH(b:Bool) (h:H) (x:Option (AV × H)) (f:AV->H->Prop):Prop:=bO (if b=true then x else some (AV.undef,h)) λz=>f z.1 z.2
@[congr] theorem Wj {b b':Bool}{h:H}{x y:Option (AV × H)}{f:AV->H->Prop}{tk:Nat}(hb:b=b') (hx:b'=true->x=y) (_:nD=tk):bGH b h x f=bGH b' h y f:=by
 subst hb;cases b with
 |true=>rw[hx rfl]
 |false=>rfl
@[go_sem] theorem Yb (b:Bool) (h:H) (v:AV) (f:AV->H->Prop):bGH b h (some (v,h)) f↔f (ifV b v) h:=by cases b<;>rfl
@[go_sem] theorem Ya (h:H) (x:Option (AV × H)) (f:AV->H->Prop):bGH true h x f↔bO x λz=>f z.1 z.2:=Iff.rfl
@[go_sem] theorem Wi (h:H) (x:Option (AV × H)) (f:AV->H->Prop):bGH false h x f↔f AV.undef h:=Iff.rfl
def gPH(t:Option Tmp) (s:PT) (want:Bool) (h:H) (x:Option (AV × H)) (f:AV->H->Prop):Prop:=match t with
 |some t=>bGH (pK (s.get t) want) h x f
 |none=>f AV.undef h
@[congr] theorem WM {t t':Option Tmp}{s:PT}{want:Bool}{h:H}{x:Option (AV × H)}{f:AV->H->Prop}{tk:Nat}(hh:t=t') (_:nD=tk):gPH t s want h x f=gPH t' s want h x f:=by rw[hh]
@[go_sem] theorem X2 (t:Tmp) (s:PT) (want:Bool) (h:H) (x:Option (AV × H)) (f:AV->H->Prop):gPH (some t) s want h x f↔bGH (pK (s.get t) want) h x f:=Iff.rfl
def zx(b:Bool) (u v:AV):AV:=if b=true then u else v
@[go_sem] theorem Zk (b:Bool) (u v:AV):zx b u (ifV (nb b) v)=zx b u v:=by cases b<;>rfl
@[go_sem] theorem XF (b:Bool) (u v:AV):zx b (ifV b u) v=zx b u v:=by cases b<;>rfl
@[go_sem] theorem aAU (b q:Bool):zx b (.bool true) (.bool q)=.bool (b||q):=by cases b<;>rfl
@[go_sem] theorem aAV (b p:Bool):zx b (.bool p) (.bool false)=.bool (b&&p):=by cases b<;>cases p<;>rfl
@[go_sem] theorem WF (u v:AV):zx true u v=u:=(rfl)
@[go_sem] theorem UC (u v:AV):zx false u v=v:=(rfl)
def Gf(c u v:AV):Option AV:=match c with
 |.bool b=>some (zx b u v)
 |_=>none
@[go_sem] theorem WG (b:Bool) (u v:AV):Gf (.bool b) u v=some (zx b u v):=(rfl)
section
variable {C:Cfg}{cf:FuncId}{s:PT}{h:H}{K:PT->H->Prop}{d:Tmp}{ty:TypeId}{p:String}{af:Array Edge}{l:List Oper}
theorem PY{o:List Oper}{op:Op}{j:Nat}{want:Bool}{x:Option AV}(hv:∀v,opV C (Call C) cf s h ⟨some d,op,ty,p,af,none⟩=some (v,h)↔x=some v) (hn:∀v h',opV C (Call C) cf s h ⟨some d,op,ty,p,af,none⟩=some (v,h')->h'=h) :
  OW C cf o.toArray (⟨some d,op,ty,p,af,some (j,want)⟩::l) s h K↔gP (nM o j) s want x λv=>OW C cf o.toArray l (s.set d v) h K:=by
 rw[OWG];unfold gI gP;cases nM o j with
 |none=>exact Iff.rfl
 |some t=>
  dsimp only;unfold gV bG pK;by_cases a:xu (s.get t)=some want
  ·rw[if_pos a,if_pos (by simp[a]),tv,bO_iff];constructor
   ·rintro⟨v,h',e,k⟩;have:=hn v h' e;subst this;exact⟨v,(hv v).1 e,k⟩
   rintro⟨v,e,k⟩;exact⟨v,h,(hv v).2 e,k⟩
  rw[if_neg a,if_neg (by simpa using a)];exact Iff.rfl
theorem od{o:List Oper}{op:Op}{j:Nat}{want:Bool}{x:Option AV}(he:opN C.P s ⟨some d,op,ty,p,af,none⟩=x) (ha:dW ⟨some d,op,ty,p,af,none⟩=false) (hl:jS ⟨some d,op,ty,p,af,none⟩=false) :
  OW C cf o.toArray (⟨some d,op,ty,p,af,some (j,want)⟩::l) s h K↔gP (nM o j) s want x λv=>OW C cf o.toArray l (s.set d v) h K:=by
 refine PY (λv=>?_) (λv a e=>?_)
 ·rw[wF ha hl,he];cases x<;>simp
 rw[wF ha hl,he]at e;cases x with
 |none=>cases e
 |some y=>simp only[aA,aD]at e;exact e.2.symm
@[go_sem high] theorem aB2 (o:List Oper) (j:Nat) (want:Bool) (x:Operand):OW C cf o.toArray (⟨some d,.move x,ty,p,af,some (j,want)⟩::l) s h K↔gP (nM o j) s want (ev s x) λv=>OW C cf o.toArray l (s.set d v) h K:=od rfl rfl rfl
@[go_sem high] theorem aCK (o:List Oper) (j:Nat) (want:Bool) (op:BinOp) (t t2:TypeId) (x y:Operand):OW C cf o.toArray (⟨some d,.binOp op t x y t2,ty,p,af,some (j,want)⟩::l) s h K↔gP (nM o j) s want (bi2 (ev s x) (ev s y) (iN C.P op t x y)) λv=>OW C cf o.toArray l (s.set d v) h K:=
 od (by simp only[opN,bi2];cases ev s x<;>cases ev s y<;>rfl) rfl rfl
@[go_sem high] theorem aCX (o:List Oper) (j:Nat) (want:Bool) (op:UnOp) (t:TypeId) (x:Operand):OW C cf o.toArray (⟨some d,.unOp op t x,ty,p,af,some (j,want)⟩::l) s h K↔gP (nM o j) s want (bi1 (ev s x) (unV C.P op)) λv=>OW C cf o.toArray l (s.set d v) h K:=
 od (by simp only[opN,bi1];cases ev s x<;>rfl) rfl rfl
theorem zI{c x y:Operand}{cv u v:AV}(hc:ev s c=some cv) (hx:ev s x=some u) (hy:ev s y=some v):opN C.P s ⟨some d,.pick c x y,ty,p,af,none⟩=Gf cv u v:=by
 simp only[opN,hc,Gf,zx];cases cv with
 |bool b=>cases b<;>simp[hx,hy]
 |_=>rfl
@[go_sem high] theorem aCU (o:Array Oper) (c x:Tmp) (q:Bool):OW C cf o (⟨some d,.pick (.tmp c) (.tmp x) (.const (.bool q)),ty,p,af,none⟩::l) s h K↔bO (Gf (s.get c) (s.get x) (.bool q)) λv=>OW C cf o l (s.set d v) h K:=OWn (zI rfl rfl rfl) rfl rfl
@[go_sem high] theorem aCV (o:Array Oper) (c y:Tmp) (q:Bool):OW C cf o (⟨some d,.pick (.tmp c) (.const (.bool q)) (.tmp y),ty,p,af,none⟩::l) s h K↔bO (Gf (s.get c) (.bool q) (s.get y)) λv=>OW C cf o l (s.set d v) h K:=OWn (zI rfl rfl rfl) rfl rfl
@[go_sem high] theorem aCY (o:List Oper) (j:Nat) (want:Bool) (c x:Tmp) (q:Bool):OW C cf o.toArray (⟨some d,.pick (.tmp c) (.tmp x) (.const (.bool q)),ty,p,af,some (j,want)⟩::l) s h K↔gP (nM o j) s want (Gf (s.get c) (s.get x) (.bool q)) λv=>OW C cf o.toArray l (s.set d v) h K:=od (zI rfl rfl rfl) rfl rfl
@[go_sem high] theorem aCZ (o:List Oper) (j:Nat) (want:Bool) (c y:Tmp) (q:Bool):OW C cf o.toArray (⟨some d,.pick (.tmp c) (.const (.bool q)) (.tmp y),ty,p,af,some (j,want)⟩::l) s h K↔gP (nM o j) s want (Gf (s.get c) (.bool q) (s.get y)) λv=>OW C cf o.toArray l (s.set d v) h K:=od (zI rfl rfl rfl) rfl rfl
@[go_sem high] theorem Th (o:List Oper) (j:Nat) (want:Bool) (t:TypeId) (x i:Operand):OW C cf o.toArray (⟨some d,.indexAddr t x i,ty,p,af,some (j,want)⟩::l) s h K↔gP (nM o j) s want (bi2 (ev s x) (ev s i) (bH C.P t)) λv=>OW C cf o.toArray l (s.set d v) h K:=
 od (by simp only[opN,bi2];cases ev s x<;>cases ev s i<;>rfl) rfl rfl
@[go_sem high] theorem aAI (o:List Oper) (j:Nat) (want:Bool) (t:TypeId) (x i:Operand):OW C cf o.toArray (⟨some d,.index t x i,ty,p,af,some (j,want)⟩::l) s h K↔gP (nM o j) s want (bi2 (ev s x) (ev s i) (tR C.P t)) λv=>OW C cf o.toArray l (s.set d v) h K:=
 od (by simp only[opN,bi2];cases ev s x<;>cases ev s i<;>rfl) rfl rfl
@[go_sem high] theorem Ti (o:List Oper) (j:Nat) (want:Bool) (t:TypeId) (x:Operand) (f:Nat):OW C cf o.toArray (⟨some d,.fieldAddr t x f,ty,p,af,some (j,want)⟩::l) s h K↔gP (nM o j) s want (bi1 (ev s x) λa=>bF C.P t a f) λv=>OW C cf o.toArray l (s.set d v) h K:=
 od (by simp only[opN,bi1];cases ev s x<;>rfl) rfl rfl
@[go_sem high] theorem aCJ (o:List Oper) (j:Nat) (want:Bool) (t:TypeId) (x:Operand):OW C cf o.toArray (⟨some d,.call {callee:=.builtin .len,args:=#[x],argTypes:=#[t]},ty,p,af,some (j,want)⟩::l) s h K↔gP (nM o j) s want (bi1 (ev s x) (fB C.P t)) λv=>OW C cf o.toArray l (s.set d v) h K:=
 od (by simp only[opN,bi1];cases ev s x<;>rfl) rfl rfl
@[go_sem high] theorem aB3 (o:List Oper) (j:Nat) (want:Bool) (t:TypeId) (x:Operand):OW C cf o.toArray (⟨some d,.load t x,ty,p,af,some (j,want)⟩::l) s h K↔gP (nM o j) s want (bi1 (ev s x) (aW C.P h t)) λv=>OW C cf o.toArray l (s.set d v) h K:=by
 have e:opV C (Call C) cf s h ⟨some d,.load t x,ty,p,af,none⟩=(match bi1 (ev s x) (aW C.P h t)with|some v=>some (v,h)|none=>none):=by rw[AK rfl];cases ev s x<;>rfl
 refine PY (λv=>?_) (λv c a=>?_)
 ·rw[e];cases bi1 (ev s x) (aW C.P h t)<;>simp
 rw[e]at a;cases b:bi1 (ev s x) (aW C.P h t)with
 |none=>rw[b]at a;cases a
 |some y=>rw[b]at a;simp only[aA,aD]at a;exact a.2.symm
@[go_sem high] theorem aB4 (o:List Oper) (j:Nat) (want:Bool) (f:FuncId) (args:List Operand) (at_:Array TypeId) :
  OW C cf o.toArray (⟨some d,.call {callee:=.value (.func f),args:=args.toArray,argTypes:=at_},ty,p,af,some (j,want)⟩::l) s h K↔gPH (nM o j) s want h (bi1 (evs s args) λas=>ak C h (.func f []) (some as)) λv h'=>OW C cf o.toArray l (s.set d v) h' K:=by
 rw[OWG];unfold gI gPH;cases nM o j with
 |none=>exact Iff.rfl
 |some t=>
  dsimp only;unfold gV bGH pK;by_cases a:xu (s.get t)=some want
  ·rw[if_pos a,if_pos (by simp[a])];exact Vz f args at_
  rw[if_neg a,if_neg (by simpa using a)];exact Iff.rfl
@[go_sem 20000] theorem aBR (o:Array Oper) (x:Oper) (v:AV):OW C cf o (x::l) (jB s (some d) v) h K↔OW C cf o (x::l) (s.set d v) h K:=Iff.rfl
@[go_sem] theorem aCF (o:Array Oper) (args:List Operand) (at_:Array TypeId):OW C cf o (⟨some d,.call {callee:=.builtin .max,args:=args.toArray,argTypes:=at_},ty,p,af,none⟩::l) s h K↔bO (bi1 (evs s args) (rV C.P true)) λv=>OW C cf o l (s.set d v) h K:=
 OWn (by simp only[opN,bi1];cases evs s args<;>rfl) rfl rfl
end
end Go.V
