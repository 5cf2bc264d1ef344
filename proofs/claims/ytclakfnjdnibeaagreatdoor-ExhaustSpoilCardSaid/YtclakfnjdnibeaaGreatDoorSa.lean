/- A part of the proof. -/
import Derived.Test.YtclakfnjdnibeaaGreatDoorV23
import Derived.Test.YtclakfnjdnibeaaGreatDoorProg
import Derived.Test.YtclakfnjdnibeaaGreatDoorD0
import Derived.WalkKit
import Derived.ProofKit
namespace Go.VZ
open Go Go.V Go.Proofs Tryz TL
def md:FuncId->Go.V.Mode:=λf=>if f=64\/f=189\/f=30\/f=47\/f=247\/f=211\/f=142\/f=199\/f=254\/f=201\/f=250\/f=251\/f=158\/f=337\/f=310\/f=311\/f=353\/f=355\/f=390\/f=174\/f=200\/f=299 then .openH else if f=32 then .ownT else if f=202\/f=392\/f=137 then .ownM else if f=391\/f=171 then .openF else .strip
def wrt:FuncId->Tmp->Bool:=λf t=>decide (f=202)||decide (f=254)||decide (f=303)||decide (f=337)||decide (f=310)||decide (f=355)||decide (f=392)||decide (f=137)||decide (f=91)||decide (f=200)||(decide (f=21)&&decide (t=31))||(decide (f=64)&&decide (t=45))||(decide (f=17)&&(decide (t=5)||decide (t=70)))
def X7:List Value->Option Value
 |[.string a,.string b]=>some (.int .i64 (Lib.compareBytes a.data.toList b.data.toList))
 |_=>none
def ext:FuncId->Array Value->Option Value:=λf vs=>if f=300 then X7 vs.toList else none
theorem qT(f:FuncId) (vs:Array Value) (v:Value) (w:World) (h:ext f vs=some v):(callFunc f vs).run prog w=.ok (.value v) w:=by
 have⟨l⟩:=vs;unfold ext at h;split at h
 ·rename_i e;subst e;simp only at h;unfold X7 at h;split at h<;>try(cases h;done)
  rename_i a b;simp only[aA]at h;subst h;rw[run_callFunc_extern func300 k_ k_ k_ (e:=Extern.BytealgCompare.compare) k_];rw[show(⟨[.string a,.string b]⟩:Array Value) = #[.string a,.string b]from rfl,Lib.run_compareString];rfl
 cases h
def aAk:List (Nat × Nat):=[(91,1),(200,2),(16,5),(64,23),(254,1),(38,3),(296,3),(322,4),(322,9),(322,10),(322,12),(322,14),(322,15),(323,6),(323,17),(310,1),(355,1)]
def cloneIds:List Nat:=[392,32,11,137,31]
def mD:FuncId->LA->H->Option (AV × H):=λf args h=>if cloneIds.contains f then(match args with|[.isl [] _]=>some (.isl [] .full,h)|_=>none)else none
mutual
def enc:T->AV
 |.mk k n s l=>.agg [.int .i64 k,.str n,.int .i64 s,.isl (Ag l) .unk]
def Ag:Lq->LA
 |[]=>[]
 |t::l=>enc t::Ag l
end
open Classical in
noncomputable def sy(args:LA) (h:H):Option (AV × H):=match args with
 |[.isl [] _,.func 144 []]=>some (.tuple [],h)
 |[.msl id 0 4 n none,.func 144 []]=>if e:∃l:Lq,n=l.length/\l.length<1000000000/\(∀t∈l,t.size<4000000)/\h[id]?=some (.cells (l.flatMap λt=>(enc t).cells) .live)then some (.tuple [],h.set id (.cells ((srt e.choose).flatMap λt=>(enc t).cells) .live))else none
 |_=>none
def xH(l:Lb):Lb:=l.mergeSort λx y=>!decide (y.1.cmp x.1<0)
def ke(l:Lb):LA:=l.flatMap λb=>(enc b.1).cells++(enc b.2).cells
open Classical in
noncomputable def xK(args:LA) (h:H):Option (AV × H):=match args with
 |[.isl [] _,.func 356 []]=>some (.tuple [],h)
 |[.msl id 0 8 n none,.func 356 []]=>if e:∃l:Lb,n=l.length/\l.length<1000000000/\(∀b∈l,b.1.size<4000000/\b.2.size<4000000)/\l.Pairwise (λa b=>a.1≠b.1)/\h[id]?=some (.cells (ke l) .live)then some (.tuple [],h.set id (.cells (ke (xH e.choose)) .live))else none
 |_=>none
def gp:List Int->List Int->Int
 |[],[]=>0
 |[],_::_=>-1
 |_::_,[]=>1
 |a::l,b::m=>if a<b then -1 else if b<a then 1 else gp l m
def iq(l:List (List Int × LA × LA)):LA:=l.flatMap λb=>[.isl (b.1.map (AV.int .i64)) .unk,.isl b.2.1 .unk,.isl b.2.2 .unk]
def qf(l:List (List Int × LA × LA)):List (List Int × LA × LA):=l.mergeSort λx y=>!decide (gp y.1 x.1<0)
open Classical in
noncomputable def vM(args:LA) (h:H):Option (AV × H):=match args with
 |[.isl [] _,.func 48 []]=>some (.tuple [],h)
 |[.msl id 0 3 n none,.func 48 []]=>if e:∃l:List (List Int × LA × LA),n=l.length/\l.length<1000000000/\(∀b∈l,b.1.length<100000000)/\l.Pairwise (λa b=>a.1≠b.1)/\h[id]?=some (.cells (iq l) .live)then some (.tuple [],h.set id (.cells (iq (qf e.choose)) .live))else none
 |_=>none
def VS(n:Nat):List UInt8:=if n<10 then [UInt8.ofNat (48+n)]else if n<100 then [UInt8.ofNat (48+n/10),UInt8.ofNat (48+n%10)]else [UInt8.ofNat (48+n/100),UInt8.ofNat (48+n/10%10),UInt8.ofNat (48+n%10)]
def AE(args:LA) (h:H):Option (AV × H):=match args with
 |[.int .i64 n]=>if 0<=n/\n<1000 then some (.str ⟨(VS n.toNat).toArray⟩,h)else none
 |_=>none
noncomputable def prim:FuncId->LA->H->Option (AV × H):=λf args h=>if f=6 then(match args with|[]=>some (.bool true,h)|_=>none)else if f=250 then sy args h else if f=158 then xK args h else if f=47 then vM args h else if f=204 then AE args h else mD f args h
noncomputable def C:Cfg:={P:=prog,mode:=md,wr:=wrt,prim:=prim,ext:=ext,extOk:=qT,mix:=λf i=>decide ((f,i)∈aAk),cut:=λf i=>if(f,i)=(64,23)then some 16 else none}
@[go_sem] theorem wrC (f:FuncId) (t:Tmp):C.wr f t=(decide (f=202)||decide (f=254)||decide (f=303)||decide (f=337)||decide (f=310)||decide (f=355)||decide (f=392)||decide (f=137)||decide (f=91)||decide (f=200)||(decide (f=21)&&decide (t=31))||(decide (f=64)&&decide (t=45))||(decide (f=17)&&(decide (t=5)||decide (t=70)))):=(rfl)
@[go_sem] theorem gM (f:FuncId) (i:Nat):C.mix f i=decide ((f,i)∈[(91,1),(200,2),(16,5),(64,23),(254,1),(38,3),(296,3),(322,4),(322,9),(322,10),(322,12),(322,14),(322,15),(323,6),(323,17),(310,1),(355,1)]):=(rfl)
theorem u23:C.P.underlying 37=some (.slice 39):=underlying37
theorem s3:cr C.P 3=some 1:=k_
theorem s9:cr C.P 9=some 1:=k_
theorem s23:cr C.P 37=some 1:=k_
theorem s25:cr C.P 39=some 4:=k_
theorem a3:fJ C.P 3=some false:=k_
theorem a9:fJ C.P 9=some false:=k_
theorem a23:fJ C.P 37=some false:=k_
theorem a25:fJ C.P 39=some true:=k_
attribute [go_sem] u23 s3 s9 s23 s25 a3 a9 a23 a25
theorem lN:∀l,Ag l=l.map enc
 |[]=>rfl
 |t::l=>by rw[Ag,lN l];rfl
def aM(l:Lq):AV:=.isl (l.map enc) .unk
theorem bE(t:T):enc t=.agg [.int .i64 t.kind,.str t.name,.int .i64 t.sort,aM t.kids]:=by cases t;rw[enc,lN];rfl
theorem au(t:T):(enc t).cells=[.int .i64 t.kind,.str t.name,.int .i64 t.sort,aM t.kids]:=by rw[bE];rfl
@[go_sem] theorem aV (l:LA):(AV.agg l).cells=l:=rfl
theorem dX(es:LA) (x:Ext):fB C.P 37 (.isl es x)=some (.int .i64 es.length):=by simp[fB,u23]
theorem kM(l:Lq) (k:Nat) (hk:k<l.length) (x:Ext):bH C.P 37 (.isl (l.map enc) x) (.int .i64 k)=some (.iptr (enc l[k]) 0):=by simp[bH,u23,s25,au,hk]
theorem gd(t:T) (h:H):aW C.P h 39 (.iptr (enc t) 0)=some (enc t):=by simp[aW,aZ,a25,s25,au];rw[bE]
end Go.VZ
namespace Go.VZ
open Go Go.V Go.Proofs Tryz Go.RowKit
def Qc(P:Program):Bool:=P.funcs.all λfn=>!(fn.name == "runtime.NumGoroutine")
theorem good:Go.V.Good C.P where
 names:=λf a b=>by have h:Qc prog=true:=k_;have:=eY.1 h a (mw b);simpa using this
 mixed:=k_
theorem uh(t e d:Nat) (w:World) (hu:prog.underlying t=some (.slice e)):(Op.equalIn (d+1) t (.slice none 0 0) (.slice none 0 0)).run prog w=.ok true w:=by simp only[Op.equalIn,Sem.run_bind,bd hu,Result.andThen_ok];rfl
theorem qB(t e:Nat) (w:World) (hu:prog.underlying t=some (.slice e)):(binOp .eql t (.slice none 0 0) (.slice none 0 0)).run prog w=.ok (.bool true) w:=by have:Op.equal t (.slice none 0 0) (.slice none 0 0)=Op.equalIn (9999+1) t (.slice none 0 0) (.slice none 0 0):=rfl;simp only[binOp,this,Sem.run_bind,Sem.run_pure,Result.andThen_ok,uh t e 9999 w hu]
theorem qA(t e:Nat) (w:World) (a:Addr) (c:Nat) (hu:prog.underlying t=some (.slice e)):(binOp .eql t (.slice (some a) 0 c) (.slice none 0 0)).run prog w=.ok (.bool false) w:=by have:Op.equal t (.slice (some a) 0 c) (.slice none 0 0)=Op.equalIn (9999+1) t (.slice (some a) 0 c) (.slice none 0 0):=rfl;simp only[binOp,this,Sem.run_bind,Sem.run_pure,Result.andThen_ok,kF 9999 a 0 c hu]
def pW(f:FuncId):Prop:=(∀w,Calls prog f #[.slice none 0 0] w λe w'=>e=.returned (.slice none 0 0)/\Grows w w') /\
 ∀(a:Addr) (c:Nat) (w:World),Calls prog f #[.slice (some a) 0 c] w λe w'=>(∃b,e=.returned (.slice (some b) 0 0))/\Grows w w'
section
@[local go_sem] theorem YF (w:World):(binOp .eql 22 (.slice none 0 0) (.slice none 0 0)).run prog w=.ok (.bool true) w:=qB _ _ w underlying22
@[local go_sem] theorem YC (w:World) (a:Addr) (c:Nat):(binOp .eql 22 (.slice (some a) 0 c) (.slice none 0 0)).run prog w=.ok (.bool false) w:=qA _ _ w a c underlying22
theorem Of:pW 11:=by
 constructor
 ·intro w
  go_enter func11,ntmps11
  go_wp2
  go_ret
  exact⟨rfl,.refl _⟩
 intro a c w
 go_enter func11,ntmps11
 go_wp2
 go_ret
 exact⟨⟨_,rfl⟩,.alloc _ _⟩
end
section
@[local go_sem] theorem YE (w:World):(binOp .eql 29 (.slice none 0 0) (.slice none 0 0)).run prog w=.ok (.bool true) w:=qB _ _ w underlying29
@[local go_sem] theorem YB (w:World) (a:Addr) (c:Nat):(binOp .eql 29 (.slice (some a) 0 c) (.slice none 0 0)).run prog w=.ok (.bool false) w:=qA _ _ w a c underlying29
theorem Oe:pW 31:=by
 constructor
 ·intro w
  go_enter func31,ntmps31
  go_wp2
  go_ret
  exact⟨rfl,.refl _⟩
 intro a c w
 go_enter func31,ntmps31
 go_wp2
 go_ret
 exact⟨⟨_,rfl⟩,.alloc _ _⟩
end
section
@[local go_sem] theorem YD (w:World):(binOp .eql 53 (.slice none 0 0) (.slice none 0 0)).run prog w=.ok (.bool true) w:=qB _ _ w underlying53
@[local go_sem] theorem YA (w:World) (a:Addr) (c:Nat):(binOp .eql 53 (.slice (some a) 0 c) (.slice none 0 0)).run prog w=.ok (.bool false) w:=qA _ _ w a c underlying53
theorem Od:pW 32:=by
 constructor
 ·intro w
  go_enter func32,ntmps32
  go_wp2
  go_ret
  exact⟨rfl,.refl _⟩
 intro a c w
 go_enter func32,ntmps32
 go_wp2
 go_ret
 exact⟨⟨_,rfl⟩,.alloc _ _⟩
end
section
@[local go_sem] theorem WZ (w:World):(binOp .eql 37 (.slice none 0 0) (.slice none 0 0)).run prog w=.ok (.bool true) w:=qB _ _ w underlying37
@[local go_sem] theorem WU (w:World) (a:Addr) (c:Nat):(binOp .eql 37 (.slice (some a) 0 c) (.slice none 0 0)).run prog w=.ok (.bool false) w:=qA _ _ w a c underlying37
theorem LX:pW 137:=by
 constructor
 ·intro w
  go_enter func137,ntmps137
  go_wp2
  go_ret
  exact⟨rfl,.refl _⟩
 intro a c w
 go_enter func137,ntmps137
 go_wp2
 go_ret
 exact⟨⟨_,rfl⟩,.alloc _ _⟩
end
section
@[local go_sem] theorem WY (w:World):(binOp .eql 244 (.slice none 0 0) (.slice none 0 0)).run prog w=.ok (.bool true) w:=qB _ _ w underlying244
@[local go_sem] theorem WT (w:World) (a:Addr) (c:Nat):(binOp .eql 244 (.slice (some a) 0 c) (.slice none 0 0)).run prog w=.ok (.bool false) w:=qA _ _ w a c underlying244
theorem LW:pW 349:=by
 constructor
 ·intro w
  go_enter func349,ntmps349
  go_wp2
  go_ret
  exact⟨rfl,.refl _⟩
 intro a c w
 go_enter func349,ntmps349
 go_wp2
 go_ret
 exact⟨⟨_,rfl⟩,.alloc _ _⟩
end
section
@[local go_sem] theorem WX (w:World):(binOp .eql 255 (.slice none 0 0) (.slice none 0 0)).run prog w=.ok (.bool true) w:=qB _ _ w underlying255
@[local go_sem] theorem WS (w:World) (a:Addr) (c:Nat):(binOp .eql 255 (.slice (some a) 0 c) (.slice none 0 0)).run prog w=.ok (.bool false) w:=qA _ _ w a c underlying255
theorem LV:pW 392:=by
 constructor
 ·intro w
  go_enter func392,ntmps392
  go_wp2
  go_ret
  exact⟨rfl,.refl _⟩
 intro a c w
 go_enter func392,ntmps392
 go_wp2
 go_ret
 exact⟨⟨_,rfl⟩,.alloc _ _⟩
end
section
@[local go_sem] theorem WW (w:World):(binOp .eql 229 (.slice none 0 0) (.slice none 0 0)).run prog w=.ok (.bool true) w:=qB _ _ w underlying229
@[local go_sem] theorem WR (w:World) (a:Addr) (c:Nat):(binOp .eql 229 (.slice (some a) 0 c) (.slice none 0 0)).run prog w=.ok (.bool false) w:=qA _ _ w a c underlying229
theorem LU:pW 448:=by
 constructor
 ·intro w
  go_enter func448,ntmps448
  go_wp2
  go_ret
  exact⟨rfl,.refl _⟩
 intro a c w
 go_enter func448,ntmps448
 go_wp2
 go_ret
 exact⟨⟨_,rfl⟩,.alloc _ _⟩
end
section
@[local go_sem] theorem WV (w:World):(binOp .eql 277 (.slice none 0 0) (.slice none 0 0)).run prog w=.ok (.bool true) w:=qB _ _ w underlying277
@[local go_sem] theorem WQ (w:World) (a:Addr) (c:Nat):(binOp .eql 277 (.slice (some a) 0 c) (.slice none 0 0)).run prog w=.ok (.bool false) w:=qA _ _ w a c underlying277
theorem LS:pW 473:=by
 constructor
 ·intro w
  go_enter func473,ntmps473
  go_wp2
  go_ret
  exact⟨rfl,.refl _⟩
 intro a c w
 go_enter func473,ntmps473
 go_wp2
 go_ret
 exact⟨⟨_,rfl⟩,.alloc _ _⟩
end
def cloneAll:List Nat:=[11,31,32,137,349,392,448,473]
theorem Og(f:FuncId) (hf:cloneAll.contains f=true):pW f:=by
 simp only[cloneAll,pZ,bo,beq_iff_eq,List.contains_nil,aw,or_false]at hf;rcases hf with rfl|rfl|rfl|rfl|rfl|rfl|rfl|rfl
 ·exact Of
 ·exact Oe
 ·exact Od
 ·exact LX
 ·exact LW
 ·exact LV
 ·exact LU
 exact LS
theorem Rs(f:FuncId) (hf:cloneIds.contains f=true):pW f:=Og f (by
 simp only[cloneIds,pZ,bo,beq_iff_eq,List.contains_nil,aw,or_false]at hf;rcases hf with rfl|rfl|rfl|rfl|rfl<;>rfl)
def rM:FuncId->LA->H->Option (AV × H):=λf args h=>if cloneAll.contains f then(match args with|[.isl [] _]=>some (.isl [] .full,h)|_=>none)else none
theorem FO{f:FuncId}(hf:pW f){args:LA}{h h':H}{r:AV}(hp:(match args with|[.isl [] _]=>some (AV.isl [] .full,h)|_=>none)=some (r,h')) :
  ∀(B:Nat) (A0:Nat->Nat->Prop) (σ:List (Option Nat)) (w:World) (vs:Array Value),HRel prog B A0 σ h w->vs.size=args.length->(∀(i:Nat) a v,args[i]?=some a->vs[i]?=some v->Rel prog (Alw prog B A0 σ h) σ h w a v) ->
   Calls prog f vs w (λe w'=>∃v,e=.returned v/\Go.V.er prog B A0 σ h w r h' v w'):=by
 intro B A0 σ w vs g l m;have⟨n,k⟩:=hf;split at hp<;>try(cases hp;done)
 rename_i x;simp only[aA,aD]at hp;obtain⟨rfl,rfl⟩:=hp;obtain⟨v,rfl⟩:∃v,vs = #[v]:=by have:vs.size=1:=l;exact⟨vs[0],by apply Array.ext<;>simp[this];intro i o;subst o;rfl⟩
 have p:=mT (m 0 _ v rfl rfl);cases p with
 |islNil=>exact(n w).mono λe w' ⟨j,d⟩=>⟨_,j,σ,g.grows d,.grows g d,.full .islNil⟩
 |islEmpty a c q=>exact(k a c w).mono λe w' ⟨⟨b,j⟩,d⟩=>⟨_,j,σ,g.grows d,.grows g d,.full (.islEmpty b 0 (by simp[maxLen]))⟩
 |isl f s t q u y z A=>exact(k _ _ w).mono λe w' ⟨⟨b,j⟩,d⟩=>⟨_,j,σ,g.grows d,.grows g d,.full (.islEmpty b 0 (by simp[maxLen]))⟩
theorem Cs(f:FuncId):sN prog f (mD f):=by
 intro b h r d a;unfold mD at a;split at a<;>try(cases a;done)
 rename_i c;exact FO (Rs f c) a
theorem yk(f:FuncId):sN prog f (rM f):=by
 intro b h r d a;unfold rM at a;split at a<;>try(cases a;done)
 rename_i c;exact FO (Og f c) a
end Go.VZ
