/- A part of the proof. -/
import Derived.Test.YtclakfnjdnibeaaGreatDoorV23
import Derived.Test.YtclakfnjdnibeaaGreatDoorProg
import Derived.Test.YtclakfnjdnibeaaGreatDoorD0
import Derived.WalkKit
import Derived.ProofKit
namespace Go.VZ
open Go Go.V Go.Proofs Tryz TL
def md:FuncId->Go.V.Mode:=λf=>if f=64\/f=189\/f=30\/f=47\/f=247\/f=211\/f=142\/f=199\/f=254\/f=201\/f=250\/f=251\/f=158\/f=337\/f=310\/f=311\/f=353\/f=355\/f=390\/f=174 then .openH else if f=32 then .ownT else if f=202\/f=392 then .ownM else if f=391\/f=171 then .openF else .strip
def wrt:FuncId->Tmp->Bool:=λf t=>decide (f=202)||decide (f=254)||decide (f=303)||decide (f=337)||decide (f=310)||decide (f=355)||decide (f=392)||(decide (f=64)&&decide (t=45))||(decide (f=17)&&(decide (t=5)||decide (t=70)))
def Ur:List Value->Option Value
 |[.string a,.string b]=>some (.int .i64 (Lib.compareBytes a.data.toList b.data.toList))
 |_=>none
def ext:FuncId->Array Value->Option Value:=λf vs=>if f=300 then Ur vs.toList else none
theorem pi(f:FuncId) (vs:Array Value) (v:Value) (w:World) (h:ext f vs=some v):(callFunc f vs).run prog w=.ok (.value v) w:=by
 have⟨l⟩:=vs;unfold ext at h;split at h
 ·rename_i e;subst e;simp only at h;unfold Ur at h;split at h<;>try(cases h;done)
  rename_i a b;simp only[aA]at h;subst h;rw[run_callFunc_extern func300 k_ k_ k_ (e:=Extern.BytealgCompare.compare) k_];rw[show(⟨[.string a,.string b]⟩:Array Value) = #[.string a,.string b]from rfl,Lib.run_compareString];rfl
 cases h
def XN:List (Nat × Nat):=[(16,5),(64,23),(254,1),(38,3),(296,3),(322,4),(322,9),(322,10),(322,12),(322,14),(322,15),(323,6),(323,17),(310,1),(355,1)]
def cloneIds:List Nat:=[392,32]
def qB:FuncId->LA->H->Option (AV × H):=λf args h=>if cloneIds.contains f then(match args with|[.isl [] _]=>some (.isl [] .full,h)|_=>none)else none
mutual
def enc:T->AV
 |.mk k n s l=>.agg [.int .i64 k,.str n,.int .i64 s,.isl (yz l) .unk]
def yz:Lq->LA
 |[]=>[]
 |t::l=>enc t::yz l
end
open Classical in
noncomputable def yO(args:LA) (h:H):Option (AV × H):=match args with
 |[.isl [] _,.func 144 []]=>some (.tuple [],h)
 |[.msl id 0 4 n none,.func 144 []]=>if e:∃l:Lq,n=l.length/\l.length<1000000000/\(∀t∈l,t.size<4000000)/\h[id]?=some (.cells (l.flatMap λt=>(enc t).cells) .live)then some (.tuple [],h.set id (.cells ((srt e.choose).flatMap λt=>(enc t).cells) .live))else none
 |_=>none
def vj(l:Lb):Lb:=l.mergeSort λx y=>!decide (y.1.cmp x.1<0)
def jw(l:Lb):LA:=l.flatMap λb=>(enc b.1).cells++(enc b.2).cells
open Classical in
noncomputable def vl(args:LA) (h:H):Option (AV × H):=match args with
 |[.isl [] _,.func 356 []]=>some (.tuple [],h)
 |[.msl id 0 8 n none,.func 356 []]=>if e:∃l:Lb,n=l.length/\l.length<1000000000/\(∀b∈l,b.1.size<4000000/\b.2.size<4000000)/\l.Pairwise (λa b=>a.1≠b.1)/\h[id]?=some (.cells (jw l) .live)then some (.tuple [],h.set id (.cells (jw (vj e.choose)) .live))else none
 |_=>none
def gL:List Int->List Int->Int
 |[],[]=>0
 |[],_::_=>-1
 |_::_,[]=>1
 |a::l,b::m=>if a<b then -1 else if b<a then 1 else gL l m
def eO(l:List (List Int × LA × LA)):LA:=l.flatMap λb=>[.isl (b.1.map (AV.int .i64)) .unk,.isl b.2.1 .unk,.isl b.2.2 .unk]
def nS(l:List (List Int × LA × LA)):List (List Int × LA × LA):=l.mergeSort λx y=>!decide (gL y.1 x.1<0)
open Classical in
noncomputable def mQ(args:LA) (h:H):Option (AV × H):=match args with
 |[.isl [] _,.func 48 []]=>some (.tuple [],h)
 |[.msl id 0 3 n none,.func 48 []]=>if e:∃l:List (List Int × LA × LA),n=l.length/\l.length<1000000000/\(∀b∈l,b.1.length<100000000)/\l.Pairwise (λa b=>a.1≠b.1)/\h[id]?=some (.cells (eO l) .live)then some (.tuple [],h.set id (.cells (eO (nS e.choose)) .live))else none
 |_=>none
def SK(n:Nat):List UInt8:=if n<10 then [UInt8.ofNat (48+n)]else if n<100 then [UInt8.ofNat (48+n/10),UInt8.ofNat (48+n%10)]else [UInt8.ofNat (48+n/100),UInt8.ofNat (48+n/10%10),UInt8.ofNat (48+n%10)]
def yP(args:LA) (h:H):Option (AV × H):=match args with
 |[.int .i64 n]=>if 0<=n/\n<1000 then some (.str ⟨(SK n.toNat).toArray⟩,h)else none
 |_=>none
noncomputable def prim:FuncId->LA->H->Option (AV × H):=λf args h=>if f=6 then(match args with|[]=>some (.bool true,h)|_=>none)else if f=250 then yO args h else if f=158 then vl args h else if f=47 then mQ args h else if f=204 then yP args h else qB f args h
noncomputable def C:Cfg:={P:=prog,mode:=md,wr:=wrt,prim:=prim,ext:=ext,extOk:=pi,mix:=λf i=>decide ((f,i)∈XN),cut:=λf i=>if(f,i)=(64,23)then some 16 else none}
@[go_sem] theorem wrC (f:FuncId) (t:Tmp):C.wr f t=(decide (f=202)||decide (f=254)||decide (f=303)||decide (f=337)||decide (f=310)||decide (f=355)||decide (f=392)||(decide (f=64)&&decide (t=45))||(decide (f=17)&&(decide (t=5)||decide (t=70)))):=(rfl)
@[go_sem] theorem fu (f:FuncId) (i:Nat):C.mix f i=decide ((f,i)∈[(16,5),(64,23),(254,1),(38,3),(296,3),(322,4),(322,9),(322,10),(322,12),(322,14),(322,15),(323,6),(323,17),(310,1),(355,1)]):=(rfl)
theorem u23:C.P.underlying 37=some (.slice 39):=underlying37
theorem s3:cS C.P 3=some 1:=k_
theorem s9:cS C.P 9=some 1:=k_
theorem s23:cS C.P 37=some 1:=k_
theorem s25:cS C.P 39=some 4:=k_
theorem a3:eW C.P 3=some false:=k_
theorem a9:eW C.P 9=some false:=k_
theorem a23:eW C.P 37=some false:=k_
theorem a25:eW C.P 39=some true:=k_
attribute [go_sem] u23 s3 s9 s23 s25 a3 a9 a23 a25
theorem kT:∀l,yz l=l.map enc
 |[]=>rfl
 |t::l=>by rw[yz,kT l];rfl
def aQ(l:Lq):AV:=.isl (l.map enc) .unk
theorem bJ(t:T):enc t=.agg [.int .i64 t.kind,.str t.name,.int .i64 t.sort,aQ t.kids]:=by cases t;rw[enc,kT];rfl
theorem bB(t:T):(enc t).cells=[.int .i64 t.kind,.str t.name,.int .i64 t.sort,aQ t.kids]:=by rw[bJ];rfl
@[go_sem] theorem aa (l:LA):(AV.agg l).cells=l:=rfl
theorem dq(es:LA) (x:Ext):fW C.P 37 (.isl es x)=some (.int .i64 es.length):=by simp[fW,u23]
theorem lE(l:Lq) (k:Nat) (hk:k<l.length) (x:Ext):bP C.P 37 (.isl (l.map enc) x) (.int .i64 k)=some (.iptr (enc l[k]) 0):=by simp[bP,u23,s25,bB,hk]
theorem iT(t:T) (h:H):aX C.P h 39 (.iptr (enc t) 0)=some (enc t):=by simp[aX,ae,a25,s25,bB];rw[bJ]
end Go.VZ
namespace Go.VZ
open Go Go.V Go.Proofs Tryz Go.RowKit
def Nk(P:Program):Bool:=P.funcs.all λfn=>!(fn.name == "runtime.NumGoroutine")
theorem good:Go.V.Good C.P where
 names:=λf a b=>by have h:Nk prog=true:=k_;have:=eD.1 h a (mI b);simpa using this
 mixed:=k_
theorem tO(t e d:Nat) (w:World) (hu:prog.underlying t=some (.slice e)):(Op.equalIn (d+1) t (.slice none 0 0) (.slice none 0 0)).run prog w=.ok true w:=by simp only[Op.equalIn,Sem.run_bind,bT hu,Result.andThen_ok];rfl
theorem pM(t e:Nat) (w:World) (hu:prog.underlying t=some (.slice e)):(binOp .eql t (.slice none 0 0) (.slice none 0 0)).run prog w=.ok (.bool true) w:=by have:Op.equal t (.slice none 0 0) (.slice none 0 0)=Op.equalIn (9999+1) t (.slice none 0 0) (.slice none 0 0):=rfl;simp only[binOp,this,Sem.run_bind,Sem.run_pure,Result.andThen_ok,tO t e 9999 w hu]
theorem pL(t e:Nat) (w:World) (a:Addr) (c:Nat) (hu:prog.underlying t=some (.slice e)):(binOp .eql t (.slice (some a) 0 c) (.slice none 0 0)).run prog w=.ok (.bool false) w:=by have:Op.equal t (.slice (some a) 0 c) (.slice none 0 0)=Op.equalIn (9999+1) t (.slice (some a) 0 c) (.slice none 0 0):=rfl;simp only[binOp,this,Sem.run_bind,Sem.run_pure,Result.andThen_ok,jd 9999 a 0 c hu]
def od(f:FuncId):Prop:=(∀w,Calls prog f #[.slice none 0 0] w λe w'=>e=.returned (.slice none 0 0)/\Grows w w') /\
 ∀(a:Addr) (c:Nat) (w:World),Calls prog f #[.slice (some a) 0 c] w λe w'=>(∃b,e=.returned (.slice (some b) 0 0))/\Grows w w'
section
@[local go_sem] theorem Uz (w:World):(binOp .eql 22 (.slice none 0 0) (.slice none 0 0)).run prog w=.ok (.bool true) w:=pM _ _ w underlying22
@[local go_sem] theorem Uw (w:World) (a:Addr) (c:Nat):(binOp .eql 22 (.slice (some a) 0 c) (.slice none 0 0)).run prog w=.ok (.bool false) w:=pL _ _ w a c underlying22
theorem L5:od 11:=by
 constructor
 ·intro w
  go_enter func11,ntmps11
  go_wp2
  go_ret
  exact⟨rfl,.refl _⟩
 intro a c w
 go_enter func11,ntmps11
 go_wp2
 go_ret
 exact⟨⟨_,rfl⟩,.alloc _ _⟩
end
section
@[local go_sem] theorem Uy (w:World):(binOp .eql 29 (.slice none 0 0) (.slice none 0 0)).run prog w=.ok (.bool true) w:=pM _ _ w underlying29
@[local go_sem] theorem Uv (w:World) (a:Addr) (c:Nat):(binOp .eql 29 (.slice (some a) 0 c) (.slice none 0 0)).run prog w=.ok (.bool false) w:=pL _ _ w a c underlying29
theorem L4:od 31:=by
 constructor
 ·intro w
  go_enter func31,ntmps31
  go_wp2
  go_ret
  exact⟨rfl,.refl _⟩
 intro a c w
 go_enter func31,ntmps31
 go_wp2
 go_ret
 exact⟨⟨_,rfl⟩,.alloc _ _⟩
end
section
@[local go_sem] theorem Ux (w:World):(binOp .eql 53 (.slice none 0 0) (.slice none 0 0)).run prog w=.ok (.bool true) w:=pM _ _ w underlying53
@[local go_sem] theorem Uu (w:World) (a:Addr) (c:Nat):(binOp .eql 53 (.slice (some a) 0 c) (.slice none 0 0)).run prog w=.ok (.bool false) w:=pL _ _ w a c underlying53
theorem L3:od 32:=by
 constructor
 ·intro w
  go_enter func32,ntmps32
  go_wp2
  go_ret
  exact⟨rfl,.refl _⟩
 intro a c w
 go_enter func32,ntmps32
 go_wp2
 go_ret
 exact⟨⟨_,rfl⟩,.alloc _ _⟩
end
section
@[local go_sem] theorem TO (w:World):(binOp .eql 37 (.slice none 0 0) (.slice none 0 0)).run prog w=.ok (.bool true) w:=pM _ _ w underlying37
@[local go_sem] theorem TI (w:World) (a:Addr) (c:Nat):(binOp .eql 37 (.slice (some a) 0 c) (.slice none 0 0)).run prog w=.ok (.bool false) w:=pL _ _ w a c underlying37
theorem JO:od 137:=by
 constructor
 ·intro w
  go_enter func137,ntmps137
  go_wp2
  go_ret
  exact⟨rfl,.refl _⟩
 intro a c w
 go_enter func137,ntmps137
 go_wp2
 go_ret
 exact⟨⟨_,rfl⟩,.alloc _ _⟩
end
section
@[local go_sem] theorem TN (w:World):(binOp .eql 244 (.slice none 0 0) (.slice none 0 0)).run prog w=.ok (.bool true) w:=pM _ _ w underlying244
@[local go_sem] theorem TH (w:World) (a:Addr) (c:Nat):(binOp .eql 244 (.slice (some a) 0 c) (.slice none 0 0)).run prog w=.ok (.bool false) w:=pL _ _ w a c underlying244
theorem JN:od 349:=by
 constructor
 ·intro w
  go_enter func349,ntmps349
  go_wp2
  go_ret
  exact⟨rfl,.refl _⟩
 intro a c w
 go_enter func349,ntmps349
 go_wp2
 go_ret
 exact⟨⟨_,rfl⟩,.alloc _ _⟩
end
section
@[local go_sem] theorem TM (w:World):(binOp .eql 255 (.slice none 0 0) (.slice none 0 0)).run prog w=.ok (.bool true) w:=pM _ _ w underlying255
@[local go_sem] theorem TG (w:World) (a:Addr) (c:Nat):(binOp .eql 255 (.slice (some a) 0 c) (.slice none 0 0)).run prog w=.ok (.bool false) w:=pL _ _ w a c underlying255
theorem JM:od 392:=by
 constructor
 ·intro w
  go_enter func392,ntmps392
  go_wp2
  go_ret
  exact⟨rfl,.refl _⟩
 intro a c w
 go_enter func392,ntmps392
 go_wp2
 go_ret
 exact⟨⟨_,rfl⟩,.alloc _ _⟩
end
section
@[local go_sem] theorem TK (w:World):(binOp .eql 229 (.slice none 0 0) (.slice none 0 0)).run prog w=.ok (.bool true) w:=pM _ _ w underlying229
@[local go_sem] theorem TE (w:World) (a:Addr) (c:Nat):(binOp .eql 229 (.slice (some a) 0 c) (.slice none 0 0)).run prog w=.ok (.bool false) w:=pL _ _ w a c underlying229
theorem JL:od 448:=by
 constructor
 ·intro w
  go_enter func448,ntmps448
  go_wp2
  go_ret
  exact⟨rfl,.refl _⟩
 intro a c w
 go_enter func448,ntmps448
 go_wp2
 go_ret
 exact⟨⟨_,rfl⟩,.alloc _ _⟩
end
section
@[local go_sem] theorem TJ (w:World):(binOp .eql 277 (.slice none 0 0) (.slice none 0 0)).run prog w=.ok (.bool true) w:=pM _ _ w underlying277
@[local go_sem] theorem TD (w:World) (a:Addr) (c:Nat):(binOp .eql 277 (.slice (some a) 0 c) (.slice none 0 0)).run prog w=.ok (.bool false) w:=pL _ _ w a c underlying277
theorem JK:od 473:=by
 constructor
 ·intro w
  go_enter func473,ntmps473
  go_wp2
  go_ret
  exact⟨rfl,.refl _⟩
 intro a c w
 go_enter func473,ntmps473
 go_wp2
 go_ret
 exact⟨⟨_,rfl⟩,.alloc _ _⟩
end
def cloneAll:List Nat:=[11,31,32,137,349,392,448,473]
theorem L6(f:FuncId) (hf:cloneAll.contains f=true):od f:=by
 simp only[cloneAll,og,bZ,beq_iff_eq,List.contains_nil,am,or_false]at hf;rcases hf with rfl|rfl|rfl|rfl|rfl|rfl|rfl|rfl
 ·exact L5
 ·exact L4
 ·exact L3
 ·exact JO
 ·exact JN
 ·exact JM
 ·exact JL
 exact JK
theorem Oo(f:FuncId) (hf:cloneIds.contains f=true):od f:=L6 f (by
 simp only[cloneIds,og,bZ,beq_iff_eq,List.contains_nil,am,or_false]at hf;rcases hf with rfl|rfl<;>rfl)
def qe:FuncId->LA->H->Option (AV × H):=λf args h=>if cloneAll.contains f then(match args with|[.isl [] _]=>some (.isl [] .full,h)|_=>none)else none
theorem Dp{f:FuncId}(hf:od f){args:LA}{h h':H}{r:AV}(hp:(match args with|[.isl [] _]=>some (AV.isl [] .full,h)|_=>none)=some (r,h')) :
  ∀(B:Nat) (A0:Nat->Nat->Prop) (σ:List (Option Nat)) (w:World) (vs:Array Value),HRel prog B A0 σ h w->vs.size=args.length->(∀(i:Nat) a v,args[i]?=some a->vs[i]?=some v->Rel prog (Alw prog B A0 σ h) σ h w a v) ->
   Calls prog f vs w (λe w'=>∃v,e=.returned v/\Go.V.eI prog B A0 σ h w r h' v w'):=by
 intro B A0 σ w vs g l m;have⟨n,k⟩:=hf;split at hp<;>try(cases hp;done)
 rename_i x;simp only[aA,aD]at hp;obtain⟨rfl,rfl⟩:=hp;obtain⟨v,rfl⟩:∃v,vs = #[v]:=by have:vs.size=1:=l;exact⟨vs[0],by apply Array.ext<;>simp[this];intro i o;subst o;rfl⟩
 have p:=lU (m 0 _ v rfl rfl);cases p with
 |islNil=>exact(n w).mono λe w' ⟨j,d⟩=>⟨_,j,σ,g.grows d,.grows g d,.full .islNil⟩
 |islEmpty a c q=>exact(k a c w).mono λe w' ⟨⟨b,j⟩,d⟩=>⟨_,j,σ,g.grows d,.grows g d,.full (.islEmpty b 0 (by simp[maxLen]))⟩
 |isl f s t q u y z A=>exact(k _ _ w).mono λe w' ⟨⟨b,j⟩,d⟩=>⟨_,j,σ,g.grows d,.grows g d,.full (.islEmpty b 0 (by simp[maxLen]))⟩
theorem BX(f:FuncId):rI prog f (qB f):=by
 intro b h r d a;unfold qB at a;split at a<;>try(cases a;done)
 rename_i c;exact Dp (Oo f c) a
theorem xL(f:FuncId):rI prog f (qe f):=by
 intro b h r d a;unfold qe at a;split at a<;>try(cases a;done)
 rename_i c;exact Dp (L6 f c) a
end Go.VZ
