/- A part of the proof. -/
import Derived.Orders
import Derived.Laws.AppendOwn
import Derived.Laws.Slices
import Derived.Below
import Derived.KernelRfl
theorem o_ {p:Prop}(h:p:=by omega):p:=h
theorem s_ {p:Prop}(h:p:=by simp):p:=h
theorem k_ {p:Prop}(h:p:=by kernel_rfl):p:=h
theorem d_ {p:Prop}(h:p:=by decide):p:=h
theorem g_ {p:Prop}(h:p:=by simp[go_sem]<;>assumption):p:=h
abbrev aA:=@Option.some.injEq
abbrev aB:=@List.getElem?_eq_some_iff
abbrev aC:=@List.getElem?_set_ne
abbrev aD:=@List.getElem?_set_self
abbrev aE:=@Prod.mk.injEq
abbrev aF:=@List.getElem?_eq_getElem
abbrev aG:=@List.getElem_mem
abbrev aH:=@List.getElem?_append_left
abbrev aI:=@List.drop_eq_getElem_cons
abbrev aK:=@List.mem_append
abbrev aL:=@List.length_cons
abbrev aM:=@List.map_cons
abbrev aO:=@Nat.zero_le
abbrev aP:=@Nat.le_refl
abbrev aR:=@Array.getElem?_eq_some_iff
abbrev aS:=@List.mem_singleton
abbrev aT:=@Bool.false_eq_true
abbrev aV:=@List.mem_cons
abbrev aW:=@List.take_append_getElem
abbrev aX:=@Array.getElem?_eq_getElem
abbrev aa:=@List.mem_append_left
abbrev ae:=@List.mem_map
abbrev ak:=@List.take_length
abbrev ap:=@List.getElem?_append_right
abbrev ar:=@Array.getD_eq_getD_getElem?
abbrev av:=@List.all_eq_true
abbrev ax:=@List.length_map
abbrev bB:=@List.length_nil
abbrev bH:=@List.drop_length
abbrev bI:=@Bool.and_eq_true
abbrev bJ:=@List.take_of_length_le
abbrev bM:=@List.map_nil
abbrev bP:=@List.mem_cons_of_mem
abbrev bQ:=@List.mem_of_getElem?
abbrev bR:=@List.mem_flatMap
abbrev bU:=@List.length_take
abbrev bW:=@Array.getElem?_toList
abbrev be:=@List.take_succ_eq_append_getElem
abbrev bf:=@List.map_congr_left
abbrev bk:=@List.mem_append_right
abbrev bq:=@List.take_append_of_le_length
abbrev br:=@List.append_nil
abbrev bt:=@List.getElem_of_mem
abbrev bu:=@Nat.zero_add
abbrev bv:=@List.mem_cons_self
abbrev bz:=@Bool.or_eq_true
abbrev cE:=@List.mem_filter
abbrev cI:=@List.getElem?_eq_none
abbrev cJ:=@Nat.le_trans
abbrev cK:=@List.getElem?_map
abbrev cL:=@Bool.not_eq_true'
abbrev cN:=@List.nil_append
abbrev cS:=@Option.map_eq_some_iff
abbrev cT:=@Option.map_some
abbrev cU:=@List.eq_nil_of_length_eq_zero
abbrev cV:=@List.cons_append
abbrev cW:=@Nat.mul_le_mul_right
abbrev cX:=@List.getElem?_take
abbrev cZ:=@Option.bind_some
abbrev cd:=@List.getElem?_drop
abbrev cr:=@Array.getElem?_append_left
abbrev ct:=@List.cons.injEq
abbrev dB:=@List.ext_getElem?
abbrev dC:=@Bool.not_true
abbrev dF:=@List.mem_of_mem_take
abbrev dG:=@List.getElem?_cons_zero
abbrev dI:=@List.getElem?_toArray
abbrev dK:=@Option.isSome_iff_exists
abbrev dL:=@List.getD_eq_getElem?_getD
abbrev dN:=@List.not_mem_nil
abbrev dR:=@List.mem_range
abbrev dS:=@List.length_filter_le
abbrev dT:=@List.any_eq_true
abbrev dY:=@List.mem_of_mem_drop
abbrev db:=@List.mem_range'_1
abbrev dc:=@List.foldl_cons
abbrev df:=@List.mem_map_of_mem
abbrev dm:=@Nat.add_zero
abbrev dt:=@List.flatMap_cons
abbrev dw:=@List.pairwise_cons
abbrev dx:=@List.take_append_drop
abbrev eC:=@List.filter_cons
abbrev eG:=@List.map_map
abbrev eH:=@List.drop_zero
abbrev eK:=@List.length_singleton
abbrev eM:=@List.all_append
abbrev eV:=@Array.getElem?_eq_none
abbrev ek:=@List.length_drop
abbrev eo:=@List.getElem?_range
abbrev fD:=@List.size_toArray
abbrev fE:=@Array.all_eq_true_iff_forall_mem
abbrev fQ:=@List.getElem?_cons_succ
abbrev fW:=@Nat.lt_of_lt_of_le
abbrev fZ:=@Bool.and_assoc
abbrev fc:=@Bool.eq_iff_iff
abbrev fj:=@Nat.lt_or_ge
abbrev fm:=@List.flatMap_append
abbrev fo:=@Array.length_toList
abbrev fz:=@List.getElem?_set
abbrev gJ:=@Nat.add_mul
abbrev gO:=@Nat.add_assoc
abbrev gQ:=@Bool.false_or
abbrev gd:=@List.nodup_cons
abbrev gn:=@Option.isSome_none
abbrev gp:=@Nat.le_max_right
abbrev gq:=@List.zip_cons_cons
abbrev gu:=@List.filter_append
abbrev hG:=@Nat.succ_mul
abbrev hJ:=@Nat.mul_comm
abbrev iB:=@List.getElem?_of_mem
abbrev iD:=@List.pairwise_map
abbrev iE:=@List.length_eq_zero_iff
abbrev iH:=@Nat.mod_lt
abbrev iI:=@Nat.le_max_left
abbrev iO:=@List.drop_of_length_le
abbrev iP:=@Array.getElem?_append_right
abbrev iS:=@List.sum_cons
abbrev iU:=@List.map_toArray
abbrev ie:=@Array.getElem?_map
abbrev iz:=@List.pairwise_iff_getElem
abbrev jA:=@List.mem_of_find?_eq_some
abbrev jB:=@List.getElem_append_right
abbrev jC:=@List.drop_left'
abbrev jO:=@Bool.not_eq_false
abbrev jR:=@Array.getElem?_replicate
abbrev jT:=@Array.getElem?_setIfInBounds_ne
abbrev jX:=@Nat.mul_le_mul_left
abbrev jY:=@List.length_pos_iff
abbrev jf:=@Bool.false_and
abbrev jg:=@Array.eq_empty_of_size_eq_zero
abbrev kB:=@Array.foldl_toList
abbrev kC:=@Array.empty_append
abbrev kG:=@List.of_mem_zip
abbrev kL:=@Bool.true_and
abbrev kQ:=@Array.getElem?_modify
abbrev kT:=@List.all_eq_false
abbrev kW:=@Array.getElem?_setIfInBounds_self_of_lt
abbrev lC:=@List.nodup_iff_pairwise_ne
abbrev lD:=@List.getElem?_append
abbrev lE:=@List.eraseIdx_of_length_le
abbrev lM:=@List.perm_middle
abbrev lN:=@List.flatMap_nil
abbrev lV:=@List.take_succ_cons
abbrev lW:=@List.length_flatten
abbrev lZ:=@List.drop_succ_cons
abbrev mD:=@List.any_cons
abbrev mF:=@List.all_cons
abbrev mI:=@List.find?_cons
abbrev mR:=@Option.isSome_some
abbrev mS:=@Nat.eq_zero_or_pos
abbrev mT:=@List.mem_replicate
abbrev mU:=@Array.extract_size
abbrev mi:=@List.eraseIdx_append_of_length_le
abbrev nN:=@Nat.sub_self
abbrev nO:=@Nat.le_of_lt
abbrev nP:=@List.sum_replicate_nat
abbrev nR:=@Array.size_append
abbrev nS:=@Array.getElem?_push_lt
abbrev nZ:=@List.singleton_append
abbrev nc:=@List.mem_iff_getElem?
abbrev nf:=@Array.mem_of_getElem?
abbrev oI:=@Option.getD_some
abbrev oJ:=@List.mem_flatten
abbrev oK:=@List.flatMap_map
abbrev ol:=@Nat.mul_one
abbrev pA:=@List.length_set
abbrev pB:=@List.find?_some
abbrev pE:=@List.filter_eq_self
abbrev qF:=@List.take_zero
abbrev qG:=@List.map_replicate
abbrev qH:=@Array.ext_getElem?
abbrev qd:=@Nat.mul_add
namespace Go.V
open Go
inductive Ext where
 |unk|full|tok (t:Nat)
 deriving DecidableEq,Inhabited
inductive AV where
 |bool (b:Bool)
 |int (k:IntKind) (n:Int)
 |str (s:ByteArray)
 |nilptr
 |ptr (id off:Nat)
 |iptr (e:AV) (off:Nat)
 |isl (elems:List AV) (x:Ext)
 |msl (id off sz len:Nat) (cap:Option Nat)
 |nilmap
 |nilFunc
 |func (f:FuncId) (captured:List AV)
 |nilIface
 |iface (t:TypeId) (v:AV)
 |agg (cells:List AV)
 |tuple (vs:List AV)
 |yield (i:Nat)
 |mp (id:Nat)
 deriving Inhabited
abbrev LA:=List AV
def AV.undef:AV:=.tuple []
def AV.cells:AV->LA
 |.agg cs=>cs
 |v=>[v]
def AV.one:AV->Bool
 |.agg _ | .tuple _=>false
 |_=>true
inductive PT where
 |leaf
 |node (l:PT) (v:AV) (r:PT)
def PT.get:PT->Nat->AV
 |.leaf,_=>AV.undef
 |.node _ v _,0=>v
 |.node l _ r,n+1=>if n%2=0 then l.get (n/2)else r.get (n/2)
def PT.setF:Nat->PT->Nat->AV->PT
 |0,t,_,_=>t
 |_+1,.leaf,0,v=>.node .leaf v .leaf
 |_+1,.node l _ r,0,v=>.node l v r
 |f+1,.leaf,n+1,v=>if n%2=0 then .node (setF f .leaf (n/2) v) AV.undef .leaf else .node .leaf AV.undef (setF f .leaf (n/2) v)
 |f+1,.node l u r,n+1,v=>if n%2=0 then .node (setF f l (n/2) v) u r else .node l u (setF f r (n/2) v)
def PT.set(t:PT) (n:Nat) (v:AV):PT:=PT.setF (n+1) t n v
inductive OSt where
 |live|frozen|dead
 deriving DecidableEq,Inhabited
inductive Ex where
 |normal|exit (id:Nat)|ret
 deriving DecidableEq
inductive LSt where
 |ready|busy|done (e:Ex)|over
 deriving DecidableEq
structure LoopV where
 cf:FuncId
 s:PT
 n:Nat
 ps:Array Tmp
 assign:Code
 body:Code
inductive VObj where
 |cells (cs:LA) (st:OSt)
 |tok (used:Nat) (ty:TypeId)
 |loop (L:LoopV) (st:LSt)
 |map (es:List (AV × AV))
 |void
instance:Inhabited VObj:=⟨.tok 0 0⟩
def VObj.gone:VObj->Bool
 |.cells _ .dead=>true
 |.loop _ .over=>true
 |.void=>true
 |_=>false
abbrev H:=List VObj
def eX:Value->Option AV
 |.bool b=>some (.bool b)
 |.int k n=>some (.int k n)
 |.string s=>some (.str s)
 |.pointer none=>some .nilptr
 |.slice none 0 0=>some (.isl [] .full)
 |.map none=>some .nilmap
 |.nilFunc=>some .nilFunc
 |.nilIface=>some .nilIface
 |_=>none
def AJ:List Value->Option (LA)
 |[]=>some []
 |v::r=>match eX v,AJ r with
  |some a,some l=>some (a::l)
  |_,_=>none
def fR:Value->Option AV
 |.agg cs=>match AJ cs.toList with
  |some l=>some (.agg l)
  |none=>none
 |v=>eX v
def cn:AV->Option Value
 |.bool b=>some (.bool b)
 |.int k n=>some (.int k n)
 |.str s=>some (.string s)
 |.nilptr=>some (.pointer none)
 |.nilmap=>some (.map none)
 |.nilFunc=>some .nilFunc
 |.nilIface=>some .nilIface
 |_=>none
def toList:LA->Option (List Value)
 |[]=>some []
 |v::r=>match cn v,toList r with
  |some a,some l=>some (a::l)
  |_,_=>none
def fI:AV->Option Value
 |.agg cs=>match toList cs with
  |some l=>some (.agg l.toArray)
  |none=>none
 |v=>cn v
def dA{α:Type}(P:Program):Sem α->Option α
 |.pure a=>some a
 |.program k=>dA P (k P)
 |_=>none
def gW(P:Program) (t:TypeId):Option Bool:=
 match P.underlying t with
 |some (.struct _)|some (.array _ _)=>some true
 |some _=>some false
 |none=>none
def cw(P:Program) (t:TypeId):Option Nat:=(P.info? t).map (·.size)
def aY(P:Program) (t:TypeId) (cs:LA) (off:Nat):Option AV:=
 match gW P t,cw P t with
 |some true,some n=>if off+n<=cs.length then some (.agg ((cs.drop off).take n))else none
 |some false,some _=>cs[off]?
 |_,_=>none
def tW(g:Nat):Option AV:=if g=1 then some (.isl [.str ⟨#[97,110,121]⟩,.str ⟨#[97,103,101,110,116]⟩,.str ⟨#[110,111,110,99,101]⟩,.str ⟨#[107,101,121]⟩,.str ⟨#[100,97,116,97]⟩,.str ⟨#[116,97,103]⟩] .unk)else if g=2 then some (.agg ((List.range 20).map λi=>.int .u64 ((10 ^ i:Nat):Int)))else none
def wl(g:Nat):Option Nat:=if g=2 then some 20 else none
def ev(s:PT):Operand->Option AV
 |.tmp t=>some (s.get t)
 |.const v=>fR v
 |.global g=>(tW g).map λa=>.iptr a 0
 |.func f=>some (.func f [])
def evs(s:PT):List Operand->Option (LA)
 |[]=>some []
 |x::r=>match ev s x,evs s r with
  |some a,some l=>some (a::l)
  |_,_=>none
def AX:Operand->Bool
 |.const (.slice none 0 0)=>true
 |_=>false
def ZA:AV->Bool
 |.ptr _ _ | .iptr _ _=>true
 |_=>false
def yU:AV->Bool
 |.isl es _=>!es.isEmpty
 |.msl _ _ _ _ _=>true
 |_=>false
def Ms(P:Program) (t:TypeId):Bool:=match P.underlying t with
 |some (.slice _)=>true
 |_=>false
def vm:BinOp->Option Bool
 |.eql=>some false
 |.neq=>some true
 |_=>none
def qS(P:Program) (op:BinOp) (t:TypeId) (y:Operand) (a:AV):Option AV:=
 if AX y&&yU a&&Ms P t then(vm op).map AV.bool else none
def jU(P:Program) (op:BinOp) (t:TypeId) (x y:Operand) (a b:AV):Option AV:=
 match fI a,fI b with
 |some u,some v=>match dA P (do eqGuard op t x y u v;binOp op t u v)with
  |some r=>fR r
  |none=>none
 |_,_=>match op,a,b with
  |.eql,.nilptr,.ptr _ _ | .eql,.nilptr,.iptr _ _ | .eql,.ptr _ _,.nilptr | .eql,.iptr _ _,.nilptr=>
   match P.underlying t with
   |some (.pointer _)=>some (.bool false)
   |_=>none
  |.neq,.nilptr,.ptr _ _ | .neq,.nilptr,.iptr _ _ | .neq,.ptr _ _,.nilptr | .neq,.iptr _ _,.nilptr=>
   match P.underlying t with
   |some (.pointer _)=>some (.bool true)
   |_=>none
  |_,_,_=>qS P op t y a
def unV(P:Program) (op:UnOp) (a:AV):Option AV:=
 match fI a with
 |some u=>match dA P (Op.unary op u)with
  |some r=>fR r
  |none=>none
 |none=>none
def Ap(P:Program) (src dst:TypeId) (a:AV):Option AV:=
 match fI a with
 |some u=>match dA P (convert src dst u)with
  |some r=>fR r
  |none=>none
 |none=>none
def FY:LA->Option (List Int)
 |[]=>some []
 |.int .u8 n::r=>match FY r with
  |some l=>some (n::l)
  |none=>none
 |_=>none
def Rc(ns:List Int):ByteArray:=ns.foldl (λr n=>r.push (UInt8.ofNat n.toNat)) ByteArray.empty
def Iz(P:Program) (src dst:TypeId) (es:LA):Option AV:=
 match P.underlying src,P.underlying dst with
 |some (.slice e),some .string=>match P.underlying e,FY es with
  |some (.int .u8),some ns=>some (.str (Rc ns))
  |_,_=>none
 |_,_=>none
def B8(IK:Nat->Option (Nat × Nat)) (cells:LA):List (Nat × AV)->Option (LA)
 |[]=>some cells
 |(i,v)::rest=>
  match IK i with
  |none=>none
  |some (off,size)=>if v.cells.length=size/\off+size<=cells.length then B8 IK (cells.take off++v.cells++cells.drop (off+size)) rest else none
def mc(P:Program) (t:TypeId) (i:Nat):Option (Nat × Nat):=
 match P.underlying t with
 |some (.struct fields)=>match fields[i]? with
  |some f=>match cw P f.type with
   |some n=>some (f.offset,n)
   |none=>none
  |none=>none
 |_=>none
def au:AV->Bool
 |.tuple _=>false
 |_=>true
def iV(P:Program) (t:TypeId):Option AV:=
 match P.info? t with
 |some i=>match i.zero with
  |some v=>match fR v with
   |some a=>if a.cells.length=i.size then some a else none
   |none=>none
  |none=>none
 |none=>none
def fT(s:PT):List (Nat × Operand)->Option (List (Nat × AV))
 |[]=>some []
 |(i,x)::r=>match ev s x,fT s r with
  |some a,some l=>if au a then some ((i,a)::l)else none
  |_,_=>none
def qW(P:Program):List Field->Bool
 |[]=>true
 |f::r=>(P.info? f.type).isSome&&qW P r
def fV(P:Program) (t:TypeId) (parts:List (Nat × AV)):Option AV:=
 match P.underlying t with
 |some (.struct fields)=>if qW P fields.toList then
   match iV P t with
   |some (.agg z)=>match B8 (mc P t) z parts with
    |some cs=>some (.agg cs)
    |none=>none
   |_=>none
  else none
 |some (.array _ elem)=>match iV P t,cw P elem with
  |some (.agg z),some n=>match B8 (λi=>some (i*n,n)) z parts with
   |some cs=>some (.agg cs)
   |none=>none
  |_,_=>none
 |_=>none
def asI:AV->Option Int
 |.int _ n=>some n
 |_=>none
def iN(n:Nat):LA->Bool
 |[]=>true
 |e::_=>e.cells.length==n
def aZ(P:Program) (t:TypeId) (x i:AV):Option AV:=
 match P.underlying t,x,i with
 |some (.slice elem),.isl es _,.int _ n=>match cw P elem with
  |some sz=>if 0<=n/\n<es.length then match es[n.toNat]? with
    |some e=>if e.cells.length=sz then some (.iptr e 0)else none
    |none=>none
   else none
  |none=>none
 |some (.slice elem),.msl id off sz len _,.int _ n=>if cw P elem=some sz/\0<=n/\n<len then some (.ptr id (off+n.toNat*sz))else none
 |some (.array len elem),.ptr id off,.int _ n=>match cw P elem with
  |some sz=>if 0<=n/\n<len then some (.ptr id (off+n.toNat*sz))else none
  |none=>none
 |some (.array len elem),.iptr e off,.int _ n=>match cw P elem with
  |some sz=>if 0<=n/\n<len then some (.iptr e (off+n.toNat*sz))else none
  |none=>none
 |_,_,_=>none
def bp(P:Program) (s:TypeId) (x:AV) (f:Nat):Option AV:=
 match mc P s f with
 |some (o,n)=>if n=0 then none else match x with
  |.ptr id off=>some (.ptr id (off+o))
  |.iptr e off=>some (.iptr e (off+o))
  |_=>none
 |none=>none
def sK(P:Program) (s:TypeId) (x:AV) (f:Nat):Option AV:=
 match P.underlying s,x with
 |some (.struct fields),.agg cs=>match fields[f]? with
  |some fd=>aY P fd.type cs fd.offset
  |none=>none
 |_,_=>none
def tU(P:Program) (t:TypeId) (x i:AV):Option AV:=
 match x,i with
 |.agg cs,.int _ n=>match P.underlying t with
  |some (.array len elem)=>match cw P elem with
   |some sz=>if 0<=n/\n<len then aY P elem cs (n.toNat*sz)else none
   |none=>none
  |_=>none
 |.str s,.int k n=>match dA P (Instr.index t (.string s) (.int k n))with
  |some r=>fR r
  |none=>none
 |_,_=>none
def qC(limit:Nat):AV->Option Nat
 |.int _ n=>if 0<=n/\n<=limit then some n.toNat else none
 |_=>none
def mB(limit dflt:Nat):Option AV->Option Nat
 |none=>some dflt
 |some v=>qC limit v
def fF(P:Program) (t:TypeId) (x:AV) (lo hi mx:Option AV):Option AV:=
 match P.underlying t,x,mx with
 |some (.slice elem),.isl es e,none=>match cw P elem,mB es.length es.length hi with
  |some sz,some h=>match mB h 0 lo with
   |some l=>if !iN sz es then none else
     if l=0/\h=es.length then some (.isl es e)
     else some (.isl ((es.take h).drop l) (if e=.full/\h=es.length then .full else .unk))
   |none=>none
  |_,_=>none
 |some (.slice elem),.isl es _,some m=>match cw P elem,qC es.length m with
  |some sz,some m=>match hi with
   |none=>none
   |some hv=>match qC m hv with
    |some h=>match mB h 0 lo with
     |some l=>if !iN sz es then none else some (.isl ((es.take h).drop l) (if m=h then .full else .unk))
     |none=>none
    |none=>none
  |_,_=>none
 |some (.slice elem),.msl id off sz len cap,none=>if cw P elem=some sz then
   match mB len len hi with
   |some h=>match mB h 0 lo with
    |some l=>match cap with
     |some c=>some (.msl id (if c=l then off else off+l*sz) sz (h-l) (some (c-l)))
     |none=>if l=0 then some (.msl id off sz h none)else if l<len then some (.msl id (off+l*sz) sz (h-l) none)else some (.isl [] .unk)
    |none=>none
   |none=>none
  else none
 |some (.slice elem),.msl id off sz len _,some m=>if cw P elem=some sz then
   match qC len m with
   |some m=>match hi with
    |none=>none
    |some hv=>match qC m hv with
     |some h=>match mB h 0 lo with
      |some l=>if m=l then some (.isl [] .full)else some (.msl id (off+l*sz) sz (h-l) (some (m-l)))
      |none=>none
     |none=>none
   |none=>none
  else none
 |some .string,.str s,none=>match mB s.size s.size hi with
  |some h=>match mB h 0 lo with
   |some l=>some (.str (s.extract l h))
   |none=>none
  |none=>none
 |_,_,_=>none
def fG(P:Program) (t:TypeId) (x:AV):Option AV:=
 match P.underlying t,x with
 |some (.slice _),.isl es _=>some (.int .i64 es.length)
 |some (.slice _),.msl _ _ _ len _=>some (.int .i64 len)
 |some .string,.str s=>some (.int .i64 s.size)
 |some (.array n _),_=>some (.int .i64 n)
 |_,_=>none
def FT(P:Program) (t:TypeId) (x:AV):Option AV:=
 match P.underlying t,x with
 |some (.slice _),.isl es .full=>some (.int .i64 es.length)
 |some (.slice _),.msl _ _ _ _ (some c)=>some (.int .i64 c)
 |_,_=>none
def sD(P:Program) (mx:Bool) (args:LA):Option AV:=
 match toList args with
 |some us=>match dA P (if mx then Builtin.max_ #[] 0 us.toArray else Builtin.min_ #[] 0 us.toArray)with
  |some r=>fR r
  |none=>none
 |none=>none
def opN(P:Program) (s:PT) (o:Oper):Option AV:=
 match o.op with
 |.move x | .assign x=>ev s x
 |.pick c a b=>match ev s c with
  |some (.bool true)=>ev s a
  |some (.bool false)=>ev s b
  |_=>none
 |.build t parts=>match fT s parts.toList with
  |some l=>fV P t l
  |none=>none
 |.nilCheck x=>match ev s x with
  |some (.ptr i n)=>some (.ptr i n)
  |some (.iptr e n)=>some (.iptr e n)
  |some (.func f c)=>some (.func f c)
  |_=>none
 |.binOp op t x y _=>match ev s x,ev s y with
  |some a,some b=>jU P op t x y a b
  |_,_=>none
 |.unOp op _ x=>match ev s x with
  |some a=>unV P op a
  |none=>none
 |.convert src dst x=>match ev s x with
  |some (.isl es _)=>Iz P src dst es
  |some a=>Ap P src dst a
  |none=>none
 |.makeInterface t x=>match P.underlying t,ev s x with
  |some (.interface _),_=>none
  |some _,some a=>if au a then some (.iface t a)else none
  |_,_=>none
 |.makeFunc (.func f) first captured=>if first.isEmpty then match evs s captured.toList with
   |some l=>some (.func f l)
   |none=>none
  else none
 |.slice t x lo hi mx=>match ev s x with
  |none=>none
  |some a=>match lo.map (ev s),hi.map (ev s),mx.map (ev s)with
   |some none,_,_|_,some none,_|_,_,some none=>none
   |l,h,m=>fF P t a (l.bind id) (h.bind id) (m.bind id)
 |.fieldAddr t x f=>match ev s x with
  |some a=>bp P t a f
  |none=>none
 |.field t x f=>match ev s x with
  |some a=>sK P t a f
  |none=>none
 |.indexAddr t x i=>match ev s x,ev s i with
  |some a,some b=>aZ P t a b
  |_,_=>none
 |.index t x i=>match ev s x,ev s i with
  |some a,some b=>tU P t a b
  |_,_=>none
 |.extract x i=>match ev s x with
  |some (.tuple l)=>l[i]?
  |_=>none
 |.call {callee:=.builtin .len,args,argTypes}=>match args.toList,argTypes.toList with
  |[x],[t]=>match ev s x with
   |some a=>fG P t a
   |none=>none
  |_,_=>none
 |.call {callee:=.builtin .cap,args,argTypes}=>match args.toList,argTypes.toList with
  |[x],[t]=>match ev s x with
   |some a=>FT P t a
   |none=>none
  |_,_=>none
 |.call {callee:=.builtin .min,args,..}=>match evs s args.toList with
  |some l=>sD P false l
  |none=>none
 |.call {callee:=.builtin .max,args,..}=>match evs s args.toList with
  |some l=>sD P true l
  |none=>none
 |_=>none
def aJ(P:Program) (h:H) (t:TypeId):AV->Option AV
 |.ptr id off=>match h[id]? with
  |some (.cells cs .live)|some (.cells cs .frozen)=>aY P t cs off
  |_=>none
 |.iptr e off=>aY P t e.cells off
 |_=>none
def ah(P:Program) (h:H) (t:TypeId) (a v:AV):Option H:=
 match a with
 |.ptr id off=>match h[id]?,cw P t with
  |some (.cells cs .live),some n=>match v with
   |.tuple _=>none
   |.agg vs=>if vs.length=n/\off+n<=cs.length then some (h.set id (.cells (cs.take off++vs++cs.drop (off+n)) .live))else none
   |v=>if n=1/\off<cs.length then some (h.set id (.cells (cs.set off v) .live))else none
  |_,_=>none
 |_=>none
mutual
def eW(h:H):Nat->AV->Option AV
 |0,_=>none
 |n+1,v=>match v with
  |.isl es _=>some (.isl es .unk)
  |.ptr id off=>match h[id]? with
   |some (.cells cs .frozen)=>match fJ h n cs with
    |some l=>some (.iptr (.agg l) off)
    |none=>none
   |_=>none
  |.msl id off sz len _=>match h[id]? with
   |some (.cells cs .frozen)=>match fJ h n cs with
    |some l=>if off+len*sz<=l.length/\0<sz then some (.isl (io sz len (l.drop off)) .unk)else none
    |none=>none
   |_=>none
  |.func f c=>match fJ h n c with
   |some l=>some (.func f l)
   |none=>none
  |.iface t v=>match eW h n v with
   |some u=>some (.iface t u)
   |none=>none
  |.agg cs=>match fJ h n cs with
   |some l=>some (.agg l)
   |none=>none
  |.tuple vs=>match fJ h n vs with
   |some l=>some (.tuple l)
   |none=>none
  |.yield _ | .mp _=>none
  |v=>some v
def fJ(h:H):Nat->LA->Option (LA)
 |0,_=>none
 |_+1,[]=>some []
 |n+1,v::r=>match eW h n v,fJ h n r with
  |some a,some l=>some (a::l)
  |_,_=>none
def io(sz:Nat):Nat->LA->LA
 |0,_=>[]
 |n+1,cs=>(match sz,cs with|1,c::_=>c|_,_=>.agg (cs.take sz))::io sz n (cs.drop sz)
end
inductive Mode where
 |strip|ownT|ownM|openH|openQ|openF
 deriving DecidableEq,Inhabited
structure Cfg where
 P:Program
 mode:FuncId->Mode
 wr:FuncId->Tmp->Bool
 prim:FuncId->LA->H->Option (AV × H):=λ_ _ _=>none
 ext:FuncId->Array Value->Option Value:=λ_ _=>none
 mix:FuncId->Nat->Bool:=λ_ _=>false
 extOk:∀f vs v (w:World),ext f vs=some v->(callFunc f vs).run P w=.ok (.value v) w:=by intro _ _ _ _ h;cases h
def cM:Nat:=1000000
mutual
def ik(h:H):Nat->AV->List Nat
 |0,_=>[]
 |n+1,v=>match v with
  |.ptr id _ | .msl id _ _ _ _=>id::(match h[id]? with|some (.cells cs _)=>cP h n cs|_=>[])
  |.func _ c=>cP h n c
  |.iface _ u=>ik h n u
  |.agg cs=>cP h n cs
  |.tuple vs=>cP h n vs
  |_=>[]
def cP(h:H):Nat->LA->List Nat
 |0,_=>[]
 |_+1,[]=>[]
 |n+1,v::r=>ik h n v++cP h n r
end
def ub(h:H) (i:Nat):H:=match h[i]? with
 |some (.cells cs .live)=>h.set i (.cells cs .frozen)
 |_=>h
def freeze(h:H):List Nat->H
 |[]=>h
 |i::r=>freeze (ub h i) r
def bo:H->H
 |[]=>[]
 |.cells cs .live::r=>.cells cs .frozen::bo r
 |o::r=>o::bo r
def qO(v:AV):Bool:=(fI v).isSome
def Cc:AV->Bool
 |.tuple vs=>vs.all qO
 |v=>qO v
def re(vs:LA):Bool:=vs.all λv=>(cn v).isSome
def nY(P:Program) (m:Mode) (h1 h:H) (r:AV):Option (AV × H):=
 match r with
 |.isl es (.tok t)=>match h1[t]? with
  |some (.tok used ty)=>
   if used=es.length/\re es=true/\cw P ty=some 1 then
    (match m with
    |.ownT=>some (.isl es (.tok h.length),h++[.tok used ty])
    |.ownM=>match es with
     |[]=>some (.isl [] .unk,h)
     |_=>some (.msl h.length 0 1 es.length none,h++[.cells es .live])
    |_=>none)
   else none
  |_=>none
 |.isl [] .full=>some (.isl [] .full,h)
 |.msl id off sz len _=>match h1[id]? with
  |some (.cells cs .live)=>
   if re cs=true/\sz=1/\off+len<=cs.length then
    (match m with
    |.ownM=>some (.msl h.length off 1 len none,h++[.cells cs .live])
    |.ownT=>some (.isl ((cs.drop off).take len) .unk,h)
    |_=>none)
   else none
  |_=>none
 |_=>none
def iw(P:Program) (m:Mode) (h1 h:H) (r:AV):Option (AV × H):=
 match r with
 |.tuple (x::rest)=>match nY P m h1 h x with
  |some (x',h')=>if rest.all qO then some (.tuple (x'::rest),h')else none
  |none=>none
 |x=>nY P m h1 h x
def QO:AV->Option AV
 |.isl es _=>some (.isl es .unk)
 |.ptr _ _ | .msl _ _ _ _ _ | .func _ _ | .iface _ _ | .agg _ | .tuple _ | .yield _ | .mp _=>none
 |v=>some v
def nW:LA->Option (LA)
 |[]=>some []
 |v::r=>match QO v,nW r with
  |some a,some l=>some (a::l)
  |_,_=>none
def kJ(h:H) (i:Nat):H:=match h[i]? with
 |some x=>(bo h).set i x
 |none=>h
def kP(h1 h2:H) (r:AV):Option (AV × H):=
 match r with
 |.msl id off sz len _=>match h1[id]? with
  |some (.cells cs .live)=>match fJ (kJ h1 id) cM cs with
   |some cs'=>if 0<sz/\off+len*sz<=cs.length then some (.msl h2.length off sz len none,h2++[.cells cs' .live])else none
   |none=>none
  |_=>none
 |_=>none
def iy(m:Mode) (h1 h2:H) (r:AV):Option (AV × H):=
 match m,r with
 |.ownM,.tuple [x,y]=>if qO y then match kP h1 h2 x with
   |some (x',h')=>some (.tuple [x',y],h')
   |none=>none
  else none
 |.ownM,x=>kP h1 h2 x
 |_,_=>none
def mM(r:AV) (h1 h h2:H):Option (AV × H):=
 match eW (bo h1) cM r with
 |some r'=>some (r',if Cc r' then h else h2)
 |none=>none
def kS(P:Program) (m:Mode) (r:AV) (h1 h h2:H):Option (AV × H):=
 match m with
 |.ownT | .ownM=>match iw P m h1 h r with
  |some z=>some z
  |none=>match iy m h1 h2 r with
   |some z=>some z
   |none=>mM r h1 h h2
 |_=>mM r h1 h h2
mutual
def AV.same:AV->AV->Bool
 |.bool a,.bool b=>a==b
 |.int k a,.int l b=>decide (k=l)&&decide (a=b)
 |.str a,.str b=>decide (a=b)
 |.nilptr,.nilptr=>true
 |.ptr a b,.ptr c d=>decide (a=c)&&decide (b=d)
 |.iptr e o,.iptr f p=>AV.same e f&&decide (o=p)
 |.isl es x,.isl fs y=>AV.sames es fs&&decide (x=y)
 |.msl a b c d e,.msl a' b' c' d' e'=>decide (a=a')&&decide (b=b')&&decide (c=c')&&decide (d=d')&&decide (e=e')
 |.nilmap,.nilmap=>true
 |.nilFunc,.nilFunc=>true
 |.func f cs,.func g ds=>decide (f=g)&&AV.sames cs ds
 |.nilIface,.nilIface=>true
 |.iface t v,.iface u x=>decide (t=u)&&AV.same v x
 |.agg cs,.agg ds=>AV.sames cs ds
 |.tuple cs,.tuple ds=>AV.sames cs ds
 |.yield i,.yield j=>decide (i=j)
 |.mp i,.mp j=>decide (i=j)
 |_,_=>false
def AV.sames:LA->LA->Bool
 |[],[]=>true
 |a::l,b::m=>AV.same a b&&AV.sames l m
 |_,_=>false
end
def nlB:H->H->Bool
 |[],_=>true
 |.cells cs st::h,.cells ds st2::g=>AV.sames cs ds&&decide (st2=.dead↔st=.dead)&&nlB h g
 |.cells _ _::_,_=>false
 |_::h,_::g=>nlB h g
 |_::h,[]=>nlB h []
def news(h h':H):List Nat:=List.range' h.length (h'.length-h.length)
def dJ(C:Cfg) (run:FuncId->LA->H->Option (AV × H)) (f:FuncId) (args:LA) (h:H):Option (AV × H):=
 match C.mode f with
 |.openH=>run f args h
 |.openQ=>match run f args h with
  |some (r,h')=>if nlB h h' then some (r,h')else none
  |none=>none
 |.openF=>match run f args h with
  |some (r,h')=>if nlB h h' then(match eW (freeze h' (news h h')) cM r with
   |some r'=>some (r',freeze h' (news h h'))
   |none=>none)else none
  |none=>none
 |m=>match fJ (freeze h (cP h cM args)) cM args with
  |none=>none
  |some as=>match run f as []with
   |none=>none
   |some (r,h1)=>kS C.P m r h1 h (freeze h (cP h cM args))
def km(h:H):AV->Option (LA)
 |.isl es _=>some es
 |.msl id off sz len _=>match h[id]? with
  |some (.cells cs .live)|some (.cells cs .frozen)=>if off+len*sz<=cs.length/\0<sz/\re cs=true then some (io sz len (cs.drop off))else none
  |_=>none
 |_=>none
def jy(P:Program) (t:TypeId):Option Nat:=(P.info? t).map (·.bytes)
def ip(P:Program) (t:TypeId):Bool:=match P.info? t with
 |some i=>match i.zero with
  |some z=>z.cells.size==i.size
  |none=>false
 |none=>false
def ed(P:Program) (h:H) (t:TypeId) (s x:AV):Option (AV × H):=
 match P.underlying t with
 |some (.slice elem)=>match cw P elem,jy P elem,km h x with
  |some sz,some by_,some ys=>
   if !ip P elem||sz==0 || !iN sz ys then none else
   match s with
   |.isl xs e=>
    if !iN sz xs then none
    else if !((xs.length+ys.length)*(by_+1)<=35184372088832)then none
    else match e with
    |.full=>match ys with
     |[]=>some (.isl xs .full,h)
     |_=>some (.isl (xs++ys) (.tok h.length),h++[.tok (xs.length+ys.length) elem])
    |.tok i=>match h[i]? with
     |some (.tok used ty)=>if used=xs.length/\ty=elem then some (.isl (xs++ys) (.tok i),h.set i (.tok (xs.length+ys.length) ty))else none
     |_=>none
    |.unk=>match ys with
     |[]=>some (.isl xs .unk,h)
     |_=>none
   |.msl id off sz' len (some c)=>match h[id]? with
    |some (.cells cs .live)=>
     if sz'=sz/\len+ys.length<=c/\off+(len+ys.length)*sz<=cs.length then
      some (.msl id off sz (len+ys.length) (some c),h.set id (.cells (cs.take (off+len*sz)++ys.flatMap AV.cells++cs.drop (off+(len+ys.length)*sz)) .live))
     else none
    |_=>none
   |_=>none
  |_,_,_=>none
 |_=>none
def jh(h:H) (sz:Nat):AV->Option (LA × Nat)
 |.isl ys _=>if iN sz ys then some (ys.flatMap AV.cells,ys.length)else none
 |.msl id off sz' n _=>match h[id]? with
  |some (.cells cs .live)|some (.cells cs .frozen)=>if sz'=sz/\off+n*sz<=cs.length then some ((cs.drop off).take (n*sz),n)else none
  |_=>none
 |.str s=>if sz=1 then some (s.data.toList.map λb=>.int .u8 b.toNat,s.size)else none
 |_=>none
def de(P:Program) (h:H) (t:TypeId) (s x:AV):Option (AV × H):=
 match P.underlying t with
 |some (.slice elem)=>match cw P elem,jy P elem with
  |some sz,some by_=>if !ip P elem||sz==0 then none else
   match jh h sz x with
   |some (ys,m)=>match s with
    |.isl xs .full=>if m=0 then some (.isl xs .full,h)
     else if iN sz xs=true/\(xs.length+m)*(by_+1)<=35184372088832 then
      some (.msl h.length 0 sz (xs.length+m) none,h++[.cells (xs.flatMap AV.cells++ys) .live])
     else none
    |.msl id off sz' n c=>if m=0 then some (.msl id off sz' n c,h)
     else match h[id]? with
     |some (.cells cs .live)=>if off=0/\sz'=sz/\n*sz<=cs.length/\(n+m)*(by_+1)<=35184372088832 then
       some (.msl h.length 0 sz (n+m) none,h.set id (.cells cs .dead)++[.cells (cs.take (n*sz)++ys) .live])
      else none
     |_=>none
    |_=>none
   |none=>none
  |_,_=>none
 |_=>none
def nK(P:Program) (h:H) (t:TypeId) (s:AV) (n:Int):Option (AV × H):=
 match P.underlying t,s with
 |some (.slice elem),.isl xs .full=>match cw P elem,jy P elem,iV P elem with
  |some sz,some by_,some z=>if ip P elem=true/\0<sz/\iN sz xs=true/\0<=n/\(xs.length+n.toNat)*(by_+1)<=35184372088832 then
    if n=0 then some (.isl xs .full,h)
    else some (.msl h.length 0 sz (xs.length+n.toNat) none,h++[.cells (xs.flatMap AV.cells++(List.replicate n.toNat z.cells).flatten) .live])
   else none
  |_,_,_=>none
 |_,_=>none
def ey:AV->Bool
 |.msl _ _ _ _ (some _)=>true
 |_=>false
def bi(P:Program) (wr:Bool) (h:H) (t:TypeId) (s x:AV):Option (AV × H):=
 if !wr then ed P h t s x
 else if ey s then(match ed P h t s x with
  |some z=>some z
  |none=>de P h t s x)
 else match de P h t s x with
  |some z=>some z
  |none=>ed P h t s x
def C5(P:Program) (t:TypeId):Bool:=match P.underlying t with
 |some (.int .i64)=>true
 |_=>false
def vi(P:Program) (t:TypeId):Bool:=match P.underlying t with
 |some .string=>true
 |_=>false
def vo(P:Program) (h:H) (t:TypeId) (x:AV):Option H:=match P.underlying t,x with
 |some (.slice _),.isl [] _=>some h
 |some (.slice elem),.msl id off sz len _=>match h[id]?,iV P elem with
  |some (.cells cs .live),some z=>if cw P elem=some sz/\off+len*sz<=cs.length then
    some (h.set id (.cells (cs.take off++(List.replicate len z.cells).flatten++cs.drop (off+len*sz)) .live))else none
  |_,_=>none
 |_,_=>none
def Iy(P:Program) (h:H) (t:TypeId) (d x:AV):Option (AV × H):=match P.underlying t,d with
 |some (.slice elem),.msl id off sz len _=>match h[id]?,jh h sz x with
  |some (.cells cs .live),some (ys,m)=>if cw P elem=some sz/\off+len*sz<=cs.length then
    some (.int .i64 (Nat.min m len),h.set id (.cells (cs.take off++ys.take (Nat.min m len*sz)++cs.drop (off+Nat.min m len*sz)) .live))else none
  |_,_=>none
 |_,_=>none
def uh(n:Nat):LA->Bool
 |[]=>true
 |e::r=>e.cells.length==n&&au e&&uh n r
def cQ(P:Program) (h:H) (t:TypeId) (len:Nat) (parts:List (Nat × AV)):Option (AV × H):=
 match P.underlying t with
 |some (.slice elem)=>match cw P elem with
  |some sz=>
   if !ip P elem||sz==0 || !(len*sz<=16777216) || !(parts.map (·.1)==List.range len)then none else
   match fJ (freeze h (cP h cM (parts.map (·.2)))) cM (parts.map (·.2))with
   |some es=>if uh sz es then some (.isl es .full,freeze h (cP h cM (parts.map (·.2))))else none
   |none=>none
  |none=>none
 |_=>none
def iY(P:Program) (wr:Bool) (h:H) (t:TypeId) (l c:AV):Option (AV × H):=
 match P.underlying t,l,c with
 |some (.slice elem),.int .i64 l,.int .i64 c=>match cw P elem,jy P elem,iV P elem with
  |some sz,some by_,some z=>
   if sz==0 || !ip P elem || !(0<=l/\l<=c/\c<=1073741824) || !(by_<=4096)then none
   else if l=0/\wr=false then some (.isl [] (.tok h.length),h++[.tok 0 elem])
   else some (.msl h.length 0 sz l.toNat (some c.toNat),h++[.cells ((List.replicate c.toNat z.cells).flatten) .live])
  |_,_,_=>none
 |_,_,_=>none
def ja(P:Program) (t:TypeId):Option TypeId:=match P.underlying t with
 |some (.slice e)=>some e
 |_=>none
def ju:List (AV × AV)->Nat->Option (List MapEntry)
 |[],_=>some []
 |(k,_)::r,i=>match fI k,ju r (i+1)with
  |some kv,some l=>some ({key:=kv,val:=.int .i64 i,born:=0}::l)
  |_,_=>none
def Fh(empty:Bool) (kt:TypeId) (k:Value) (l:List MapEntry):Sem (Option (Nat × Value)):=do
 Instr.checkKey empty 10000 kt k
 Instr.findKey kt k l
def qV(P:Program) (empty:Bool) (kt:TypeId) (key:AV) (es:List (AV × AV)):Option (Option Nat):=
 match fI key,ju es 0 with
 |some k,some l=>(dA P (Fh empty kt k l)).map (·.map (·.1))
 |_,_=>none
def mH(P:Program) (h:H) (t:TypeId) (x k:AV) (ok:Bool):Option AV:=
 match P.underlying t with
 |some (.map kt et)=>match(match x with
   |.nilmap=>some []
   |.mp id=>match h[id]? with
    |some (.map es)=>some es
    |_=>none
   |_=>none)with
  |some es=>match qV P es.isEmpty kt k es with
   |some (some i)=>match es[i]? with
    |some e=>some (if ok then .tuple [e.2,.bool true]else e.2)
    |none=>none
   |some none=>match iV P et with
    |some z=>some (if ok then .tuple [z,.bool false]else z)
    |none=>none
   |none=>none
  |none=>none
 |_=>none
def er(P:Program) (h:H) (t:TypeId) (x k v:AV):Option H:=
 match P.underlying t,x with
 |some (.map kt _),.mp id=>match h[id]? with
  |some (.map es)=>if !au v then none else match qV P false kt k es with
   |some (some i)=>match es[i]?,fI k with
    |some e,some kv=>match fI e.1 with
     |some ov=>if Instr.sameBits 10000 ov kv then some (h.set id (.map (es.set i (k,v))))else none
     |none=>none
    |_,_=>none
   |some none=>if(fI k).isSome then some (h.set id (.map (es++[(k,v)])))else none
   |none=>none
  |_=>none
 |_,_=>none
def eP(o:Oper):Bool:=
 match o.op with
 |.assign x=>AX x
 |.box .. | .alloc _ | .buildSlice .. | .makeSlice .. | .store .. | .makeMap .. | .lookup .. | .mapUpdate .. | .insert ..=>true
 |.call {callee:=.builtin b,..}=>match b with
  |.len | .min | .max | .cap=>false
  |_=>true
 |.call _=>true
 |_=>false
def yb(P:Program):Nat:=P.funcs.size+1
def dl(P:Program) (f:FuncId):Bool:=match P.funcs[f]? with
 |some fn=>fn.body.isSome
 |none=>false
def Kn(C:Cfg) (g:FuncId) (l:LA) (h:H):Option (AV × H):=match toList l with
 |some vs=>match C.ext g vs.toArray with
  |some v=>match fR v with
   |some a=>some (a,h)
   |none=>none
  |none=>none
 |none=>none
def wrO(C:Cfg) (cf:FuncId) (o:Oper):Bool:=match o.dst with
 |some d=>C.wr cf d
 |none=>false
def opA(C:Cfg) (run:FuncId->LA->H->Option (AV × H)) (cf:FuncId) (s:PT) (h:H) (o:Oper):Option (AV × H):=
 match o.op with
 |.assign _=>if wrO C cf o=true then some (.isl [] .full,h)else match ja C.P o.type with
  |some e=>some (.isl [] (.tok h.length),h++[.tok 0 e])
  |none=>none
 |.box t x=>match ev s x,cw C.P t with
  |some a,some n=>if a.cells.length=n/\au a then some (.ptr h.length 0,h++[.cells a.cells .live])else none
  |_,_=>none
 |.alloc t=>match iV C.P t with
  |some a=>some (.ptr h.length 0,h++[.cells a.cells .live])
  |none=>none
 |.buildSlice t len parts=>match fT s parts.toList with
  |some l=>cQ C.P h t len l
  |none=>none
 |.makeSlice t l c=>match ev s l,ev s c with
  |some a,some b=>iY C.P (wrO C cf o) h t a b
  |_,_=>none
 |.store t a x=>match ev s a,ev s x with
  |some p,some v=>match ah C.P h t p v with
   |some h'=>some (AV.undef,h')
   |none=>none
  |_,_=>none
 |.call {callee:=.builtin .append,args,argTypes}=>match args.toList,argTypes.toList with
  |[x,y],[t,u]=>if t=u then match ev s x,ev s y with
    |some a,some b=>bi C.P (wrO C cf o) h t a b
    |_,_=>none
   else if vi C.P u then match ev s x,ev s y with
    |some a,some b=>de C.P h t a b
    |_,_=>none
   else if C5 C.P u then match ev s x,ev s y with
    |some a,some (.int .i64 n)=>nK C.P h t a n
    |_,_=>none
   else none
  |_,_=>none
 |.call {callee:=.value f,args,..}=>match ev s f,evs s args.toList with
  |some (.func g captured),some l=>if dl C.P g then dJ C run g (l++captured) h else Kn C g (l++captured) h
  |some (.yield i),some l=>run (yb C.P+i) l h
  |_,_=>none
 |.makeMap _ none=>some (.mp h.length,h++[.map []])
 |.lookup t x i ok=>match ev s x,ev s i with
  |some a,some b=>match mH C.P h t a b ok with
   |some v=>some (v,h)
   |none=>none
  |_,_=>none
 |.mapUpdate t m k v=>match ev s m,ev s k,ev s v with
  |some a,some b,some c=>match er C.P h t a b c with
   |some h'=>some (AV.undef,h')
   |none=>none
  |_,_,_=>none
 |.insert t m k v=>match ev s m,ev s k,ev s v with
  |some a,some b,some c=>match er C.P h t a b c with
   |some h'=>some (AV.undef,h')
   |none=>none
  |_,_,_=>none
 |.call {callee:=.builtin .clear,args,argTypes}=>match args.toList,argTypes.toList with
  |[x],[t]=>match ev s x with
   |some a=>match vo C.P h t a with
    |some h'=>some (AV.undef,h')
    |none=>none
   |none=>none
  |_,_=>none
 |.call {callee:=.builtin .copy,args,argTypes}=>match args.toList,argTypes.toList with
  |[x,y],[t,u]=>if t=u\/vi C.P u=true then match ev s x,ev s y with
    |some a,some b=>Iy C.P h t a b
    |_,_=>none
   else none
  |_,_=>none
 |_=>none
def opV(C:Cfg) (run:FuncId->LA->H->Option (AV × H)) (cf:FuncId) (s:PT) (h:H) (o:Oper):Option (AV × H):=
 if eP o then opA C run cf s h o else
 match o.op with
 |.load t x=>match ev s x with
  |some a=>match aJ C.P h t a with
   |some v=>some (v,h)
   |none=>none
  |none=>none
 |_=>match opN C.P s o with
  |some v=>some (v,h)
  |none=>none
def kU(s:PT) (d:Option Tmp) (v:AV):PT:=match d with
 |some t=>s.set t v
 |none=>s
def eR(ops:Array Oper) (s:PT) (j:Nat):Option Bool:=
 match(ops[j]?).bind (·.dst)with
 |some t=>match s.get t with
  |.bool b=>some b
  |_=>none
 |none=>none
def gF(C:Cfg) (run:FuncId->LA->H->Option (AV × H)) (cf:FuncId) (ops:Array Oper):List Oper->PT->H->Option (PT × H)
 |[],s,h=>some (s,h)
 |o::rest,s,h=>
  if Region.wanted o (eR ops s)then
   match opV C run cf s h o with
   |some (v,h')=>gF C run cf ops rest (kU s o.dst v) h'
   |none=>none
  else gF C run cf ops rest (kU s o.dst AV.undef) h
def vQ:List Operand->List Tmp
 |[]=>[]
 |.tmp t::r=>t::vQ r
 |_::r=>vQ r
def reads(ops:Array Oper) (o:Oper):List Tmp:=
 vQ o.op.operands.toList++(match o.guard with
  |some (j,_)=>match(ops[j]?).bind (·.dst)with|some t=>[t]|none=>[]
  |none=>[])
def X0(o:Oper):Bool:=match o.op with
 |.store ..=>true
 |.call {callee:=.builtin .append,..}=>true
 |.call {callee:=.value _,..}=>true
 |.call {callee:=.builtin .clear,..} | .call {callee:=.builtin .copy,..}=>true
 |_=>false
def nx(o:Oper):Bool:=match o.op with
 |.load ..=>true
 |_=>false
def clash(C:Cfg) (ops:Array Oper) (x y:Oper):Bool:=
 (eP x&&eP y)||(nx x&&loud C y)||(loud C x&&nx y)
  || (match x.dst with|some t=>(reads ops y).contains t||y.dst==some t|none=>false)
  || (match y.dst with|some t=>(reads ops x).contains t|none=>false)
 where
 loud (C:Cfg) (o:Oper):Bool:=match o.op with
  |.store ..=>true
  |.call {callee:=.builtin .clear,..} | .call {callee:=.builtin .copy,..}=>true
  |.call {callee:=.value (.func f),..}=>C.mode f==.openH
  |.call {callee:=.value _,..}=>true
  |_=>false
def wx(i:Nat) (o:Oper):Bool:=o.after.all λe=>!Region.binds .any e||decide (e.on<i)
def wT(C:Cfg) (ops:Array Oper):Bool:=
 let b:=Region.before ops
 (List.range ops.size).all λj=>match ops[j]? with
  |none=>true
  |some y=>wx j y&&(List.range j).all λi=>match ops[i]? with
   |none=>true
   |some x=>!clash C ops x y||(b.getD j 0).testBit i
def VT(o:Oper):Bool:=match o.op with
 |.select ..=>false
 |_=>true
def gi(C:Cfg) (cf:FuncId) (n:Nat) (inRound:Bool):Code->Bool
 |.skip | .exit _ | .ret=>true
 |.region id ops draw=>(ops.all λo=>(match o.dst with|some d=>decide (d<n)|none=>true)&&VT o)&&(!draw||C.mix cf id||wT C ops)
 |.seq a b=>gi C cf n inRound a&&gi C cf n inRound b
 |.cond _ a b=>gi C cf n inRound a&&gi C cf n inRound b
 |.block _ b=>gi C cf n inRound b
 |.loop b=>gi C cf n inRound b
 |.rangeFunc _ _ _ _=>!inRound
 |_=>false
def iC(s:PT) (o:Oper):List Nat:=match o.op with
 |.load _ x=>match ev s x with
  |some (.ptr id _)=>[id]
  |_=>[]
 |_=>[]
def cF:AV->List Nat
 |.msl id _ _ _ _=>[id]
 |_=>[]
def dy(s:PT) (o:Oper):List Nat:=match o.op with
 |.call {callee:=.builtin .append,args,..}=>match args.toList with
  |[x,_]=>match ev s x with
   |some c=>cF c
   |none=>[]
  |_=>[]
 |_=>[]
def If(o:Oper):Bool:=match o.op with
 |.call {callee:=.builtin .append,..}=>true
 |_=>false
def qE:List Oper->Bool
 |[]=>false
 |o::r=>If o||qE r
def jw(C:Cfg) (run:FuncId->LA->H->Option (AV × H)) (cf:FuncId) (ops:Array Oper):List Oper->PT->H->List Nat × List Nat
 |[],_,_=>([],[])
 |o::rest,s,h=>
  if Region.wanted o (eR ops s)then
   match opV C run cf s h o with
   |some (v,h')=>(iC s o++(jw C run cf ops rest (kU s o.dst v) h').1,dy s o++(jw C run cf ops rest (kU s o.dst v) h').2)
   |none=>([],[])
  else jw C run cf ops rest (kU s o.dst AV.undef) h
def pw(C:Cfg) (run:FuncId->LA->H->Option (AV × H)) (cf:FuncId) (ops:Array Oper) (draw:Bool) (s:PT) (h:H):Bool:=
 !draw || !qE ops.toList||(jw C run cf ops ops.toList s h).1.all λi=>!(jw C run cf ops ops.toList s h).2.contains i
def EE:List (Tmp × AV)->PT->PT
 |[],s=>s
 |(p,v)::r,s=>EE r (s.set p v)
mutual
def AV.mv(i k:Nat):AV->AV
 |.ptr id off=>.ptr (if id=i then k else id) off
 |.msl id off sz len cap=>.msl (if id=i then k else id) off sz len cap
 |.isl es (.tok t)=>.isl es (.tok (if t=i then k else t))
 |.yield j=>.yield (if j=i then k else j)
 |.mp id=>.mp (if id=i then k else id)
 |.func f c=>.func f (AV.mvs i k c)
 |.iface t v=>.iface t (AV.mv i k v)
 |.agg cs=>.agg (AV.mvs i k cs)
 |.tuple vs=>.tuple (AV.mvs i k vs)
 |v=>v
def AV.mvs(i k:Nat):LA->LA
 |[]=>[]
 |v::r=>AV.mv i k v::AV.mvs i k r
end
def VObj.mv(i k:Nat):VObj->VObj
 |.cells cs .dead=>.cells cs .dead
 |.cells cs st=>.cells (AV.mvs i k cs) st
 |.map es=>.map (es.map λe=>(e.1,e.2.mv i k))
 |o=>o
def Gt:AV->List Nat
 |.mp id=>[id]
 |_=>[]
def gZ:AV->List Nat
 |.isl _ (.tok t)=>[t]
 |_=>[]
def lT(C:Cfg) (s:PT) (h:H) (o:Oper):Option (List Nat × Bool):=
 if eP o then
  match o.op with
  |.store _ a _=>match ev s a with
   |some (.ptr id _)=>some ([id],true)
   |_=>none
  |.alloc _ | .box .. | .makeSlice .. | .makeMap .. | .assign _=>some ([],true)
  |.lookup _ m _ _ | .mapUpdate _ m _ _ | .insert _ m _ _=>match ev s m with
   |some a=>some (Gt a,true)
   |none=>none
  |.buildSlice _ _ parts=>match fT s parts.toList with
   |some l=>some (cP h cM (l.map (·.2)),true)
   |none=>none
  |.call {callee:=.builtin .append,args,..}=>match args.toList with
   |[x,y]=>match ev s x,ev s y with
    |some a,some b=>some (cF a++gZ a++cF b,true)
    |_,_=>none
   |_=>none
  |.call {callee:=.value f,args,..}=>match ev s f,evs s args.toList with
   |some (.func g captured),some l=>if dl C.P g then(match C.mode g with
     |.openH=>none
     |.openQ=>none
     |.openF=>none
     |_=>some (cP h cM (l++captured),true))else some ([],true)
   |_,_=>none
  |_=>none
 else match o.op with
  |.load _ x=>match ev s x with
   |some (.ptr id _)=>some ([id],false)
   |_=>some ([],false)
  |_=>some ([],false)
def fin(p:Nat) (T:List Nat) (h h':H):H:=h.mapIdx λid x=>
 if id=p then(match h'[h.length]? with
  |some y=>y.mv h.length p
  |none=>x)
 else if T.contains id then(match h'[id]? with
  |some y=>y.mv h.length p
  |none=>x)
 else x
abbrev FP:=List Nat × List Nat
def dE:Option VObj->Bool
 |some .void=>true
 |_=>false
def gz(C:Cfg) (run:FuncId->LA->H->Option (AV × H)) (cf:FuncId) (ops:Array Oper) (base i:Nat) (o:Oper) (s:PT) (h:H):Option (AV × H × FP):=
 if Region.wanted o (eR ops s)then
  match lT C s h o,opV C run cf s h o with
  |some (T,wr),some (v,h')=>
   if h'.length<=h.length+1/\T.contains (base+i)=false/\dE h[base+i]?=true then
    some (v.mv h.length (base+i),if wr then fin (base+i) T h h' else h,if wr then((base+i)::T,(base+i)::T)else(T,[]))
   else none
  |_,_=>none
 else some (AV.undef,h,([],[]))
def pC(C:Cfg) (run:FuncId->LA->H->Option (AV × H)) (cf:FuncId) (ops:Array Oper) (base:Nat):Nat->PT->H->Option (PT × H × List FP)
 |0,s,h=>some (s,h,[])
 |n+1,s,h=>match pC C run cf ops base n s h,ops[n]? with
  |some (s1,h1,F),some o=>match gz C run cf ops base n o s1 h1 with
   |some (v,h2,f)=>some (kU s1 o.dst v,h2,F++[f])
   |none=>none
  |_,_=>none
def pc(ops:Array Oper) (x y:Oper):Bool:=
 (match x.dst with|some t=>(reads ops y).contains t||y.dst==some t|none=>false)||(match y.dst with|some t=>(reads ops x).contains t|none=>false)
def zY(ops:Array Oper):Bool:=
 let b:=Region.before ops
 (List.range ops.size).all λj=>match ops[j]? with
  |none=>true
  |some y=>wx j y&&(List.range j).all λi=>match ops[i]? with
   |none=>true
   |some x=>!pc ops x y||(b.getD j 0).testBit i
def qm(a b:List Nat):Bool:=a.any λi=>b.contains i
def sq(ops:Array Oper) (F:List FP):Bool:=
 let b:=Region.before ops
 (List.range F.length).all λj=>match F[j]? with
  |none=>true
  |some y=>(List.range j).all λi=>match F[i]? with
   |none=>true
   |some x=>!(qm x.2 y.1||qm y.2 x.1)||(b.getD j 0).testBit i
def xi(C:Cfg) (run:FuncId->LA->H->Option (AV × H)) (cf:FuncId) (ops:Array Oper) (s:PT) (h:H):Option (PT × H):=
 if zY ops then
  match pC C run cf ops h.length ops.size s (h++List.replicate ops.size .void)with
  |some (s',h',F)=>if sq ops F then some (s',h')else none
  |none=>none
 else none
def gX(C:Cfg) (run:FuncId->LA->H->Option (AV × H)) (cf:FuncId):Nat->Code->PT->H->Option (Ex × PT × H)
 |0,_,_,_=>none
 |n+1,c,s,h=>match c with
  |.skip=>some (.normal,s,h)
  |.region id ops draw=>if(draw&&C.mix cf id)=true then(match xi C run cf ops s h with
   |some (s',h')=>some (.normal,s',h')
   |none=>none)else match gF C run cf ops ops.toList s h with
   |some (s',h')=>if pw C run cf ops draw s h then some (.normal,s',h')else none
   |none=>none
  |.seq a b=>match gX C run cf n a s h with
   |some (.normal,s',h')=>gX C run cf n b s' h'
   |r=>r
  |.cond c a b=>match ev s c with
   |some (.bool true)=>gX C run cf n a s h
   |some (.bool false)=>gX C run cf n b s h
   |_=>none
  |.block id b=>match gX C run cf n b s h with
   |some (.exit i,s',h')=>if i=id then some (.normal,s',h')else some (.exit i,s',h')
   |r=>r
  |.loop b=>match gX C run cf n b s h with
   |some (.normal,s',h')=>gX C run cf n (.loop b) s' h'
   |r=>r
  |.exit id=>some (.exit id,s,h)
  |.ret=>some (.ret,s,h)
  |.rangeFunc g ps assign body=>match ev s g,C.P.funcs[cf]? with
   |some (.func gf cap),some fn=>
    if dl C.P gf then
     match run gf (.yield h.length::cap) (h++[.loop ⟨cf,s,fn.ntmps,ps,assign,body⟩ .ready])with
     |some (_,h')=>match h'[h.length]? with
      |some (.loop L .ready)=>some (.normal,s,h'.set h.length (.loop L .over))
      |some (.loop L (.done e))=>some (e,s,h'.set h.length (.loop L .over))
      |_=>none
     |none=>none
    else none
   |_,_=>none
  |_=>none
def AF(C:Cfg) (run:FuncId->LA->H->Option (AV × H)) (n i:Nat) (args:LA) (h:H):Option (AV × H):=
 match h[i]? with
 |some (.loop L .ready)=>
  if args.length=L.ps.size/\L.ps.all (λp=>decide (p<L.n))/\gi C L.cf L.n true L.assign/\gi C L.cf L.n true L.body then
   match gX C run L.cf n L.assign (EE (L.ps.toList.zip args) L.s) h with
   |some (.normal,s1,h1)=>match h1[i]? with
    |some (.loop L1 .ready)=>match gX C run L.cf n L.body s1 (h1.set i (.loop L1 .busy))with
     |some (e,_,h2)=>match h2[i]? with
      |some (.loop L2 .busy)=>match e with
       |.normal=>some (.bool true,h2.set i (.loop L2 .ready))
       |e=>some (.bool false,h2.set i (.loop L2 (.done e)))
      |_=>none
     |none=>none
    |_=>none
   |_=>none
  else none
 |_=>none
def dP:Nat->LA->PT->PT
 |_,[],s=>s
 |i,v::r,s=>dP (i+1) r (s.set i v)
def cO(P:Program) (s:PT) (h:H):ResultVar->Option AV
 |.tmp t=>some (s.get t)
 |.cell a t=>aJ P h t (s.get a)
def gk(P:Program) (s:PT) (h:H):List ResultVar->Option (LA)
 |[]=>some []
 |x::r=>match cO P s h x,gk P s h r with
  |some a,some l=>some (a::l)
  |_,_=>none
def ag(P:Program) (s:PT) (h:H) (l:List ResultVar):Option AV:=
 match l with
 |[x]=>cO P s h x
 |l=>match gk P s h l with
  |some vs=>some (.tuple vs)
  |none=>none
def fM(C:Cfg):Nat->FuncId->LA->H->Option (AV × H)
 |0,_,_,_=>none
 |n+1,f,args,h=>match C.P.funcs[f]? with
  |none=>if yb C.P<=f then AF C (fM C n) n (f-yb C.P) args h else none
  |some fn=>match C.prim f args h with
   |some z=>some z
   |none=>match fn.body with
    |none=>none
    |some c=>
     if gi C f fn.ntmps false c/\args.length<=fn.ntmps then
      match gX C (fM C n) f n c (dP 0 args .leaf) h with
      |some (.normal,s,h')|some (.ret,s,h')=>match ag C.P s h' fn.results.toList with
       |some v=>some (v,h')
       |none=>none
      |_=>none
     else none
end Go.V
