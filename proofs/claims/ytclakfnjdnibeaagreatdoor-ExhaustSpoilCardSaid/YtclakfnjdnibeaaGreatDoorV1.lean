/- A part of the proof. -/
import Derived.Orders
import Derived.Laws.AppendOwn
import Derived.Laws.Slices
import Derived.Below
import Derived.KernelRfl
theorem o_ {p:Prop}(h:p:=by omega):p:=h
theorem s_ {p:Prop}(h:p:=by simp):p:=h
theorem k_ {p:Prop}(h:p:=by kernel_rfl):p:=h
theorem d_ {p:Prop}(h:p:=by decide):p:=h
theorem g_ {p:Prop}(h:p:=by simp[go_sem]<;>assumption):p:=h
abbrev aA:=@Option.some.injEq
abbrev aB:=@List.getElem?_eq_some_iff
abbrev aC:=@List.getElem?_eq_getElem
abbrev aD:=@Prod.mk.injEq
abbrev aE:=@List.getElem?_set_ne
abbrev aF:=@List.getElem_mem
abbrev aG:=@List.length_cons
abbrev aH:=@List.getElem?_set_self
abbrev aI:=@List.drop_eq_getElem_cons
abbrev aJ:=@List.take_succ_eq_append_getElem
abbrev aL:=@List.length_append
abbrev aN:=@Nat.zero_le
abbrev aO:=@Array.getElem?_eq_some_iff
abbrev aP:=@List.getElem?_append_left
abbrev aQ:=@List.length_nil
abbrev aR:=@Nat.le_refl
abbrev aS:=@List.map_cons
abbrev aT:=@Array.getElem?_eq_getElem
abbrev aU:=@List.length_map
abbrev ac:=@List.mem_append
abbrev ae:=@List.drop_length
abbrev ag:=@List.length_take
abbrev ah:=@List.take_length
abbrev ai:=@List.mem_of_getElem?
abbrev aj:=@List.getElem?_append_right
abbrev am:=@Bool.and_eq_true
abbrev ao:=@List.mem_cons
abbrev aw:=@Bool.false_eq_true
abbrev bA:=@Array.getD_eq_getD_getElem?
abbrev bD:=@List.map_nil
abbrev bI:=@List.all_eq_true
abbrev bJ:=@List.mem_singleton
abbrev bK:=@List.getD_eq_getElem?_getD
abbrev bM:=@Array.getElem?_toList
abbrev bR:=@List.mem_flatMap
abbrev bV:=@List.mem_map
abbrev bW:=@List.mem_of_mem_take
abbrev bZ:=@List.mem_cons_of_mem
abbrev ba:=@List.getElem?_map
abbrev be:=@List.getElem?_cons_zero
abbrev bg:=@List.getElem_of_mem
abbrev bk:=@List.nil_append
abbrev bm:=@List.append_nil
abbrev bo:=@Bool.or_eq_true
abbrev bq:=@Option.map_some
abbrev br:=@List.map_append
abbrev bt:=@List.eq_nil_of_length_eq_zero
abbrev bw:=@List.cons.injEq
abbrev cE:=@List.getElem?_drop
abbrev cF:=@List.flatMap_cons
abbrev cH:=@Nat.zero_add
abbrev cJ:=@List.mem_cons_self
abbrev cK:=@List.getElem?_eq_none
abbrev cN:=@Bool.not_eq_true'
abbrev cO:=@List.mem_filter
abbrev cP:=@List.cons_append
abbrev cQ:=@Nat.mul_le_mul_right
abbrev cR:=@List.pairwise_cons
abbrev cS:=@List.getElem?_take
abbrev cT:=@Array.getElem?_append_left
abbrev cU:=@List.ext_getElem?
abbrev cV:=@Option.map_eq_some_iff
abbrev cW:=@Nat.le_trans
abbrev cn:=@Option.bind_some
abbrev cq:=@List.take_of_length_le
abbrev cy:=@List.not_mem_nil
abbrev dA:=@List.length_filter_le
abbrev dB:=@List.getElem?_toArray
abbrev dC:=@Option.isSome_iff_exists
abbrev dE:=@List.mem_of_mem_drop
abbrev dH:=@List.getElem?_cons_succ
abbrev dJ:=@List.length_drop
abbrev dL:=@List.take_append_getElem
abbrev dN:=@List.mem_append_left
abbrev dO:=@List.drop_zero
abbrev dR:=@Array.length_toList
abbrev dV:=@List.take_append_of_le_length
abbrev de:=@List.mem_append_right
abbrev df:=@Nat.add_zero
abbrev dh:=@List.take_succ_cons
abbrev dl:=@List.drop_succ_cons
abbrev dq:=@List.getElem?_set
abbrev dt:=@List.all_cons
abbrev du:=@Bool.not_true
abbrev eG:=@Nat.lt_of_lt_of_le
abbrev eH:=@List.drop_of_length_le
abbrev eK:=@List.of_mem_zip
abbrev eL:=@List.mem_range
abbrev eO:=@List.getElem?_range
abbrev eP:=@List.flatMap_append
abbrev eX:=@List.size_toArray
abbrev eY:=@Array.all_eq_true_iff_forall_mem
abbrev ee:=@Bool.true_and
abbrev ey:=@Nat.le_max_right
abbrev fD:=@Nat.add_mul
abbrev fE:=@Int.toNat_natCast
abbrev fF:=@List.take_append_drop
abbrev fG:=@List.mem_iff_getElem?
abbrev fN:=@Nat.le_max_left
abbrev fO:=@Bool.eq_iff_iff
abbrev fW:=@Int.eq_ofNat_of_zero_le
abbrev fe:=@Nat.add_assoc
abbrev fo:=@List.take_zero
abbrev fq:=@Array.getElem?_eq_none
abbrev gG:=@List.foldl_cons
abbrev gW:=@Nat.succ_mul
abbrev gb:=@Bool.or_eq_false_iff
abbrev gc:=@Bool.and_assoc
abbrev gk:=@List.pairwise_map
abbrev gl:=@List.count_append
abbrev gq:=@Nat.mod_lt
abbrev iA:=@Array.getElem?_append_right
abbrev iF:=@List.sum_cons
abbrev iG:=@List.map_toArray
abbrev iP:=@List.filter_append
abbrev iQ:=@Bool.false_and
abbrev iR:=@Array.getElem?_map
abbrev iS:=@Array.extract_size
abbrev iZ:=@List.pairwise_iff_getElem
abbrev iv:=@Nat.lt_or_ge
abbrev iw:=@List.getElem?_modify
abbrev iy:=@Bool.not_eq_false
abbrev iz:=@Bool.eq_false_iff
abbrev jH:=@Array.getElem?_replicate
abbrev jJ:=@Array.getElem?_setIfInBounds_ne
abbrev jO:=@List.replicate_succ
abbrev ja:=@List.filter_cons_of_pos
abbrev jb:=@List.filter_cons
abbrev jw:=@Nat.le_of_lt
abbrev jx:=@List.map_map
abbrev jy:=@Array.foldl_toList
abbrev jz:=@Array.empty_append
abbrev kJ:=@Bool.and_eq_false_iff
abbrev kN:=@List.mem_range'_1
abbrev kO:=@Array.getElem?_setIfInBounds_self_of_lt
abbrev kh:=@List.mem_iff_getElem
abbrev kj:=@List.getElem?_append
abbrev lD:=@Nat.mul_comm
abbrev lG:=@Nat.mul_le_mul_left
abbrev lH:=@List.mem_map_of_mem
abbrev lI:=@List.map_congr_left
abbrev lT:=@List.getElem?_take_of_lt
abbrev ld:=@List.length_set
abbrev lw:=@Option.isSome_none
abbrev mA:=@List.zip_cons_cons
abbrev mL:=@List.filter_cons_of_neg
abbrev mc:=@List.sum_replicate_nat
abbrev mf:=@List.findIdx_lt_length_of_exists
abbrev mg:=@ByteArray.data_extract
abbrev mj:=@Array.size_append
abbrev ml:=@Array.getElem?_push_lt
abbrev mw:=@Array.mem_of_getElem?
abbrev my:=@Array.getElem?_modify
abbrev mz:=@Array.getElem?_mapIdx
abbrev nT:=@Option.getD_some
abbrev nU:=@List.zipIdx_cons
abbrev nV:=@List.any_eq_true
abbrev ng:=@Bool.false_or
abbrev oC:=@Nat.mul_one
abbrev oD:=@List.getElem_toArray
abbrev oE:=@Array.getElem_toList
abbrev oJ:=@Nat.min_eq_left
abbrev oK:=@List.set_append
abbrev oL:=@List.nodup_cons
abbrev oM:=@List.all_append
abbrev oQ:=@List.length_pos_iff
abbrev oR:=@List.length_flatten
abbrev oS:=@List.filter_sublist
abbrev oe:=@Nat.mul_zero
abbrev pX:=@List.mem_replicate
abbrev pY:=@List.map_replicate
abbrev pZ:=@List.contains_cons
abbrev pc:=@Array.ext_getElem?
abbrev qH:=@Nat.mul_add
abbrev qZ:=@List.map_take
abbrev qa:=@List.any_cons
namespace Go.V
open Go
inductive Ext where
 |unk|full|tok (t:Nat)
 deriving DecidableEq,Inhabited
inductive AV where
 |bool (b:Bool)
 |int (k:IntKind) (n:Int)
 |str (s:ByteArray)
 |nilptr
 |ptr (id off:Nat)
 |iptr (e:AV) (off:Nat)
 |isl (elems:List AV) (x:Ext)
 |msl (id off sz len:Nat) (cap:Option Nat)
 |nilmap
 |nilFunc
 |func (f:FuncId) (captured:List AV)
 |nilIface
 |iface (t:TypeId) (v:AV)
 |agg (cells:List AV)
 |tuple (vs:List AV)
 |yield (i:Nat)
 |mp (id:Nat)
 deriving Inhabited
abbrev LA:=List AV
def AV.undef:AV:=.tuple []
def AV.cells:AV->LA
 |.agg cs=>cs
 |v=>[v]
def AV.one:AV->Bool
 |.agg _ | .tuple _=>false
 |_=>true
inductive PT where
 |leaf
 |node (l:PT) (v:AV) (r:PT)
def PT.get:PT->Nat->AV
 |.leaf,_=>AV.undef
 |.node _ v _,0=>v
 |.node l _ r,n+1=>if n%2=0 then l.get (n/2)else r.get (n/2)
def PT.setF:Nat->PT->Nat->AV->PT
 |0,t,_,_=>t
 |_+1,.leaf,0,v=>.node .leaf v .leaf
 |_+1,.node l _ r,0,v=>.node l v r
 |f+1,.leaf,n+1,v=>if n%2=0 then .node (setF f .leaf (n/2) v) AV.undef .leaf else .node .leaf AV.undef (setF f .leaf (n/2) v)
 |f+1,.node l u r,n+1,v=>if n%2=0 then .node (setF f l (n/2) v) u r else .node l u (setF f r (n/2) v)
def PT.set(t:PT) (n:Nat) (v:AV):PT:=PT.setF (n+1) t n v
inductive OSt where
 |live|frozen|dead
 deriving DecidableEq,Inhabited
inductive Ex where
 |normal|exit (id:Nat)|ret
 deriving DecidableEq
inductive LSt where
 |ready|busy|done (e:Ex)|over
 deriving DecidableEq
structure LoopV where
 cf:FuncId
 s:PT
 n:Nat
 ps:Array Tmp
 assign:Code
 body:Code
inductive VObj where
 |cells (cs:LA) (st:OSt)
 |tok (used:Nat) (ty:TypeId)
 |loop (L:LoopV) (st:LSt)
 |map (es:List (AV × AV))
 |void
instance:Inhabited VObj:=⟨.tok 0 0⟩
def VObj.gone:VObj->Bool
 |.cells _ .dead=>true
 |.loop _ .over=>true
 |.void=>true
 |_=>false
abbrev H:=List VObj
def db:Value->Option AV
 |.bool b=>some (.bool b)
 |.int k n=>some (.int k n)
 |.string s=>some (.str s)
 |.pointer none=>some .nilptr
 |.slice none 0 0=>some (.isl [] .full)
 |.map none=>some .nilmap
 |.nilFunc=>some .nilFunc
 |.nilIface=>some .nilIface
 |_=>none
def AL:List Value->Option (LA)
 |[]=>some []
 |v::r=>match db v,AL r with
  |some a,some l=>some (a::l)
  |_,_=>none
def eC:Value->Option AV
 |.agg cs=>match AL cs.toList with
  |some l=>some (.agg l)
  |none=>none
 |v=>db v
def cw:AV->Option Value
 |.bool b=>some (.bool b)
 |.int k n=>some (.int k n)
 |.str s=>some (.string s)
 |.nilptr=>some (.pointer none)
 |.nilmap=>some (.map none)
 |.nilFunc=>some .nilFunc
 |.nilIface=>some .nilIface
 |_=>none
def toList:LA->Option (List Value)
 |[]=>some []
 |v::r=>match cw v,toList r with
  |some a,some l=>some (a::l)
  |_,_=>none
def fH:AV->Option Value
 |.agg cs=>match toList cs with
  |some l=>some (.agg l.toArray)
  |none=>none
 |v=>cw v
def dI{α:Type}(P:Program):Sem α->Option α
 |.pure a=>some a
 |.program k=>dI P (k P)
 |_=>none
def fJ(P:Program) (t:TypeId):Option Bool:=
 match P.underlying t with
 |some (.struct _)|some (.array _ _)=>some true
 |some _=>some false
 |none=>none
def cr(P:Program) (t:TypeId):Option Nat:=(P.info? t).map (·.size)
def aZ(P:Program) (t:TypeId) (cs:LA) (off:Nat):Option AV:=
 match fJ P t,cr P t with
 |some true,some n=>if off+n<=cs.length then some (.agg ((cs.drop off).take n))else none
 |some false,some _=>cs[off]?
 |_,_=>none
def tT(g:Nat):Option AV:=if g=1 then some (.agg ((List.range 20).map λi=>.int .u64 ((10 ^ i:Nat):Int)))else none
def wO(g:Nat):Option Nat:=if g=1 then some 20 else none
def ev(s:PT):Operand->Option AV
 |.tmp t=>some (s.get t)
 |.const v=>eC v
 |.global g=>(tT g).map λa=>.iptr a 0
 |.func f=>some (.func f [])
def evs(s:PT):List Operand->Option (LA)
 |[]=>some []
 |x::r=>match ev s x,evs s r with
  |some a,some l=>some (a::l)
  |_,_=>none
def CH:Operand->Bool
 |.const (.slice none 0 0)=>true
 |_=>false
def aA0:AV->Bool
 |.ptr _ _ | .iptr _ _=>true
 |_=>false
def zj:AV->Bool
 |.isl es _=>!es.isEmpty
 |.msl _ _ _ _ _=>true
 |_=>false
def Q4(P:Program) (t:TypeId):Bool:=match P.underlying t with
 |some (.slice _)=>true
 |_=>false
def xi:BinOp->Option Bool
 |.eql=>some false
 |.neq=>some true
 |_=>none
def rR(P:Program) (op:BinOp) (t:TypeId) (y:Operand) (a:AV):Option AV:=
 if CH y&&zj a&&Q4 P t then(xi op).map AV.bool else none
def iN(P:Program) (op:BinOp) (t:TypeId) (x y:Operand) (a b:AV):Option AV:=
 match fH a,fH b with
 |some u,some v=>match dI P (do eqGuard op t x y u v;binOp op t u v)with
  |some r=>eC r
  |none=>none
 |_,_=>match op,a,b with
  |.eql,.nilptr,.ptr _ _ | .eql,.nilptr,.iptr _ _ | .eql,.ptr _ _,.nilptr | .eql,.iptr _ _,.nilptr=>
   match P.underlying t with
   |some (.pointer _)=>some (.bool false)
   |_=>none
  |.neq,.nilptr,.ptr _ _ | .neq,.nilptr,.iptr _ _ | .neq,.ptr _ _,.nilptr | .neq,.iptr _ _,.nilptr=>
   match P.underlying t with
   |some (.pointer _)=>some (.bool true)
   |_=>none
  |_,_,_=>rR P op t y a
def unV(P:Program) (op:UnOp) (a:AV):Option AV:=
 match fH a with
 |some u=>match dI P (Op.unary op u)with
  |some r=>eC r
  |none=>none
 |none=>none
def Ai(P:Program) (src dst:TypeId) (a:AV):Option AV:=
 match fH a with
 |some u=>match dI P (convert src dst u)with
  |some r=>eC r
  |none=>none
 |none=>none
def Fs:LA->Option (List Int)
 |[]=>some []
 |.int .u8 n::r=>match Fs r with
  |some l=>some (n::l)
  |none=>none
 |_=>none
def TB(ns:List Int):ByteArray:=ns.foldl (λr n=>r.push (UInt8.ofNat n.toNat)) ByteArray.empty
def wa(P:Program) (src dst:TypeId) (es:LA):Option AV:=
 match P.underlying src,P.underlying dst with
 |some (.slice e),some .string=>match P.underlying e,Fs es with
  |some (.int .u8),some ns=>some (.str (TB ns))
  |_,_=>none
 |_,_=>none
def CO(Ih:Nat->Option (Nat × Nat)) (cells:LA):List (Nat × AV)->Option (LA)
 |[]=>some cells
 |(i,v)::rest=>
  match Ih i with
  |none=>none
  |some (off,size)=>if v.cells.length=size/\off+size<=cells.length then CO Ih (cells.take off++v.cells++cells.drop (off+size)) rest else none
def mK(P:Program) (t:TypeId) (i:Nat):Option (Nat × Nat):=
 match P.underlying t with
 |some (.struct fields)=>match fields[i]? with
  |some f=>match cr P f.type with
   |some n=>some (f.offset,n)
   |none=>none
  |none=>none
 |_=>none
def bf:AV->Bool
 |.tuple _=>false
 |_=>true
def iH(P:Program) (t:TypeId):Option AV:=
 match P.info? t with
 |some i=>match i.zero with
  |some v=>match eC v with
   |some a=>if a.cells.length=i.size then some a else none
   |none=>none
  |none=>none
 |none=>none
def gJ(s:PT):List (Nat × Operand)->Option (List (Nat × AV))
 |[]=>some []
 |(i,x)::r=>match ev s x,gJ s r with
  |some a,some l=>if bf a then some ((i,a)::l)else none
  |_,_=>none
def px(P:Program):List Field->Bool
 |[]=>true
 |f::r=>(P.info? f.type).isSome&&px P r
def fK(P:Program) (t:TypeId) (parts:List (Nat × AV)):Option AV:=
 match P.underlying t with
 |some (.struct fields)=>if px P fields.toList then
   match iH P t with
   |some (.agg z)=>match CO (mK P t) z parts with
    |some cs=>some (.agg cs)
    |none=>none
   |_=>none
  else none
 |some (.array _ elem)=>match iH P t,cr P elem with
  |some (.agg z),some n=>match CO (λi=>some (i*n,n)) z parts with
   |some cs=>some (.agg cs)
   |none=>none
  |_,_=>none
 |_=>none
def asI:AV->Option Int
 |.int _ n=>some n
 |_=>none
def gn(n:Nat):LA->Bool
 |[]=>true
 |e::_=>e.cells.length==n
def bH(P:Program) (t:TypeId) (x i:AV):Option AV:=
 match P.underlying t,x,i with
 |some (.slice elem),.isl es _,.int _ n=>match cr P elem with
  |some sz=>if 0<=n/\n<es.length then match es[n.toNat]? with
    |some e=>if e.cells.length=sz then some (.iptr e 0)else none
    |none=>none
   else none
  |none=>none
 |some (.slice elem),.msl id off sz len _,.int _ n=>if cr P elem=some sz/\0<=n/\n<len then some (.ptr id (off+n.toNat*sz))else none
 |some (.array len elem),.ptr id off,.int _ n=>match cr P elem with
  |some sz=>if 0<=n/\n<len then some (.ptr id (off+n.toNat*sz))else none
  |none=>none
 |some (.array len elem),.iptr e off,.int _ n=>match cr P elem with
  |some sz=>if 0<=n/\n<len then some (.iptr e (off+n.toNat*sz))else none
  |none=>none
 |_,_,_=>none
def bF(P:Program) (s:TypeId) (x:AV) (f:Nat):Option AV:=
 match mK P s f with
 |some (o,n)=>if n=0 then none else match x with
  |.ptr id off=>some (.ptr id (off+o))
  |.iptr e off=>some (.iptr e (off+o))
  |_=>none
 |none=>none
def Ab(P:Program) (s:TypeId) (x:AV) (f:Nat):Option AV:=
 match P.underlying s,x with
 |some (.struct fields),.agg cs=>match fields[f]? with
  |some fd=>aZ P fd.type cs fd.offset
  |none=>none
 |_,_=>none
def tR(P:Program) (t:TypeId) (x i:AV):Option AV:=
 match x,i with
 |.agg cs,.int _ n=>match P.underlying t with
  |some (.array len elem)=>match cr P elem with
   |some sz=>if 0<=n/\n<len then aZ P elem cs (n.toNat*sz)else none
   |none=>none
  |_=>none
 |.str s,.int k n=>match dI P (Instr.index t (.string s) (.int k n))with
  |some r=>eC r
  |none=>none
 |_,_=>none
def qy(limit:Nat):AV->Option Nat
 |.int _ n=>if 0<=n/\n<=limit then some n.toNat else none
 |_=>none
def mb(limit dflt:Nat):Option AV->Option Nat
 |none=>some dflt
 |some v=>qy limit v
def fP(P:Program) (t:TypeId) (x:AV) (lo hi mx:Option AV):Option AV:=
 match P.underlying t,x,mx with
 |some (.slice elem),.isl es e,none=>match cr P elem,mb es.length es.length hi with
  |some sz,some h=>match mb h 0 lo with
   |some l=>if !gn sz es then none else
     if l=0/\h=es.length then some (.isl es e)
     else some (.isl ((es.take h).drop l) (if e=.full/\h=es.length then .full else .unk))
   |none=>none
  |_,_=>none
 |some (.slice elem),.isl es _,some m=>match cr P elem,qy es.length m with
  |some sz,some m=>match hi with
   |none=>none
   |some hv=>match qy m hv with
    |some h=>match mb h 0 lo with
     |some l=>if !gn sz es then none else some (.isl ((es.take h).drop l) (if m=h then .full else .unk))
     |none=>none
    |none=>none
  |_,_=>none
 |some (.slice elem),.msl id off sz len cap,none=>if cr P elem=some sz then
   match mb len len hi with
   |some h=>match mb h 0 lo with
    |some l=>match cap with
     |some c=>some (.msl id (if c=l then off else off+l*sz) sz (h-l) (some (c-l)))
     |none=>if l=0 then some (.msl id off sz h none)else if l<len then some (.msl id (off+l*sz) sz (h-l) none)else some (.isl [] .unk)
    |none=>none
   |none=>none
  else none
 |some (.slice elem),.msl id off sz len _,some m=>if cr P elem=some sz then
   match qy len m with
   |some m=>match hi with
    |none=>none
    |some hv=>match qy m hv with
     |some h=>match mb h 0 lo with
      |some l=>if m=l then some (.isl [] .full)else some (.msl id (off+l*sz) sz (h-l) (some (m-l)))
      |none=>none
     |none=>none
   |none=>none
  else none
 |some .string,.str s,none=>match mb s.size s.size hi with
  |some h=>match mb h 0 lo with
   |some l=>some (.str (s.extract l h))
   |none=>none
  |none=>none
 |_,_,_=>none
def fB(P:Program) (t:TypeId) (x:AV):Option AV:=
 match P.underlying t,x with
 |some (.slice _),.isl es _=>some (.int .i64 es.length)
 |some (.slice _),.msl _ _ _ len _=>some (.int .i64 len)
 |some .string,.str s=>some (.int .i64 s.size)
 |some (.array n _),_=>some (.int .i64 n)
 |_,_=>none
def Vc(P:Program) (t:TypeId) (x:AV):Option AV:=
 match P.underlying t,x with
 |some (.slice _),.isl es .full=>some (.int .i64 es.length)
 |some (.slice _),.msl _ _ _ _ (some c)=>some (.int .i64 c)
 |_,_=>none
def rV(P:Program) (mx:Bool) (args:LA):Option AV:=
 match toList args with
 |some us=>match dI P (if mx then Builtin.max_ #[] 0 us.toArray else Builtin.min_ #[] 0 us.toArray)with
  |some r=>eC r
  |none=>none
 |none=>none
def opN(P:Program) (s:PT) (o:Oper):Option AV:=
 match o.op with
 |.move x | .assign x=>ev s x
 |.pick c a b=>match ev s c with
  |some (.bool true)=>ev s a
  |some (.bool false)=>ev s b
  |_=>none
 |.build t parts=>match gJ s parts.toList with
  |some l=>fK P t l
  |none=>none
 |.nilCheck x=>match ev s x with
  |some (.ptr i n)=>some (.ptr i n)
  |some (.iptr e n)=>some (.iptr e n)
  |some (.func f c)=>some (.func f c)
  |_=>none
 |.binOp op t x y _=>match ev s x,ev s y with
  |some a,some b=>iN P op t x y a b
  |_,_=>none
 |.unOp op _ x=>match ev s x with
  |some a=>unV P op a
  |none=>none
 |.convert src dst x=>match ev s x with
  |some (.isl es _)=>wa P src dst es
  |some a=>Ai P src dst a
  |none=>none
 |.makeInterface t x=>match P.underlying t,ev s x with
  |some (.interface _),_=>none
  |some _,some a=>if bf a then some (.iface t a)else none
  |_,_=>none
 |.makeFunc (.func f) first captured=>if first.isEmpty then match evs s captured.toList with
   |some l=>some (.func f l)
   |none=>none
  else none
 |.slice t x lo hi mx=>match ev s x with
  |none=>none
  |some a=>match lo.map (ev s),hi.map (ev s),mx.map (ev s)with
   |some none,_,_|_,some none,_|_,_,some none=>none
   |l,h,m=>fP P t a (l.bind id) (h.bind id) (m.bind id)
 |.fieldAddr t x f=>match ev s x with
  |some a=>bF P t a f
  |none=>none
 |.field t x f=>match ev s x with
  |some a=>Ab P t a f
  |none=>none
 |.indexAddr t x i=>match ev s x,ev s i with
  |some a,some b=>bH P t a b
  |_,_=>none
 |.index t x i=>match ev s x,ev s i with
  |some a,some b=>tR P t a b
  |_,_=>none
 |.extract x i=>match ev s x with
  |some (.tuple l)=>l[i]?
  |_=>none
 |.call {callee:=.builtin .len,args,argTypes}=>match args.toList,argTypes.toList with
  |[x],[t]=>match ev s x with
   |some a=>fB P t a
   |none=>none
  |_,_=>none
 |.call {callee:=.builtin .cap,args,argTypes}=>match args.toList,argTypes.toList with
  |[x],[t]=>match ev s x with
   |some a=>Vc P t a
   |none=>none
  |_,_=>none
 |.call {callee:=.builtin .min,args,..}=>match evs s args.toList with
  |some l=>rV P false l
  |none=>none
 |.call {callee:=.builtin .max,args,..}=>match evs s args.toList with
  |some l=>rV P true l
  |none=>none
 |_=>none
def aW(P:Program) (h:H) (t:TypeId):AV->Option AV
 |.ptr id off=>match h[id]? with
  |some (.cells cs .live)|some (.cells cs .frozen)=>aZ P t cs off
  |_=>none
 |.iptr e off=>aZ P t e.cells off
 |_=>none
def cL(P:Program) (h:H) (t:TypeId) (a v:AV):Option H:=
 match a with
 |.ptr id off=>match h[id]?,cr P t with
  |some (.cells cs .live),some n=>match v with
   |.tuple _=>none
   |.agg vs=>if vs.length=n/\off+n<=cs.length then some (h.set id (.cells (cs.take off++vs++cs.drop (off+n)) .live))else none
   |v=>if n=1/\off<cs.length then some (h.set id (.cells (cs.set off v) .live))else none
  |_,_=>none
 |_=>none
mutual
def fc(h:H):Nat->AV->Option AV
 |0,_=>none
 |n+1,v=>match v with
  |.isl es _=>some (.isl es .unk)
  |.ptr id off=>match h[id]? with
   |some (.cells cs .frozen)=>match gE h n cs with
    |some l=>some (.iptr (.agg l) off)
    |none=>none
   |_=>none
  |.msl id off sz len _=>match h[id]? with
   |some (.cells cs .frozen)=>match gE h n cs with
    |some l=>if off+len*sz<=l.length/\0<sz then some (.isl (io sz len (l.drop off)) .unk)else none
    |none=>none
   |_=>none
  |.func f c=>match gE h n c with
   |some l=>some (.func f l)
   |none=>none
  |.iface t v=>match fc h n v with
   |some u=>some (.iface t u)
   |none=>none
  |.agg cs=>match gE h n cs with
   |some l=>some (.agg l)
   |none=>none
  |.tuple vs=>match gE h n vs with
   |some l=>some (.tuple l)
   |none=>none
  |.yield _ | .mp _=>none
  |v=>some v
def gE(h:H):Nat->LA->Option (LA)
 |0,_=>none
 |_+1,[]=>some []
 |n+1,v::r=>match fc h n v,gE h n r with
  |some a,some l=>some (a::l)
  |_,_=>none
def io(sz:Nat):Nat->LA->LA
 |0,_=>[]
 |n+1,cs=>(match sz,cs with|1,c::_=>c|_,_=>.agg (cs.take sz))::io sz n (cs.drop sz)
end
inductive Mode where
 |strip|ownT|ownM|openH|openQ|openF
 deriving DecidableEq,Inhabited
structure Cfg where
 P:Program
 mode:FuncId->Mode
 wr:FuncId->Tmp->Bool
 prim:FuncId->LA->H->Option (AV × H):=λ_ _ _=>none
 ext:FuncId->Array Value->Option Value:=λ_ _=>none
 mix:FuncId->Nat->Bool:=λ_ _=>false
 cut:FuncId->Nat->Option Nat:=λ_ _=>none
 extOk:∀f vs v (w:World),ext f vs=some v->(callFunc f vs).run P w=.ok (.value v) w:=by intro _ _ _ _ h;cases h
def dD:Nat:=1000000
mutual
def iW(h:H):Nat->AV->List Nat
 |0,_=>[]
 |n+1,v=>match v with
  |.ptr id _ | .msl id _ _ _ _=>id::(match h[id]? with|some (.cells cs _)=>cY h n cs|_=>[])
  |.func _ c=>cY h n c
  |.iface _ u=>iW h n u
  |.agg cs=>cY h n cs
  |.tuple vs=>cY h n vs
  |_=>[]
def cY(h:H):Nat->LA->List Nat
 |0,_=>[]
 |_+1,[]=>[]
 |n+1,v::r=>iW h n v++cY h n r
end
def uU(h:H) (i:Nat):H:=match h[i]? with
 |some (.cells cs .live)=>h.set i (.cells cs .frozen)
 |_=>h
def freeze(h:H):List Nat->H
 |[]=>h
 |i::r=>freeze (uU h i) r
def bj:H->H
 |[]=>[]
 |.cells cs .live::r=>.cells cs .frozen::bj r
 |o::r=>o::bj r
def pq(v:AV):Bool:=(fH v).isSome
def Gg:AV->Bool
 |.tuple vs=>vs.all pq
 |v=>pq v
def oU(vs:LA):Bool:=vs.all λv=>(cw v).isSome
def oA(P:Program) (m:Mode) (h1 h:H) (r:AV):Option (AV × H):=
 match r with
 |.isl es (.tok t)=>match h1[t]? with
  |some (.tok used ty)=>
   if used=es.length/\oU es=true/\cr P ty=some 1 then
    (match m with
    |.ownT=>some (.isl es (.tok h.length),h++[.tok used ty])
    |.ownM=>match es with
     |[]=>some (.isl [] .unk,h)
     |_=>some (.msl h.length 0 1 es.length none,h++[.cells es .live])
    |_=>none)
   else none
  |_=>none
 |.isl [] .full=>some (.isl [] .full,h)
 |.msl id off sz len _=>match h1[id]? with
  |some (.cells cs .live)=>
   if oU cs=true/\sz=1/\off+len<=cs.length then
    (match m with
    |.ownM=>some (.msl h.length off 1 len none,h++[.cells cs .live])
    |.ownT=>some (.isl ((cs.drop off).take len) .unk,h)
    |_=>none)
   else none
  |_=>none
 |_=>none
def ju(P:Program) (m:Mode) (h1 h:H) (r:AV):Option (AV × H):=
 match r with
 |.tuple (x::rest)=>match oA P m h1 h x with
  |some (x',h')=>if rest.all pq then some (.tuple (x'::rest),h')else none
  |none=>none
 |x=>oA P m h1 h x
def Hd:AV->Option AV
 |.isl es _=>some (.isl es .unk)
 |.ptr _ _ | .msl _ _ _ _ _ | .func _ _ | .iface _ _ | .agg _ | .tuple _ | .yield _ | .mp _=>none
 |v=>some v
def qD:LA->Option (LA)
 |[]=>some []
 |v::r=>match Hd v,qD r with
  |some a,some l=>some (a::l)
  |_,_=>none
def nJ(h:H) (i:Nat):H:=match h[i]? with
 |some x=>(bj h).set i x
 |none=>h
def lF(h1 h2:H) (r:AV):Option (AV × H):=
 match r with
 |.msl id off sz len _=>match h1[id]? with
  |some (.cells cs .live)=>match gE (nJ h1 id) dD cs with
   |some cs'=>if 0<sz/\off+len*sz<=cs.length then some (.msl h2.length off sz len none,h2++[.cells cs' .live])else none
   |none=>none
  |_=>none
 |_=>none
def jZ(m:Mode) (h1 h2:H) (r:AV):Option (AV × H):=
 match m,r with
 |.ownM,.tuple [x,y]=>if pq y then match lF h1 h2 x with
   |some (x',h')=>some (.tuple [x',y],h')
   |none=>none
  else none
 |.ownM,x=>lF h1 h2 x
 |_,_=>none
def lg(r:AV) (h1 h h2:H):Option (AV × H):=
 match fc (bj h1) dD r with
 |some r'=>some (r',if Gg r' then h else h2)
 |none=>none
def ky(P:Program) (m:Mode) (r:AV) (h1 h h2:H):Option (AV × H):=
 match m with
 |.ownT | .ownM=>match ju P m h1 h r with
  |some z=>some z
  |none=>match jZ m h1 h2 r with
   |some z=>some z
   |none=>lg r h1 h h2
 |_=>lg r h1 h h2
mutual
def AV.same:AV->AV->Bool
 |.bool a,.bool b=>a==b
 |.int k a,.int l b=>decide (k=l)&&decide (a=b)
 |.str a,.str b=>decide (a=b)
 |.nilptr,.nilptr=>true
 |.ptr a b,.ptr c d=>decide (a=c)&&decide (b=d)
 |.iptr e o,.iptr f p=>AV.same e f&&decide (o=p)
 |.isl es x,.isl fs y=>AV.sames es fs&&decide (x=y)
 |.msl a b c d e,.msl a' b' c' d' e'=>decide (a=a')&&decide (b=b')&&decide (c=c')&&decide (d=d')&&decide (e=e')
 |.nilmap,.nilmap=>true
 |.nilFunc,.nilFunc=>true
 |.func f cs,.func g ds=>decide (f=g)&&AV.sames cs ds
 |.nilIface,.nilIface=>true
 |.iface t v,.iface u x=>decide (t=u)&&AV.same v x
 |.agg cs,.agg ds=>AV.sames cs ds
 |.tuple cs,.tuple ds=>AV.sames cs ds
 |.yield i,.yield j=>decide (i=j)
 |.mp i,.mp j=>decide (i=j)
 |_,_=>false
def AV.sames:LA->LA->Bool
 |[],[]=>true
 |a::l,b::m=>AV.same a b&&AV.sames l m
 |_,_=>false
end
def nlB:H->H->Bool
 |[],_=>true
 |.cells cs st::h,.cells ds st2::g=>AV.sames cs ds&&decide (st2=.dead↔st=.dead)&&nlB h g
 |.cells _ _::_,_=>false
 |_::h,_::g=>nlB h g
 |_::h,[]=>nlB h []
def news(h h':H):List Nat:=List.range' h.length (h'.length-h.length)
def dM(C:Cfg) (run:FuncId->LA->H->Option (AV × H)) (f:FuncId) (args:LA) (h:H):Option (AV × H):=
 match C.mode f with
 |.openH=>run f args h
 |.openQ=>match run f args h with
  |some (r,h')=>if nlB h h' then some (r,h')else none
  |none=>none
 |.openF=>match run f args h with
  |some (r,h')=>if nlB h h' then(match fc (freeze h' (news h h')) dD r with
   |some r'=>some (r',freeze h' (news h h'))
   |none=>none)else none
  |none=>none
 |m=>match gE (freeze h (cY h dD args)) dD args with
  |none=>none
  |some as=>match run f as []with
   |none=>none
   |some (r,h1)=>ky C.P m r h1 h (freeze h (cY h dD args))
def lp(h:H):AV->Option (LA)
 |.isl es _=>some es
 |.msl id off sz len _=>match h[id]? with
  |some (.cells cs .live)|some (.cells cs .frozen)=>if off+len*sz<=cs.length/\0<sz/\oU cs=true then some (io sz len (cs.drop off))else none
  |_=>none
 |_=>none
def hG(P:Program) (t:TypeId):Option Nat:=(P.info? t).map (·.bytes)
def gH(P:Program) (t:TypeId):Bool:=match P.info? t with
 |some i=>match i.zero with
  |some z=>z.cells.size==i.size
  |none=>false
 |none=>false
def eV(P:Program) (h:H) (t:TypeId) (s x:AV):Option (AV × H):=
 match P.underlying t with
 |some (.slice elem)=>match cr P elem,hG P elem,lp h x with
  |some sz,some by_,some ys=>
   if !gH P elem||sz==0 || !gn sz ys then none else
   match s with
   |.isl xs e=>
    if !gn sz xs then none
    else if !((xs.length+ys.length)*(by_+1)<=35184372088832)then none
    else match e with
    |.full=>match ys with
     |[]=>some (.isl xs .full,h)
     |_=>some (.isl (xs++ys) (.tok h.length),h++[.tok (xs.length+ys.length) elem])
    |.tok i=>match h[i]? with
     |some (.tok used ty)=>if used=xs.length/\ty=elem then some (.isl (xs++ys) (.tok i),h.set i (.tok (xs.length+ys.length) ty))else none
     |_=>none
    |.unk=>match ys with
     |[]=>some (.isl xs .unk,h)
     |_=>none
   |.msl id off sz' len (some c)=>match h[id]? with
    |some (.cells cs .live)=>
     if sz'=sz/\len+ys.length<=c/\off+(len+ys.length)*sz<=cs.length then
      some (.msl id off sz (len+ys.length) (some c),h.set id (.cells (cs.take (off+len*sz)++ys.flatMap AV.cells++cs.drop (off+(len+ys.length)*sz)) .live))
     else none
    |_=>none
   |_=>none
  |_,_,_=>none
 |_=>none
def qM(h:H) (sz:Nat):AV->Option (LA × Nat)
 |.isl ys _=>if gn sz ys then some (ys.flatMap AV.cells,ys.length)else none
 |.msl id off sz' n _=>match h[id]? with
  |some (.cells cs .live)|some (.cells cs .frozen)=>if sz'=sz/\off+n*sz<=cs.length then some ((cs.drop off).take (n*sz),n)else none
  |_=>none
 |.str s=>if sz=1 then some (s.data.toList.map λb=>.int .u8 b.toNat,s.size)else none
 |_=>none
def fM(P:Program) (h:H) (t:TypeId) (s x:AV):Option (AV × H):=
 match P.underlying t with
 |some (.slice elem)=>match cr P elem,hG P elem with
  |some sz,some by_=>if !gH P elem||sz==0 then none else
   match qM h sz x with
   |some (ys,m)=>match s with
    |.isl xs .full=>if m=0 then some (.isl xs .full,h)
     else if gn sz xs=true/\(xs.length+m)*(by_+1)<=35184372088832 then
      some (.msl h.length 0 sz (xs.length+m) none,h++[.cells (xs.flatMap AV.cells++ys) .live])
     else none
    |.msl id off sz' n c=>if m=0 then some (.msl id off sz' n c,h)
     else match h[id]? with
     |some (.cells cs .live)=>if off=0/\sz'=sz/\n*sz<=cs.length/\(n+m)*(by_+1)<=35184372088832 then
       some (.msl h.length 0 sz (n+m) none,h.set id (.cells cs .dead)++[.cells (cs.take (n*sz)++ys) .live])
      else none
     |_=>none
    |_=>none
   |none=>none
  |_,_=>none
 |_=>none
def ob(P:Program) (h:H) (t:TypeId) (s:AV) (n:Int):Option (AV × H):=
 match P.underlying t,s with
 |some (.slice elem),.isl xs .full=>match cr P elem,hG P elem,iH P elem with
  |some sz,some by_,some z=>if gH P elem=true/\0<sz/\gn sz xs=true/\0<=n/\(xs.length+n.toNat)*(by_+1)<=35184372088832 then
    if n=0 then some (.isl xs .full,h)
    else some (.msl h.length 0 sz (xs.length+n.toNat) none,h++[.cells (xs.flatMap AV.cells++(List.replicate n.toNat z.cells).flatten) .live])
   else none
  |_,_,_=>none
 |_,_=>none
def mX:AV->Bool
 |.msl _ _ _ _ (some _)=>true
 |_=>false
def bu(P:Program) (wr:Bool) (h:H) (t:TypeId) (s x:AV):Option (AV × H):=
 if !wr then eV P h t s x
 else if mX s then(match eV P h t s x with
  |some z=>some z
  |none=>fM P h t s x)
 else match fM P h t s x with
  |some z=>some z
  |none=>eV P h t s x
def Nl(P:Program) (t:TypeId):Bool:=match P.underlying t with
 |some (.int .i64)=>true
 |_=>false
def AP(P:Program) (t:TypeId):Bool:=match P.underlying t with
 |some .string=>true
 |_=>false
def vc(P:Program) (h:H) (t:TypeId) (x:AV):Option H:=match P.underlying t,x with
 |some (.slice _),.isl [] _=>some h
 |some (.slice elem),.msl id off sz len _=>match h[id]?,iH P elem with
  |some (.cells cs .live),some z=>if cr P elem=some sz/\off+len*sz<=cs.length then
    some (h.set id (.cells (cs.take off++(List.replicate len z.cells).flatten++cs.drop (off+len*sz)) .live))else none
  |_,_=>none
 |_,_=>none
def JF(P:Program) (h:H) (t:TypeId) (d x:AV):Option (AV × H):=match P.underlying t,d with
 |some (.slice elem),.msl id off sz len _=>match h[id]?,qM h sz x with
  |some (.cells cs .live),some (ys,m)=>if cr P elem=some sz/\off+len*sz<=cs.length then
    some (.int .i64 (Nat.min m len),h.set id (.cells (cs.take off++ys.take (Nat.min m len*sz)++cs.drop (off+Nat.min m len*sz)) .live))else none
  |_,_=>none
 |_,_=>none
def rn(n:Nat):LA->Bool
 |[]=>true
 |e::r=>e.cells.length==n&&bf e&&rn n r
def cI(P:Program) (h:H) (t:TypeId) (len:Nat) (parts:List (Nat × AV)):Option (AV × H):=
 match P.underlying t with
 |some (.slice elem)=>match cr P elem with
  |some sz=>
   if !gH P elem||sz==0 || !(len*sz<=16777216) || !(parts.map (·.1)==List.range len)then none else
   match gE (freeze h (cY h dD (parts.map (·.2)))) dD (parts.map (·.2))with
   |some es=>if rn sz es then some (.isl es .full,freeze h (cY h dD (parts.map (·.2))))else none
   |none=>none
  |none=>none
 |_=>none
def gN(P:Program) (wr:Bool) (h:H) (t:TypeId) (l c:AV):Option (AV × H):=
 match P.underlying t,l,c with
 |some (.slice elem),.int .i64 l,.int .i64 c=>match cr P elem,hG P elem,iH P elem with
  |some sz,some by_,some z=>
   if sz==0 || !gH P elem || !(0<=l/\l<=c/\c<=1073741824) || !(by_<=4096)then none
   else if l=0/\wr=false then some (.isl [] (.tok h.length),h++[.tok 0 elem])
   else some (.msl h.length 0 sz l.toNat (some c.toNat),h++[.cells ((List.replicate c.toNat z.cells).flatten) .live])
  |_,_,_=>none
 |_,_,_=>none
def ii(P:Program) (t:TypeId):Option TypeId:=match P.underlying t with
 |some (.slice e)=>some e
 |_=>none
def li:List (AV × AV)->Nat->Option (List MapEntry)
 |[],_=>some []
 |(k,_)::r,i=>match fH k,li r (i+1)with
  |some kv,some l=>some ({key:=kv,val:=.int .i64 i,born:=0}::l)
  |_,_=>none
def PK(empty:Bool) (kt:TypeId) (k:Value) (l:List MapEntry):Sem (Option (Nat × Value)):=do
 Instr.checkKey empty 10000 kt k
 Instr.findKey kt k l
def wR(P:Program) (empty:Bool) (kt:TypeId) (key:AV) (es:List (AV × AV)):Option (Option Nat):=
 match fH key,li es 0 with
 |some k,some l=>(dI P (PK empty kt k l)).map (·.map (·.1))
 |_,_=>none
def nX(P:Program) (h:H) (t:TypeId) (x k:AV) (ok:Bool):Option AV:=
 match P.underlying t with
 |some (.map kt et)=>match(match x with
   |.nilmap=>some []
   |.mp id=>match h[id]? with
    |some (.map es)=>some es
    |_=>none
   |_=>none)with
  |some es=>match wR P es.isEmpty kt k es with
   |some (some i)=>match es[i]? with
    |some e=>some (if ok then .tuple [e.2,.bool true]else e.2)
    |none=>none
   |some none=>match iH P et with
    |some z=>some (if ok then .tuple [z,.bool false]else z)
    |none=>none
   |none=>none
  |none=>none
 |_=>none
def fS(P:Program) (h:H) (t:TypeId) (x k v:AV):Option H:=
 match P.underlying t,x with
 |some (.map kt _),.mp id=>match h[id]? with
  |some (.map es)=>if !bf v then none else match wR P false kt k es with
   |some (some i)=>match es[i]?,fH k with
    |some e,some kv=>match fH e.1 with
     |some ov=>if Instr.sameBits 10000 ov kv then some (h.set id (.map (es.set i (k,v))))else none
     |none=>none
    |_,_=>none
   |some none=>if(fH k).isSome then some (h.set id (.map (es++[(k,v)])))else none
   |none=>none
  |_=>none
 |_,_=>none
def dW(o:Oper):Bool:=
 match o.op with
 |.assign x=>CH x
 |.box .. | .alloc _ | .buildSlice .. | .makeSlice .. | .store .. | .makeMap .. | .lookup .. | .mapUpdate .. | .insert ..=>true
 |.call {callee:=.builtin b,..}=>match b with
  |.len | .min | .max | .cap=>false
  |_=>true
 |.call _=>true
 |_=>false
def yb(P:Program):Nat:=P.funcs.size+1
def eE(P:Program) (f:FuncId):Bool:=match P.funcs[f]? with
 |some fn=>fn.body.isSome
 |none=>false
def K8(C:Cfg) (g:FuncId) (l:LA) (h:H):Option (AV × H):=match toList l with
 |some vs=>match C.ext g vs.toArray with
  |some v=>match eC v with
   |some a=>some (a,h)
   |none=>none
  |none=>none
 |none=>none
def wrO(C:Cfg) (cf:FuncId) (o:Oper):Bool:=match o.dst with
 |some d=>C.wr cf d
 |none=>false
def opA(C:Cfg) (run:FuncId->LA->H->Option (AV × H)) (cf:FuncId) (s:PT) (h:H) (o:Oper):Option (AV × H):=
 match o.op with
 |.assign _=>if wrO C cf o=true then some (.isl [] .full,h)else match ii C.P o.type with
  |some e=>some (.isl [] (.tok h.length),h++[.tok 0 e])
  |none=>none
 |.box t x=>match ev s x,cr C.P t with
  |some a,some n=>if a.cells.length=n/\bf a then some (.ptr h.length 0,h++[.cells a.cells .live])else none
  |_,_=>none
 |.alloc t=>match iH C.P t with
  |some a=>some (.ptr h.length 0,h++[.cells a.cells .live])
  |none=>none
 |.buildSlice t len parts=>match gJ s parts.toList with
  |some l=>cI C.P h t len l
  |none=>none
 |.makeSlice t l c=>match ev s l,ev s c with
  |some a,some b=>gN C.P (wrO C cf o) h t a b
  |_,_=>none
 |.store t a x=>match ev s a,ev s x with
  |some p,some v=>match cL C.P h t p v with
   |some h'=>some (AV.undef,h')
   |none=>none
  |_,_=>none
 |.call {callee:=.builtin .append,args,argTypes}=>match args.toList,argTypes.toList with
  |[x,y],[t,u]=>if t=u then match ev s x,ev s y with
    |some a,some b=>bu C.P (wrO C cf o) h t a b
    |_,_=>none
   else if AP C.P u then match ev s x,ev s y with
    |some a,some b=>fM C.P h t a b
    |_,_=>none
   else if Nl C.P u then match ev s x,ev s y with
    |some a,some (.int .i64 n)=>ob C.P h t a n
    |_,_=>none
   else none
  |_,_=>none
 |.call {callee:=.value f,args,..}=>match ev s f,evs s args.toList with
  |some (.func g captured),some l=>if eE C.P g then dM C run g (l++captured) h else K8 C g (l++captured) h
  |some (.yield i),some l=>run (yb C.P+i) l h
  |_,_=>none
 |.makeMap _ none=>some (.mp h.length,h++[.map []])
 |.lookup t x i ok=>match ev s x,ev s i with
  |some a,some b=>match nX C.P h t a b ok with
   |some v=>some (v,h)
   |none=>none
  |_,_=>none
 |.mapUpdate t m k v=>match ev s m,ev s k,ev s v with
  |some a,some b,some c=>match fS C.P h t a b c with
   |some h'=>some (AV.undef,h')
   |none=>none
  |_,_,_=>none
 |.insert t m k v=>match ev s m,ev s k,ev s v with
  |some a,some b,some c=>match fS C.P h t a b c with
   |some h'=>some (AV.undef,h')
   |none=>none
  |_,_,_=>none
 |.call {callee:=.builtin .clear,args,argTypes}=>match args.toList,argTypes.toList with
  |[x],[t]=>match ev s x with
   |some a=>match vc C.P h t a with
    |some h'=>some (AV.undef,h')
    |none=>none
   |none=>none
  |_,_=>none
 |.call {callee:=.builtin .copy,args,argTypes}=>match args.toList,argTypes.toList with
  |[x,y],[t,u]=>if t=u\/AP C.P u=true then match ev s x,ev s y with
    |some a,some b=>JF C.P h t a b
    |_,_=>none
   else none
  |_,_=>none
 |_=>none
def opV(C:Cfg) (run:FuncId->LA->H->Option (AV × H)) (cf:FuncId) (s:PT) (h:H) (o:Oper):Option (AV × H):=
 if dW o then opA C run cf s h o else
 match o.op with
 |.load t x=>match ev s x with
  |some a=>match aW C.P h t a with
   |some v=>some (v,h)
   |none=>none
  |none=>none
 |_=>match opN C.P s o with
  |some v=>some (v,h)
  |none=>none
def jB(s:PT) (d:Option Tmp) (v:AV):PT:=match d with
 |some t=>s.set t v
 |none=>s
def dw(ops:Array Oper) (s:PT) (j:Nat):Option Bool:=
 match(ops[j]?).bind (·.dst)with
 |some t=>match s.get t with
  |.bool b=>some b
  |_=>none
 |none=>none
def dz(C:Cfg) (run:FuncId->LA->H->Option (AV × H)) (cf:FuncId) (ops:Array Oper):List Oper->PT->H->Option (PT × H)
 |[],s,h=>some (s,h)
 |o::rest,s,h=>
  if Region.wanted o (dw ops s)then
   match opV C run cf s h o with
   |some (v,h')=>dz C run cf ops rest (jB s o.dst v) h'
   |none=>none
  else dz C run cf ops rest (jB s o.dst AV.undef) h
def vG:List Operand->List Tmp
 |[]=>[]
 |.tmp t::r=>t::vG r
 |_::r=>vG r
def reads(ops:Array Oper) (o:Oper):List Tmp:=
 vG o.op.operands.toList++(match o.guard with
  |some (j,_)=>match(ops[j]?).bind (·.dst)with|some t=>[t]|none=>[]
  |none=>[])
def Zj(o:Oper):Bool:=match o.op with
 |.store ..=>true
 |.call {callee:=.builtin .append,..}=>true
 |.call {callee:=.value _,..}=>true
 |.call {callee:=.builtin .clear,..} | .call {callee:=.builtin .copy,..}=>true
 |_=>false
def jS(o:Oper):Bool:=match o.op with
 |.load ..=>true
 |_=>false
def clash(C:Cfg) (ops:Array Oper) (x y:Oper):Bool:=
 (dW x&&dW y)||(jS x&&loud C y)||(loud C x&&jS y)
  || (match x.dst with|some t=>(reads ops y).contains t||y.dst==some t|none=>false)
  || (match y.dst with|some t=>(reads ops x).contains t|none=>false)
 where
 loud (C:Cfg) (o:Oper):Bool:=match o.op with
  |.store ..=>true
  |.call {callee:=.builtin .clear,..} | .call {callee:=.builtin .copy,..}=>true
  |.call {callee:=.value (.func f),..}=>C.mode f==.openH
  |.call {callee:=.value _,..}=>true
  |_=>false
def wU(i:Nat) (o:Oper):Bool:=o.after.all λe=>!Region.binds .any e||decide (e.on<i)
def wE(C:Cfg) (ops:Array Oper):Bool:=
 let b:=Region.before ops
 (List.range ops.size).all λj=>match ops[j]? with
  |none=>true
  |some y=>wU j y&&(List.range j).all λi=>match ops[i]? with
   |none=>true
   |some x=>!clash C ops x y||(b.getD j 0).testBit i
def XO(o:Oper):Bool:=match o.op with
 |.select ..=>false
 |_=>true
def gO(C:Cfg) (cf:FuncId) (n:Nat) (inRound:Bool):Code->Bool
 |.skip | .exit _ | .ret=>true
 |.region id ops draw=>(ops.all λo=>(match o.dst with|some d=>decide (d<n)|none=>true)&&XO o)&&(!draw||C.mix cf id||wE C ops)
 |.seq a b=>gO C cf n inRound a&&gO C cf n inRound b
 |.cond _ a b=>gO C cf n inRound a&&gO C cf n inRound b
 |.block _ b=>gO C cf n inRound b
 |.loop b=>gO C cf n inRound b
 |.rangeFunc _ _ _ _=>!inRound
 |_=>false
def kW(s:PT) (o:Oper):List Nat:=match o.op with
 |.load _ x=>match ev s x with
  |some (.ptr id _)=>[id]
  |_=>[]
 |_=>[]
def ce:AV->List Nat
 |.msl id _ _ _ _=>[id]
 |_=>[]
def fL(s:PT) (o:Oper):List Nat:=match o.op with
 |.call {callee:=.builtin .append,args,..}=>match args.toList with
  |[x,_]=>match ev s x with
   |some c=>ce c
   |none=>[]
  |_=>[]
 |_=>[]
def I2(o:Oper):Bool:=match o.op with
 |.call {callee:=.builtin .append,..}=>true
 |_=>false
def pT:List Oper->Bool
 |[]=>false
 |o::r=>I2 o||pT r
def jp(C:Cfg) (run:FuncId->LA->H->Option (AV × H)) (cf:FuncId) (ops:Array Oper):List Oper->PT->H->List Nat × List Nat
 |[],_,_=>([],[])
 |o::rest,s,h=>
  if Region.wanted o (dw ops s)then
   match opV C run cf s h o with
   |some (v,h')=>(kW s o++(jp C run cf ops rest (jB s o.dst v) h').1,fL s o++(jp C run cf ops rest (jB s o.dst v) h').2)
   |none=>([],[])
  else jp C run cf ops rest (jB s o.dst AV.undef) h
def pN(C:Cfg) (run:FuncId->LA->H->Option (AV × H)) (cf:FuncId) (ops:Array Oper) (draw:Bool) (s:PT) (h:H):Bool:=
 !draw || !pT ops.toList||(jp C run cf ops ops.toList s h).1.all λi=>!(jp C run cf ops ops.toList s h).2.contains i
def EL:List (Tmp × AV)->PT->PT
 |[],s=>s
 |(p,v)::r,s=>EL r (s.set p v)
mutual
def AV.mv(i k:Nat):AV->AV
 |.ptr id off=>.ptr (if id=i then k else id) off
 |.msl id off sz len cap=>.msl (if id=i then k else id) off sz len cap
 |.isl es (.tok t)=>.isl es (.tok (if t=i then k else t))
 |.yield j=>.yield (if j=i then k else j)
 |.mp id=>.mp (if id=i then k else id)
 |.func f c=>.func f (AV.mvs i k c)
 |.iface t v=>.iface t (AV.mv i k v)
 |.agg cs=>.agg (AV.mvs i k cs)
 |.tuple vs=>.tuple (AV.mvs i k vs)
 |v=>v
def AV.mvs(i k:Nat):LA->LA
 |[]=>[]
 |v::r=>AV.mv i k v::AV.mvs i k r
end
def VObj.mv(i k:Nat):VObj->VObj
 |.cells cs .dead=>.cells cs .dead
 |.cells cs st=>.cells (AV.mvs i k cs) st
 |.map es=>.map (es.map λe=>(e.1,e.2.mv i k))
 |o=>o
def KZ:AV->List Nat
 |.mp id=>[id]
 |_=>[]
def iV:AV->List Nat
 |.isl _ (.tok t)=>[t]
 |_=>[]
def ll(C:Cfg) (s:PT) (h:H) (o:Oper):Option (List Nat × Bool):=
 if dW o then
  match o.op with
  |.store _ a _=>match ev s a with
   |some (.ptr id _)=>some ([id],true)
   |_=>none
  |.alloc _ | .box .. | .makeSlice .. | .makeMap .. | .assign _=>some ([],true)
  |.lookup _ m _ _ | .mapUpdate _ m _ _ | .insert _ m _ _=>match ev s m with
   |some a=>some (KZ a,true)
   |none=>none
  |.buildSlice _ _ parts=>match gJ s parts.toList with
   |some l=>some (cY h dD (l.map (·.2)),true)
   |none=>none
  |.call {callee:=.builtin .append,args,..}=>match args.toList with
   |[x,y]=>match ev s x,ev s y with
    |some a,some b=>some (ce a++iV a++ce b,true)
    |_,_=>none
   |_=>none
  |.call {callee:=.value f,args,..}=>match ev s f,evs s args.toList with
   |some (.func g captured),some l=>if eE C.P g then(match C.mode g with
     |.openH=>none
     |.openQ=>none
     |.openF=>none
     |_=>some (cY h dD (l++captured),true))else some ([],true)
   |_,_=>none
  |_=>none
 else match o.op with
  |.load _ x=>match ev s x with
   |some (.ptr id _)=>some ([id],false)
   |_=>some ([],false)
  |_=>some ([],false)
def fin(p:Nat) (T:List Nat) (h h':H):H:=h.mapIdx λid x=>
 if id=p then(match h'[h.length]? with
  |some y=>y.mv h.length p
  |none=>x)
 else if T.contains id then(match h'[id]? with
  |some y=>y.mv h.length p
  |none=>x)
 else x
abbrev FP:=List Nat × List Nat
def dZ:Option VObj->Bool
 |some .void=>true
 |_=>false
def gg(C:Cfg) (run:FuncId->LA->H->Option (AV × H)) (cf:FuncId) (ops:Array Oper) (base i:Nat) (o:Oper) (s:PT) (h:H):Option (AV × H × FP):=
 if Region.wanted o (dw ops s)then
  match ll C s h o,opV C run cf s h o with
  |some (T,wr),some (v,h')=>
   if h'.length<=h.length+1/\T.contains (base+i)=false/\dZ h[base+i]?=true then
    some (v.mv h.length (base+i),if wr then fin (base+i) T h h' else h,if wr then((base+i)::T,(base+i)::T)else(T,[]))
   else none
  |_,_=>none
 else some (AV.undef,h,([],[]))
def lM(C:Cfg) (run:FuncId->LA->H->Option (AV × H)) (cf:FuncId) (ops:Array Oper) (base:Nat):Nat->PT->H->Option (PT × H × List FP)
 |0,s,h=>some (s,h,[])
 |n+1,s,h=>match lM C run cf ops base n s h,ops[n]? with
  |some (s1,h1,F),some o=>match gg C run cf ops base n o s1 h1 with
   |some (v,h2,f)=>some (jB s1 o.dst v,h2,F++[f])
   |none=>none
  |_,_=>none
def kA(ops:Array Oper) (x y:Oper):Bool:=
 (match x.dst with|some t=>(reads ops y).contains t||y.dst==some t|none=>false)||(match y.dst with|some t=>(reads ops x).contains t|none=>false)
def sO(ops:Array Oper):Bool:=
 let b:=Region.before ops
 (List.range ops.size).all λj=>match ops[j]? with
  |none=>true
  |some y=>wU j y&&(List.range j).all λi=>match ops[i]? with
   |none=>true
   |some x=>!kA ops x y||(b.getD j 0).testBit i
def rW(a b:List Nat):Bool:=a.any λi=>b.contains i
def ri(ops:Array Oper) (F:List FP):Bool:=
 let b:=Region.before ops
 (List.range F.length).all λj=>match F[j]? with
  |none=>true
  |some y=>(List.range j).all λi=>match F[i]? with
   |none=>true
   |some x=>!(rW x.2 y.1||rW y.2 x.1)||(b.getD j 0).testBit i
def ym(C:Cfg) (run:FuncId->LA->H->Option (AV × H)) (cf:FuncId) (ops:Array Oper) (s:PT) (h:H):Option (PT × H):=
 if sO ops then
  match lM C run cf ops h.length ops.size s (h++List.replicate ops.size .void)with
  |some (s',h',F)=>if ri ops F then some (s',h')else none
  |none=>none
 else none
def xE(ops:Array Oper) (c:Nat):Bool:=
 let b:=Region.before ops
 decide (c<ops.size)&&(List.range ops.size).all λj=>decide (j<c)||((List.range c).all (λi=>(b.getD j 0).testBit i)&&match ops[j]? with
  |some o=>o.guard.isNone&&(decide (j=c)||((b.getD j 0).testBit c && !dW o && !jS o))
  |none=>true)
def gM(C:Cfg) (run:FuncId->LA->H->Option (AV × H)) (cf:FuncId) (c:Nat) (ops:Array Oper) (s:PT) (h:H):Option (PT × H):=
 if sO ops&&xE ops c then
  match lM C run cf ops h.length c s (h++List.replicate c .void)with
  |some (s',h',F)=>if ri ops F then dz C run cf ops (ops.toList.drop c) s' h' else none
  |none=>none
 else none
def wK(C:Cfg) (run:FuncId->LA->H->Option (AV × H)) (cf:FuncId) (id:Nat) (ops:Array Oper) (s:PT) (h:H):Option (PT × H):=match C.cut cf id with
 |none=>ym C run cf ops s h
 |some c=>gM C run cf c ops s h
def fu(C:Cfg) (run:FuncId->LA->H->Option (AV × H)) (cf:FuncId):Nat->Code->PT->H->Option (Ex × PT × H)
 |0,_,_,_=>none
 |n+1,c,s,h=>match c with
  |.skip=>some (.normal,s,h)
  |.region id ops draw=>if(draw&&C.mix cf id)=true then(match wK C run cf id ops s h with
   |some (s',h')=>some (.normal,s',h')
   |none=>none)else match dz C run cf ops ops.toList s h with
   |some (s',h')=>if pN C run cf ops draw s h then some (.normal,s',h')else none
   |none=>none
  |.seq a b=>match fu C run cf n a s h with
   |some (.normal,s',h')=>fu C run cf n b s' h'
   |r=>r
  |.cond c a b=>match ev s c with
   |some (.bool true)=>fu C run cf n a s h
   |some (.bool false)=>fu C run cf n b s h
   |_=>none
  |.block id b=>match fu C run cf n b s h with
   |some (.exit i,s',h')=>if i=id then some (.normal,s',h')else some (.exit i,s',h')
   |r=>r
  |.loop b=>match fu C run cf n b s h with
   |some (.normal,s',h')=>fu C run cf n (.loop b) s' h'
   |r=>r
  |.exit id=>some (.exit id,s,h)
  |.ret=>some (.ret,s,h)
  |.rangeFunc g ps assign body=>match ev s g,C.P.funcs[cf]? with
   |some (.func gf cap),some fn=>
    if eE C.P gf then
     match run gf (.yield h.length::cap) (h++[.loop ⟨cf,s,fn.ntmps,ps,assign,body⟩ .ready])with
     |some (_,h')=>match h'[h.length]? with
      |some (.loop L .ready)=>some (.normal,s,h'.set h.length (.loop L .over))
      |some (.loop L (.done e))=>some (e,s,h'.set h.length (.loop L .over))
      |_=>none
     |none=>none
    else none
   |_,_=>none
  |_=>none
def AC(C:Cfg) (run:FuncId->LA->H->Option (AV × H)) (n i:Nat) (args:LA) (h:H):Option (AV × H):=
 match h[i]? with
 |some (.loop L .ready)=>
  if args.length=L.ps.size/\L.ps.all (λp=>decide (p<L.n))/\gO C L.cf L.n true L.assign/\gO C L.cf L.n true L.body then
   match fu C run L.cf n L.assign (EL (L.ps.toList.zip args) L.s) h with
   |some (.normal,s1,h1)=>match h1[i]? with
    |some (.loop L1 .ready)=>match fu C run L.cf n L.body s1 (h1.set i (.loop L1 .busy))with
     |some (e,_,h2)=>match h2[i]? with
      |some (.loop L2 .busy)=>match e with
       |.normal=>some (.bool true,h2.set i (.loop L2 .ready))
       |e=>some (.bool false,h2.set i (.loop L2 (.done e)))
      |_=>none
     |none=>none
    |_=>none
   |_=>none
  else none
 |_=>none
def kC:Nat->LA->PT->PT
 |_,[],s=>s
 |i,v::r,s=>kC (i+1) r (s.set i v)
def cC(P:Program) (s:PT) (h:H):ResultVar->Option AV
 |.tmp t=>some (s.get t)
 |.cell a t=>aW P h t (s.get a)
def dx(P:Program) (s:PT) (h:H):List ResultVar->Option (LA)
 |[]=>some []
 |x::r=>match cC P s h x,dx P s h r with
  |some a,some l=>some (a::l)
  |_,_=>none
def aY(P:Program) (s:PT) (h:H) (l:List ResultVar):Option AV:=
 match l with
 |[x]=>cC P s h x
 |l=>match dx P s h l with
  |some vs=>some (.tuple vs)
  |none=>none
def fA(C:Cfg):Nat->FuncId->LA->H->Option (AV × H)
 |0,_,_,_=>none
 |n+1,f,args,h=>match C.P.funcs[f]? with
  |none=>if yb C.P<=f then AC C (fA C n) n (f-yb C.P) args h else none
  |some fn=>match C.prim f args h with
   |some z=>some z
   |none=>match fn.body with
    |none=>none
    |some c=>
     if gO C f fn.ntmps false c/\args.length<=fn.ntmps then
      match fu C (fA C n) f n c (kC 0 args .leaf) h with
      |some (.normal,s,h')|some (.ret,s,h')=>match aY C.P s h' fn.results.toList with
       |some v=>some (v,h')
       |none=>none
      |_=>none
     else none
end Go.V
