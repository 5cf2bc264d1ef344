/- A part of the proof. -/
import Derived.Orders
import Derived.Laws.AppendOwn
import Derived.Laws.Slices
import Derived.Below
import Derived.KernelRfl
theorem o_ {p:Prop}(h:p:=by omega):p:=h
theorem s_ {p:Prop}(h:p:=by simp):p:=h
theorem k_ {p:Prop}(h:p:=by kernel_rfl):p:=h
theorem d_ {p:Prop}(h:p:=by decide):p:=h
theorem g_ {p:Prop}(h:p:=by simp[go_sem]<;>assumption):p:=h
abbrev aA:=@Option.some.injEq
abbrev aB:=@List.getElem?_eq_some_iff
abbrev aC:=@List.getElem?_eq_getElem
abbrev aD:=@Prod.mk.injEq
abbrev aE:=@List.getElem?_set_ne
abbrev aF:=@List.length_cons
abbrev aG:=@List.getElem_mem
abbrev aH:=@List.drop_eq_getElem_cons
abbrev aI:=@List.take_succ_eq_append_getElem
abbrev aJ:=@List.getElem?_set_self
abbrev aK:=@List.length_append
abbrev aM:=@List.getElem?_append_left
abbrev aN:=@Array.getElem?_eq_some_iff
abbrev aO:=@Nat.zero_le
abbrev aP:=@List.length_nil
abbrev aR:=@Array.getElem?_eq_getElem
abbrev aS:=@List.map_cons
abbrev aT:=@Nat.le_refl
abbrev aU:=@List.length_map
abbrev aW:=@List.mem_of_getElem?
abbrev aY:=@List.getElem?_append_right
abbrev aZ:=@List.mem_append
abbrev ac:=@List.length_take
abbrev aj:=@List.drop_length
abbrev ak:=@List.mem_cons
abbrev am:=@Bool.false_eq_true
abbrev ao:=@List.take_length
abbrev aq:=@Bool.and_eq_true
abbrev ar:=@Array.getD_eq_getD_getElem?
abbrev au:=@List.map_nil
abbrev bA:=@List.mem_map
abbrev bI:=@Array.getElem?_toList
abbrev bK:=@List.getD_eq_getElem?_getD
abbrev bL:=@List.mem_singleton
abbrev bM:=@List.all_eq_true
abbrev bW:=@List.getElem?_map
abbrev bX:=@List.mem_of_mem_take
abbrev bY:=@List.map_append
abbrev bZ:=@Bool.or_eq_true
abbrev ba:=@List.getElem_of_mem
abbrev be:=@List.mem_cons_of_mem
abbrev bf:=@Option.map_some
abbrev bh:=@List.mem_flatMap
abbrev bk:=@List.getElem?_drop
abbrev bm:=@List.mem_filter
abbrev bn:=@Nat.zero_add
abbrev bo:=@List.getElem?_eq_none
abbrev bq:=@Bool.not_eq_true'
abbrev br:=@List.eq_nil_of_length_eq_zero
abbrev bt:=@List.getElem?_cons_zero
abbrev bu:=@Nat.mul_le_mul_right
abbrev bv:=@List.getElem?_take
abbrev bw:=@Array.getElem?_append_left
abbrev bz:=@List.nil_append
abbrev cC:=@List.append_nil
abbrev cD:=@List.flatMap_cons
abbrev cF:=@Option.map_eq_some_iff
abbrev cH:=@List.cons.injEq
abbrev cI:=@List.pairwise_cons
abbrev cJ:=@List.mem_cons_self
abbrev cM:=@Nat.le_trans
abbrev cN:=@Option.bind_some
abbrev cO:=@List.length_filter_le
abbrev cP:=@List.cons_append
abbrev cV:=@List.ext_getElem?
abbrev cX:=@List.getElem?_toArray
abbrev cY:=@Option.isSome_iff_exists
abbrev cq:=@List.mem_of_mem_drop
abbrev cy:=@List.length_drop
abbrev dD:=@List.append_assoc
abbrev dF:=@Array.length_toList
abbrev dK:=@List.getElem?_cons_succ
abbrev dO:=@List.mem_range
abbrev dP:=@List.mem_append_left
abbrev dQ:=@List.take_append_getElem
abbrev dR:=@List.mem_iff_getElem?
abbrev dS:=@Nat.add_zero
abbrev dV:=@List.not_mem_nil
abbrev db:=@Nat.lt_of_lt_of_le
abbrev de:=@List.take_of_length_le
abbrev dh:=@List.of_mem_zip
abbrev dp:=@List.all_cons
abbrev dt:=@List.getElem?_range
abbrev dw:=@List.mem_append_right
abbrev eC:=@List.size_toArray
abbrev eD:=@Array.all_eq_true_iff_forall_mem
abbrev eJ:=@Nat.le_max_right
abbrev eQ:=@Nat.add_mul
abbrev eR:=@List.pairwise_map
abbrev eS:=@List.getElem?_set
abbrev eX:=@List.drop_zero
abbrev eY:=@Nat.le_max_left
abbrev eZ:=@Bool.eq_iff_iff
abbrev fG:=@Nat.add_assoc
abbrev fH:=@Bool.not_true
abbrev fO:=@Array.getElem?_eq_none
abbrev fP:=@List.map_congr_left
abbrev fT:=@List.foldl_cons
abbrev fc:=@List.pairwise_iff_getElem
abbrev fi:=@List.filter_append
abbrev fq:=@Nat.succ_mul
abbrev gD:=@Bool.and_assoc
abbrev gK:=@Bool.not_eq_false
abbrev gM:=@Nat.mod_lt
abbrev gO:=@List.length_pos_iff
abbrev gQ:=@List.drop_succ_cons
abbrev gR:=@List.drop_of_length_le
abbrev gS:=@Array.getElem?_append_right
abbrev gb:=@List.sum_cons
abbrev gc:=@List.map_toArray
abbrev gm:=@Bool.false_and
abbrev gn:=@Array.getElem?_map
abbrev gp:=@Array.extract_size
abbrev iJ:=@Nat.lt_or_ge
abbrev iK:=@List.map_map
abbrev iL:=@Bool.or_eq_false_iff
abbrev iM:=@Bool.eq_false_iff
abbrev iX:=@Array.getElem?_replicate
abbrev iZ:=@Array.getElem?_setIfInBounds_ne
abbrev ic:=@List.take_succ_cons
abbrev ie:=@List.replicate_succ
abbrev ig:=@List.flatMap_append
abbrev iz:=@List.filter_cons_of_pos
abbrev jA:=@List.filter_cons
abbrev jV:=@Array.foldl_toList
abbrev jW:=@Array.empty_append
abbrev jc:=@Bool.true_and
abbrev jh:=@Bool.and_eq_false_iff
abbrev jl:=@Array.getElem?_setIfInBounds_self_of_lt
abbrev kA:=@List.getElem?_append
abbrev kH:=@Option.getD_some
abbrev kI:=@Nat.le_of_lt
abbrev kN:=@Nat.mul_le_mul_left
abbrev kO:=@List.mem_map_of_mem
abbrev kX:=@List.getElem?_take_of_lt
abbrev ke:=@List.nodup_cons
abbrev ku:=@Option.isSome_none
abbrev kw:=@List.zip_cons_cons
abbrev lG:=@List.filter_cons_of_neg
abbrev lh:=@Nat.mul_comm
abbrev li:=@List.take_zero
abbrev lj:=@List.sum_replicate_nat
abbrev ll:=@List.findIdx_lt_length_of_exists
abbrev lp:=@ByteArray.data_extract
abbrev lq:=@Array.size_append
abbrev lr:=@Array.getElem?_push_lt
abbrev mH:=@List.take_append_drop
abbrev mI:=@Array.mem_of_getElem?
abbrev mJ:=@Array.getElem?_modify
abbrev mK:=@Array.getElem?_mapIdx
abbrev mZ:=@List.zipIdx_cons
abbrev mb:=@List.any_eq_true
abbrev ml:=@Bool.false_or
abbrev nF:=@Nat.mul_one
abbrev nG:=@List.mem_iff_getElem
abbrev nH:=@List.getElem_toArray
abbrev nI:=@List.getElem?_modify
abbrev nJ:=@Array.getElem_toList
abbrev nO:=@Nat.min_eq_left
abbrev nP:=@List.set_append
abbrev nR:=@List.length_set
abbrev nW:=@List.mergeSort_perm
abbrev nX:=@List.length_flatten
abbrev nY:=@List.filter_sublist
abbrev oD:=@Nat.mul_zero
abbrev oe:=@List.map_replicate
abbrev og:=@List.contains_cons
abbrev oh:=@Array.ext_getElem?
abbrev pU:=@Nat.mul_add
namespace Go.V
open Go
inductive Ext where
 |unk|full|tok (t:Nat)
 deriving DecidableEq,Inhabited
inductive AV where
 |bool (b:Bool)
 |int (k:IntKind) (n:Int)
 |str (s:ByteArray)
 |nilptr
 |ptr (id off:Nat)
 |iptr (e:AV) (off:Nat)
 |isl (elems:List AV) (x:Ext)
 |msl (id off sz len:Nat) (cap:Option Nat)
 |nilmap
 |nilFunc
 |func (f:FuncId) (captured:List AV)
 |nilIface
 |iface (t:TypeId) (v:AV)
 |agg (cells:List AV)
 |tuple (vs:List AV)
 |yield (i:Nat)
 |mp (id:Nat)
 deriving Inhabited
abbrev LA:=List AV
def AV.undef:AV:=.tuple []
def AV.cells:AV->LA
 |.agg cs=>cs
 |v=>[v]
def AV.one:AV->Bool
 |.agg _ | .tuple _=>false
 |_=>true
inductive PT where
 |leaf
 |node (l:PT) (v:AV) (r:PT)
def PT.get:PT->Nat->AV
 |.leaf,_=>AV.undef
 |.node _ v _,0=>v
 |.node l _ r,n+1=>if n%2=0 then l.get (n/2)else r.get (n/2)
def PT.setF:Nat->PT->Nat->AV->PT
 |0,t,_,_=>t
 |_+1,.leaf,0,v=>.node .leaf v .leaf
 |_+1,.node l _ r,0,v=>.node l v r
 |f+1,.leaf,n+1,v=>if n%2=0 then .node (setF f .leaf (n/2) v) AV.undef .leaf else .node .leaf AV.undef (setF f .leaf (n/2) v)
 |f+1,.node l u r,n+1,v=>if n%2=0 then .node (setF f l (n/2) v) u r else .node l u (setF f r (n/2) v)
def PT.set(t:PT) (n:Nat) (v:AV):PT:=PT.setF (n+1) t n v
inductive OSt where
 |live|frozen|dead
 deriving DecidableEq,Inhabited
inductive Ex where
 |normal|exit (id:Nat)|ret
 deriving DecidableEq
inductive LSt where
 |ready|busy|done (e:Ex)|over
 deriving DecidableEq
structure LoopV where
 cf:FuncId
 s:PT
 n:Nat
 ps:Array Tmp
 assign:Code
 body:Code
inductive VObj where
 |cells (cs:LA) (st:OSt)
 |tok (used:Nat) (ty:TypeId)
 |loop (L:LoopV) (st:LSt)
 |map (es:List (AV × AV))
 |void
instance:Inhabited VObj:=⟨.tok 0 0⟩
def VObj.gone:VObj->Bool
 |.cells _ .dead=>true
 |.loop _ .over=>true
 |.void=>true
 |_=>false
abbrev H:=List VObj
def dT:Value->Option AV
 |.bool b=>some (.bool b)
 |.int k n=>some (.int k n)
 |.string s=>some (.str s)
 |.pointer none=>some .nilptr
 |.slice none 0 0=>some (.isl [] .full)
 |.map none=>some .nilmap
 |.nilFunc=>some .nilFunc
 |.nilIface=>some .nilIface
 |_=>none
def yY:List Value->Option (LA)
 |[]=>some []
 |v::r=>match dT v,yY r with
  |some a,some l=>some (a::l)
  |_,_=>none
def dl:Value->Option AV
 |.agg cs=>match yY cs.toList with
  |some l=>some (.agg l)
  |none=>none
 |v=>dT v
def ce:AV->Option Value
 |.bool b=>some (.bool b)
 |.int k n=>some (.int k n)
 |.str s=>some (.string s)
 |.nilptr=>some (.pointer none)
 |.nilmap=>some (.map none)
 |.nilFunc=>some .nilFunc
 |.nilIface=>some .nilIface
 |_=>none
def toList:LA->Option (List Value)
 |[]=>some []
 |v::r=>match ce v,toList r with
  |some a,some l=>some (a::l)
  |_,_=>none
def fE:AV->Option Value
 |.agg cs=>match toList cs with
  |some l=>some (.agg l.toArray)
  |none=>none
 |v=>ce v
def dA{α:Type}(P:Program):Sem α->Option α
 |.pure a=>some a
 |.program k=>dA P (k P)
 |_=>none
def eW(P:Program) (t:TypeId):Option Bool:=
 match P.underlying t with
 |some (.struct _)|some (.array _ _)=>some true
 |some _=>some false
 |none=>none
def cS(P:Program) (t:TypeId):Option Nat:=(P.info? t).map (·.size)
def ae(P:Program) (t:TypeId) (cs:LA) (off:Nat):Option AV:=
 match eW P t,cS P t with
 |some true,some n=>if off+n<=cs.length then some (.agg ((cs.drop off).take n))else none
 |some false,some _=>cs[off]?
 |_,_=>none
def sI(g:Nat):Option AV:=if g=1 then some (.agg ((List.range 20).map λi=>.int .u64 ((10 ^ i:Nat):Int)))else none
def uz(g:Nat):Option Nat:=if g=1 then some 20 else none
def ev(s:PT):Operand->Option AV
 |.tmp t=>some (s.get t)
 |.const v=>dl v
 |.global g=>(sI g).map λa=>.iptr a 0
 |.func f=>some (.func f [])
def evs(s:PT):List Operand->Option (LA)
 |[]=>some []
 |x::r=>match ev s x,evs s r with
  |some a,some l=>some (a::l)
  |_,_=>none
def Gw:Operand->Bool
 |.const (.slice none 0 0)=>true
 |_=>false
def Xe:AV->Bool
 |.ptr _ _ | .iptr _ _=>true
 |_=>false
def Cf:AV->Bool
 |.isl es _=>!es.isEmpty
 |.msl _ _ _ _ _=>true
 |_=>false
def UX(P:Program) (t:TypeId):Bool:=match P.underlying t with
 |some (.slice _)=>true
 |_=>false
def B7:BinOp->Option Bool
 |.eql=>some false
 |.neq=>some true
 |_=>none
def un(P:Program) (op:BinOp) (t:TypeId) (y:Operand) (a:AV):Option AV:=
 if Gw y&&Cf a&&UX P t then(B7 op).map AV.bool else none
def jC(P:Program) (op:BinOp) (t:TypeId) (x y:Operand) (a b:AV):Option AV:=
 match fE a,fE b with
 |some u,some v=>match dA P (do eqGuard op t x y u v;binOp op t u v)with
  |some r=>dl r
  |none=>none
 |_,_=>match op,a,b with
  |.eql,.nilptr,.ptr _ _ | .eql,.nilptr,.iptr _ _ | .eql,.ptr _ _,.nilptr | .eql,.iptr _ _,.nilptr=>
   match P.underlying t with
   |some (.pointer _)=>some (.bool false)
   |_=>none
  |.neq,.nilptr,.ptr _ _ | .neq,.nilptr,.iptr _ _ | .neq,.ptr _ _,.nilptr | .neq,.iptr _ _,.nilptr=>
   match P.underlying t with
   |some (.pointer _)=>some (.bool true)
   |_=>none
  |_,_,_=>un P op t y a
def unV(P:Program) (op:UnOp) (a:AV):Option AV:=
 match fE a with
 |some u=>match dA P (Op.unary op u)with
  |some r=>dl r
  |none=>none
 |none=>none
def zE(P:Program) (src dst:TypeId) (a:AV):Option AV:=
 match fE a with
 |some u=>match dA P (convert src dst u)with
  |some r=>dl r
  |none=>none
 |none=>none
def D0:LA->Option (List Int)
 |[]=>some []
 |.int .u8 n::r=>match D0 r with
  |some l=>some (n::l)
  |none=>none
 |_=>none
def P7(ns:List Int):ByteArray:=ns.foldl (λr n=>r.push (UInt8.ofNat n.toNat)) ByteArray.empty
def vK(P:Program) (src dst:TypeId) (es:LA):Option AV:=
 match P.underlying src,P.underlying dst with
 |some (.slice e),some .string=>match P.underlying e,D0 es with
  |some (.int .u8),some ns=>some (.str (P7 ns))
  |_,_=>none
 |_,_=>none
def A9(Gc:Nat->Option (Nat × Nat)) (cells:LA):List (Nat × AV)->Option (LA)
 |[]=>some cells
 |(i,v)::rest=>
  match Gc i with
  |none=>none
  |some (off,size)=>if v.cells.length=size/\off+size<=cells.length then A9 Gc (cells.take off++v.cells++cells.drop (off+size)) rest else none
def lF(P:Program) (t:TypeId) (i:Nat):Option (Nat × Nat):=
 match P.underlying t with
 |some (.struct fields)=>match fields[i]? with
  |some f=>match cS P f.type with
   |some n=>some (f.offset,n)
   |none=>none
  |none=>none
 |_=>none
def bV:AV->Bool
 |.tuple _=>false
 |_=>true
def gy(P:Program) (t:TypeId):Option AV:=
 match P.info? t with
 |some i=>match i.zero with
  |some v=>match dl v with
   |some a=>if a.cells.length=i.size then some a else none
   |none=>none
  |none=>none
 |none=>none
def fU(s:PT):List (Nat × Operand)->Option (List (Nat × AV))
 |[]=>some []
 |(i,x)::r=>match ev s x,fU s r with
  |some a,some l=>if bV a then some ((i,a)::l)else none
  |_,_=>none
def pI(P:Program):List Field->Bool
 |[]=>true
 |f::r=>(P.info? f.type).isSome&&pI P r
def fZ(P:Program) (t:TypeId) (parts:List (Nat × AV)):Option AV:=
 match P.underlying t with
 |some (.struct fields)=>if pI P fields.toList then
   match gy P t with
   |some (.agg z)=>match A9 (lF P t) z parts with
    |some cs=>some (.agg cs)
    |none=>none
   |_=>none
  else none
 |some (.array _ elem)=>match gy P t,cS P elem with
  |some (.agg z),some n=>match A9 (λi=>some (i*n,n)) z parts with
   |some cs=>some (.agg cs)
   |none=>none
  |_,_=>none
 |_=>none
def asI:AV->Option Int
 |.int _ n=>some n
 |_=>none
def iN(n:Nat):LA->Bool
 |[]=>true
 |e::_=>e.cells.length==n
def bP(P:Program) (t:TypeId) (x i:AV):Option AV:=
 match P.underlying t,x,i with
 |some (.slice elem),.isl es _,.int _ n=>match cS P elem with
  |some sz=>if 0<=n/\n<es.length then match es[n.toNat]? with
    |some e=>if e.cells.length=sz then some (.iptr e 0)else none
    |none=>none
   else none
  |none=>none
 |some (.slice elem),.msl id off sz len _,.int _ n=>if cS P elem=some sz/\0<=n/\n<len then some (.ptr id (off+n.toNat*sz))else none
 |some (.array len elem),.ptr id off,.int _ n=>match cS P elem with
  |some sz=>if 0<=n/\n<len then some (.ptr id (off+n.toNat*sz))else none
  |none=>none
 |some (.array len elem),.iptr e off,.int _ n=>match cS P elem with
  |some sz=>if 0<=n/\n<len then some (.iptr e (off+n.toNat*sz))else none
  |none=>none
 |_,_,_=>none
def bH(P:Program) (s:TypeId) (x:AV) (f:Nat):Option AV:=
 match lF P s f with
 |some (o,n)=>if n=0 then none else match x with
  |.ptr id off=>some (.ptr id (off+o))
  |.iptr e off=>some (.iptr e (off+o))
  |_=>none
 |none=>none
def FS(P:Program) (s:TypeId) (x:AV) (f:Nat):Option AV:=
 match P.underlying s,x with
 |some (.struct fields),.agg cs=>match fields[f]? with
  |some fd=>ae P fd.type cs fd.offset
  |none=>none
 |_,_=>none
def sG(P:Program) (t:TypeId) (x i:AV):Option AV:=
 match x,i with
 |.agg cs,.int _ n=>match P.underlying t with
  |some (.array len elem)=>match cS P elem with
   |some sz=>if 0<=n/\n<len then ae P elem cs (n.toNat*sz)else none
   |none=>none
  |_=>none
 |.str s,.int k n=>match dA P (Instr.index t (.string s) (.int k n))with
  |some r=>dl r
  |none=>none
 |_,_=>none
def sS(limit:Nat):AV->Option Nat
 |.int _ n=>if 0<=n/\n<=limit then some n.toNat else none
 |_=>none
def nM(limit dflt:Nat):Option AV->Option Nat
 |none=>some dflt
 |some v=>sS limit v
def iO(P:Program) (t:TypeId) (x:AV) (lo hi mx:Option AV):Option AV:=
 match P.underlying t,x,mx with
 |some (.slice elem),.isl es e,none=>match cS P elem,nM es.length es.length hi with
  |some sz,some h=>match nM h 0 lo with
   |some l=>if !iN sz es then none else
     if l=0/\h=es.length then some (.isl es e)
     else some (.isl ((es.take h).drop l) (if e=.full/\h=es.length then .full else .unk))
   |none=>none
  |_,_=>none
 |some (.slice elem),.isl es _,some m=>match cS P elem,sS es.length m with
  |some sz,some m=>match hi with
   |none=>none
   |some hv=>match sS m hv with
    |some h=>match nM h 0 lo with
     |some l=>if !iN sz es then none else some (.isl ((es.take h).drop l) (if m=h then .full else .unk))
     |none=>none
    |none=>none
  |_,_=>none
 |some (.slice elem),.msl id off sz len cap,none=>if cS P elem=some sz then
   match nM len len hi with
   |some h=>match nM h 0 lo with
    |some l=>match cap with
     |some c=>some (.msl id (if c=l then off else off+l*sz) sz (h-l) (some (c-l)))
     |none=>if l=0 then some (.msl id off sz h none)else if l<len then some (.msl id (off+l*sz) sz (h-l) none)else some (.isl [] .unk)
    |none=>none
   |none=>none
  else none
 |some (.slice elem),.msl id off sz len _,some m=>if cS P elem=some sz then
   match sS len m with
   |some m=>match hi with
    |none=>none
    |some hv=>match sS m hv with
     |some h=>match nM h 0 lo with
      |some l=>if m=l then some (.isl [] .full)else some (.msl id (off+l*sz) sz (h-l) (some (m-l)))
      |none=>none
     |none=>none
   |none=>none
  else none
 |some .string,.str s,none=>match nM s.size s.size hi with
  |some h=>match nM h 0 lo with
   |some l=>some (.str (s.extract l h))
   |none=>none
  |none=>none
 |_,_,_=>none
def fW(P:Program) (t:TypeId) (x:AV):Option AV:=
 match P.underlying t,x with
 |some (.slice _),.isl es _=>some (.int .i64 es.length)
 |some (.slice _),.msl _ _ _ len _=>some (.int .i64 len)
 |some .string,.str s=>some (.int .i64 s.size)
 |some (.array n _),_=>some (.int .i64 n)
 |_,_=>none
def SP(P:Program) (t:TypeId) (x:AV):Option AV:=
 match P.underlying t,x with
 |some (.slice _),.isl es .full=>some (.int .i64 es.length)
 |some (.slice _),.msl _ _ _ _ (some c)=>some (.int .i64 c)
 |_,_=>none
def ql(P:Program) (mx:Bool) (args:LA):Option AV:=
 match toList args with
 |some us=>match dA P (if mx then Builtin.max_ #[] 0 us.toArray else Builtin.min_ #[] 0 us.toArray)with
  |some r=>dl r
  |none=>none
 |none=>none
def opN(P:Program) (s:PT) (o:Oper):Option AV:=
 match o.op with
 |.move x | .assign x=>ev s x
 |.pick c a b=>match ev s c with
  |some (.bool true)=>ev s a
  |some (.bool false)=>ev s b
  |_=>none
 |.build t parts=>match fU s parts.toList with
  |some l=>fZ P t l
  |none=>none
 |.nilCheck x=>match ev s x with
  |some (.ptr i n)=>some (.ptr i n)
  |some (.iptr e n)=>some (.iptr e n)
  |some (.func f c)=>some (.func f c)
  |_=>none
 |.binOp op t x y _=>match ev s x,ev s y with
  |some a,some b=>jC P op t x y a b
  |_,_=>none
 |.unOp op _ x=>match ev s x with
  |some a=>unV P op a
  |none=>none
 |.convert src dst x=>match ev s x with
  |some (.isl es _)=>vK P src dst es
  |some a=>zE P src dst a
  |none=>none
 |.makeInterface t x=>match P.underlying t,ev s x with
  |some (.interface _),_=>none
  |some _,some a=>if bV a then some (.iface t a)else none
  |_,_=>none
 |.makeFunc (.func f) first captured=>if first.isEmpty then match evs s captured.toList with
   |some l=>some (.func f l)
   |none=>none
  else none
 |.slice t x lo hi mx=>match ev s x with
  |none=>none
  |some a=>match lo.map (ev s),hi.map (ev s),mx.map (ev s)with
   |some none,_,_|_,some none,_|_,_,some none=>none
   |l,h,m=>iO P t a (l.bind id) (h.bind id) (m.bind id)
 |.fieldAddr t x f=>match ev s x with
  |some a=>bH P t a f
  |none=>none
 |.field t x f=>match ev s x with
  |some a=>FS P t a f
  |none=>none
 |.indexAddr t x i=>match ev s x,ev s i with
  |some a,some b=>bP P t a b
  |_,_=>none
 |.index t x i=>match ev s x,ev s i with
  |some a,some b=>sG P t a b
  |_,_=>none
 |.extract x i=>match ev s x with
  |some (.tuple l)=>l[i]?
  |_=>none
 |.call {callee:=.builtin .len,args,argTypes}=>match args.toList,argTypes.toList with
  |[x],[t]=>match ev s x with
   |some a=>fW P t a
   |none=>none
  |_,_=>none
 |.call {callee:=.builtin .cap,args,argTypes}=>match args.toList,argTypes.toList with
  |[x],[t]=>match ev s x with
   |some a=>SP P t a
   |none=>none
  |_,_=>none
 |.call {callee:=.builtin .min,args,..}=>match evs s args.toList with
  |some l=>ql P false l
  |none=>none
 |.call {callee:=.builtin .max,args,..}=>match evs s args.toList with
  |some l=>ql P true l
  |none=>none
 |_=>none
def aX(P:Program) (h:H) (t:TypeId):AV->Option AV
 |.ptr id off=>match h[id]? with
  |some (.cells cs .live)|some (.cells cs .frozen)=>ae P t cs off
  |_=>none
 |.iptr e off=>ae P t e.cells off
 |_=>none
def cr(P:Program) (h:H) (t:TypeId) (a v:AV):Option H:=
 match a with
 |.ptr id off=>match h[id]?,cS P t with
  |some (.cells cs .live),some n=>match v with
   |.tuple _=>none
   |.agg vs=>if vs.length=n/\off+n<=cs.length then some (h.set id (.cells (cs.take off++vs++cs.drop (off+n)) .live))else none
   |v=>if n=1/\off<cs.length then some (h.set id (.cells (cs.set off v) .live))else none
  |_,_=>none
 |_=>none
mutual
def gE(h:H):Nat->AV->Option AV
 |0,_=>none
 |n+1,v=>match v with
  |.isl es _=>some (.isl es .unk)
  |.ptr id off=>match h[id]? with
   |some (.cells cs .frozen)=>match gW h n cs with
    |some l=>some (.iptr (.agg l) off)
    |none=>none
   |_=>none
  |.msl id off sz len _=>match h[id]? with
   |some (.cells cs .frozen)=>match gW h n cs with
    |some l=>if off+len*sz<=l.length/\0<sz then some (.isl (ja sz len (l.drop off)) .unk)else none
    |none=>none
   |_=>none
  |.func f c=>match gW h n c with
   |some l=>some (.func f l)
   |none=>none
  |.iface t v=>match gE h n v with
   |some u=>some (.iface t u)
   |none=>none
  |.agg cs=>match gW h n cs with
   |some l=>some (.agg l)
   |none=>none
  |.tuple vs=>match gW h n vs with
   |some l=>some (.tuple l)
   |none=>none
  |.yield _ | .mp _=>none
  |v=>some v
def gW(h:H):Nat->LA->Option (LA)
 |0,_=>none
 |_+1,[]=>some []
 |n+1,v::r=>match gE h n v,gW h n r with
  |some a,some l=>some (a::l)
  |_,_=>none
def ja(sz:Nat):Nat->LA->LA
 |0,_=>[]
 |n+1,cs=>(match sz,cs with|1,c::_=>c|_,_=>.agg (cs.take sz))::ja sz n (cs.drop sz)
end
inductive Mode where
 |strip|ownT|ownM|openH|openQ|openF
 deriving DecidableEq,Inhabited
structure Cfg where
 P:Program
 mode:FuncId->Mode
 wr:FuncId->Tmp->Bool
 prim:FuncId->LA->H->Option (AV × H):=λ_ _ _=>none
 ext:FuncId->Array Value->Option Value:=λ_ _=>none
 mix:FuncId->Nat->Bool:=λ_ _=>false
 cut:FuncId->Nat->Option Nat:=λ_ _=>none
 extOk:∀f vs v (w:World),ext f vs=some v->(callFunc f vs).run P w=.ok (.value v) w:=by intro _ _ _ _ h;cases h
def dH:Nat:=1000000
mutual
def ij(h:H):Nat->AV->List Nat
 |0,_=>[]
 |n+1,v=>match v with
  |.ptr id _ | .msl id _ _ _ _=>id::(match h[id]? with|some (.cells cs _)=>cZ h n cs|_=>[])
  |.func _ c=>cZ h n c
  |.iface _ u=>ij h n u
  |.agg cs=>cZ h n cs
  |.tuple vs=>cZ h n vs
  |_=>[]
def cZ(h:H):Nat->LA->List Nat
 |0,_=>[]
 |_+1,[]=>[]
 |n+1,v::r=>ij h n v++cZ h n r
end
def sy(h:H) (i:Nat):H:=match h[i]? with
 |some (.cells cs .live)=>h.set i (.cells cs .frozen)
 |_=>h
def freeze(h:H):List Nat->H
 |[]=>h
 |i::r=>freeze (sy h i) r
def bi:H->H
 |[]=>[]
 |.cells cs .live::r=>.cells cs .frozen::bi r
 |o::r=>o::bi r
def pA(v:AV):Bool:=(fE v).isSome
def Hx:AV->Bool
 |.tuple vs=>vs.all pA
 |v=>pA v
def ng(vs:LA):Bool:=vs.all λv=>(ce v).isSome
def nV(P:Program) (m:Mode) (h1 h:H) (r:AV):Option (AV × H):=
 match r with
 |.isl es (.tok t)=>match h1[t]? with
  |some (.tok used ty)=>
   if used=es.length/\ng es=true/\cS P ty=some 1 then
    (match m with
    |.ownT=>some (.isl es (.tok h.length),h++[.tok used ty])
    |.ownM=>match es with
     |[]=>some (.isl [] .unk,h)
     |_=>some (.msl h.length 0 1 es.length none,h++[.cells es .live])
    |_=>none)
   else none
  |_=>none
 |.isl [] .full=>some (.isl [] .full,h)
 |.msl id off sz len _=>match h1[id]? with
  |some (.cells cs .live)=>
   if ng cs=true/\sz=1/\off+len<=cs.length then
    (match m with
    |.ownM=>some (.msl h.length off 1 len none,h++[.cells cs .live])
    |.ownT=>some (.isl ((cs.drop off).take len) .unk,h)
    |_=>none)
   else none
  |_=>none
 |_=>none
def jz(P:Program) (m:Mode) (h1 h:H) (r:AV):Option (AV × H):=
 match r with
 |.tuple (x::rest)=>match nV P m h1 h x with
  |some (x',h')=>if rest.all pA then some (.tuple (x'::rest),h')else none
  |none=>none
 |x=>nV P m h1 h x
def Fg:AV->Option AV
 |.isl es _=>some (.isl es .unk)
 |.ptr _ _ | .msl _ _ _ _ _ | .func _ _ | .iface _ _ | .agg _ | .tuple _ | .yield _ | .mp _=>none
 |v=>some v
def pP:LA->Option (LA)
 |[]=>some []
 |v::r=>match Fg v,pP r with
  |some a,some l=>some (a::l)
  |_,_=>none
def oH(h:H) (i:Nat):H:=match h[i]? with
 |some x=>(bi h).set i x
 |none=>h
def kr(h1 h2:H) (r:AV):Option (AV × H):=
 match r with
 |.msl id off sz len _=>match h1[id]? with
  |some (.cells cs .live)=>match gW (oH h1 id) dH cs with
   |some cs'=>if 0<sz/\off+len*sz<=cs.length then some (.msl h2.length off sz len none,h2++[.cells cs' .live])else none
   |none=>none
  |_=>none
 |_=>none
def jT(m:Mode) (h1 h2:H) (r:AV):Option (AV × H):=
 match m,r with
 |.ownM,.tuple [x,y]=>if pA y then match kr h1 h2 x with
   |some (x',h')=>some (.tuple [x',y],h')
   |none=>none
  else none
 |.ownM,x=>kr h1 h2 x
 |_,_=>none
def lQ(r:AV) (h1 h h2:H):Option (AV × H):=
 match gE (bi h1) dH r with
 |some r'=>some (r',if Hx r' then h else h2)
 |none=>none
def ld(P:Program) (m:Mode) (r:AV) (h1 h h2:H):Option (AV × H):=
 match m with
 |.ownT | .ownM=>match jz P m h1 h r with
  |some z=>some z
  |none=>match jT m h1 h2 r with
   |some z=>some z
   |none=>lQ r h1 h h2
 |_=>lQ r h1 h h2
mutual
def AV.same:AV->AV->Bool
 |.bool a,.bool b=>a==b
 |.int k a,.int l b=>decide (k=l)&&decide (a=b)
 |.str a,.str b=>decide (a=b)
 |.nilptr,.nilptr=>true
 |.ptr a b,.ptr c d=>decide (a=c)&&decide (b=d)
 |.iptr e o,.iptr f p=>AV.same e f&&decide (o=p)
 |.isl es x,.isl fs y=>AV.sames es fs&&decide (x=y)
 |.msl a b c d e,.msl a' b' c' d' e'=>decide (a=a')&&decide (b=b')&&decide (c=c')&&decide (d=d')&&decide (e=e')
 |.nilmap,.nilmap=>true
 |.nilFunc,.nilFunc=>true
 |.func f cs,.func g ds=>decide (f=g)&&AV.sames cs ds
 |.nilIface,.nilIface=>true
 |.iface t v,.iface u x=>decide (t=u)&&AV.same v x
 |.agg cs,.agg ds=>AV.sames cs ds
 |.tuple cs,.tuple ds=>AV.sames cs ds
 |.yield i,.yield j=>decide (i=j)
 |.mp i,.mp j=>decide (i=j)
 |_,_=>false
def AV.sames:LA->LA->Bool
 |[],[]=>true
 |a::l,b::m=>AV.same a b&&AV.sames l m
 |_,_=>false
end
def nlB:H->H->Bool
 |[],_=>true
 |.cells cs st::h,.cells ds st2::g=>AV.sames cs ds&&decide (st2=.dead↔st=.dead)&&nlB h g
 |.cells _ _::_,_=>false
 |_::h,_::g=>nlB h g
 |_::h,[]=>nlB h []
def news(h h':H):List Nat:=List.range' h.length (h'.length-h.length)
def dJ(C:Cfg) (run:FuncId->LA->H->Option (AV × H)) (f:FuncId) (args:LA) (h:H):Option (AV × H):=
 match C.mode f with
 |.openH=>run f args h
 |.openQ=>match run f args h with
  |some (r,h')=>if nlB h h' then some (r,h')else none
  |none=>none
 |.openF=>match run f args h with
  |some (r,h')=>if nlB h h' then(match gE (freeze h' (news h h')) dH r with
   |some r'=>some (r',freeze h' (news h h'))
   |none=>none)else none
  |none=>none
 |m=>match gW (freeze h (cZ h dH args)) dH args with
  |none=>none
  |some as=>match run f as []with
   |none=>none
   |some (r,h1)=>ld C.P m r h1 h (freeze h (cZ h dH args))
def km(h:H):AV->Option (LA)
 |.isl es _=>some es
 |.msl id off sz len _=>match h[id]? with
  |some (.cells cs .live)|some (.cells cs .frozen)=>if off+len*sz<=cs.length/\0<sz/\ng cs=true then some (ja sz len (cs.drop off))else none
  |_=>none
 |_=>none
def gl(P:Program) (t:TypeId):Option Nat:=(P.info? t).map (·.bytes)
def fe(P:Program) (t:TypeId):Bool:=match P.info? t with
 |some i=>match i.zero with
  |some z=>z.cells.size==i.size
  |none=>false
 |none=>false
def dy(P:Program) (h:H) (t:TypeId) (s x:AV):Option (AV × H):=
 match P.underlying t with
 |some (.slice elem)=>match cS P elem,gl P elem,km h x with
  |some sz,some by_,some ys=>
   if !fe P elem||sz==0 || !iN sz ys then none else
   match s with
   |.isl xs e=>
    if !iN sz xs then none
    else if !((xs.length+ys.length)*(by_+1)<=35184372088832)then none
    else match e with
    |.full=>match ys with
     |[]=>some (.isl xs .full,h)
     |_=>some (.isl (xs++ys) (.tok h.length),h++[.tok (xs.length+ys.length) elem])
    |.tok i=>match h[i]? with
     |some (.tok used ty)=>if used=xs.length/\ty=elem then some (.isl (xs++ys) (.tok i),h.set i (.tok (xs.length+ys.length) ty))else none
     |_=>none
    |.unk=>match ys with
     |[]=>some (.isl xs .unk,h)
     |_=>none
   |.msl id off sz' len (some c)=>match h[id]? with
    |some (.cells cs .live)=>
     if sz'=sz/\len+ys.length<=c/\off+(len+ys.length)*sz<=cs.length then
      some (.msl id off sz (len+ys.length) (some c),h.set id (.cells (cs.take (off+len*sz)++ys.flatMap AV.cells++cs.drop (off+(len+ys.length)*sz)) .live))
     else none
    |_=>none
   |_=>none
  |_,_,_=>none
 |_=>none
def zo(h:H) (sz:Nat):AV->Option (LA × Nat)
 |.isl ys _=>if iN sz ys then some (ys.flatMap AV.cells,ys.length)else none
 |.msl id off sz' n _=>match h[id]? with
  |some (.cells cs .live)|some (.cells cs .frozen)=>if sz'=sz/\off+n*sz<=cs.length then some ((cs.drop off).take (n*sz),n)else none
  |_=>none
 |.str s=>if sz=1 then some (s.data.toList.map λb=>.int .u8 b.toNat,s.size)else none
 |_=>none
def fo(P:Program) (h:H) (t:TypeId) (s x:AV):Option (AV × H):=
 match P.underlying t with
 |some (.slice elem)=>match cS P elem,gl P elem with
  |some sz,some by_=>if !fe P elem||sz==0 then none else
   match zo h sz x with
   |some (ys,m)=>match s with
    |.isl xs .full=>if m=0 then some (.isl xs .full,h)
     else if iN sz xs=true/\(xs.length+m)*(by_+1)<=35184372088832 then
      some (.msl h.length 0 sz (xs.length+m) none,h++[.cells (xs.flatMap AV.cells++ys) .live])
     else none
    |.msl id off sz' n c=>if m=0 then some (.msl id off sz' n c,h)
     else match h[id]? with
     |some (.cells cs .live)=>if off=0/\sz'=sz/\n*sz<=cs.length/\(n+m)*(by_+1)<=35184372088832 then
       some (.msl h.length 0 sz (n+m) none,h.set id (.cells cs .dead)++[.cells (cs.take (n*sz)++ys) .live])
      else none
     |_=>none
    |_=>none
   |none=>none
  |_,_=>none
 |_=>none
def oA(P:Program) (h:H) (t:TypeId) (s:AV) (n:Int):Option (AV × H):=
 match P.underlying t,s with
 |some (.slice elem),.isl xs .full=>match cS P elem,gl P elem,gy P elem with
  |some sz,some by_,some z=>if fe P elem=true/\0<sz/\iN sz xs=true/\0<=n/\(xs.length+n.toNat)*(by_+1)<=35184372088832 then
    if n=0 then some (.isl xs .full,h)
    else some (.msl h.length 0 sz (xs.length+n.toNat) none,h++[.cells (xs.flatMap AV.cells++(List.replicate n.toNat z.cells).flatten) .live])
   else none
  |_,_,_=>none
 |_,_=>none
def sD:AV->Bool
 |.msl _ _ _ _ (some _)=>true
 |_=>false
def cL(P:Program) (wr:Bool) (h:H) (t:TypeId) (s x:AV):Option (AV × H):=
 if !wr then dy P h t s x
 else if sD s then(match dy P h t s x with
  |some z=>some z
  |none=>fo P h t s x)
 else match fo P h t s x with
  |some z=>some z
  |none=>dy P h t s x
def K9(P:Program) (t:TypeId):Bool:=match P.underlying t with
 |some (.int .i64)=>true
 |_=>false
def yh(P:Program) (t:TypeId):Bool:=match P.underlying t with
 |some .string=>true
 |_=>false
def Ft(P:Program) (h:H) (t:TypeId) (x:AV):Option H:=match P.underlying t,x with
 |some (.slice _),.isl [] _=>some h
 |some (.slice elem),.msl id off sz len _=>match h[id]?,gy P elem with
  |some (.cells cs .live),some z=>if cS P elem=some sz/\off+len*sz<=cs.length then
    some (h.set id (.cells (cs.take off++(List.replicate len z.cells).flatten++cs.drop (off+len*sz)) .live))else none
  |_,_=>none
 |_,_=>none
def G6(P:Program) (h:H) (t:TypeId) (d x:AV):Option (AV × H):=match P.underlying t,d with
 |some (.slice elem),.msl id off sz len _=>match h[id]?,zo h sz x with
  |some (.cells cs .live),some (ys,m)=>if cS P elem=some sz/\off+len*sz<=cs.length then
    some (.int .i64 (Nat.min m len),h.set id (.cells (cs.take off++ys.take (Nat.min m len*sz)++cs.drop (off+Nat.min m len*sz)) .live))else none
  |_,_=>none
 |_,_=>none
def tG(n:Nat):LA->Bool
 |[]=>true
 |e::r=>e.cells.length==n&&bV e&&tG n r
def cQ(P:Program) (h:H) (t:TypeId) (len:Nat) (parts:List (Nat × AV)):Option (AV × H):=
 match P.underlying t with
 |some (.slice elem)=>match cS P elem with
  |some sz=>
   if !fe P elem||sz==0 || !(len*sz<=16777216) || !(parts.map (·.1)==List.range len)then none else
   match gW (freeze h (cZ h dH (parts.map (·.2)))) dH (parts.map (·.2))with
   |some es=>if tG sz es then some (.isl es .full,freeze h (cZ h dH (parts.map (·.2))))else none
   |none=>none
  |none=>none
 |_=>none
def fg(P:Program) (wr:Bool) (h:H) (t:TypeId) (l c:AV):Option (AV × H):=
 match P.underlying t,l,c with
 |some (.slice elem),.int .i64 l,.int .i64 c=>match cS P elem,gl P elem,gy P elem with
  |some sz,some by_,some z=>
   if sz==0 || !fe P elem || !(0<=l/\l<=c/\c<=1073741824) || !(by_<=4096)then none
   else if l=0/\wr=false then some (.isl [] (.tok h.length),h++[.tok 0 elem])
   else some (.msl h.length 0 sz l.toNat (some c.toNat),h++[.cells ((List.replicate c.toNat z.cells).flatten) .live])
  |_,_,_=>none
 |_,_,_=>none
def iG(P:Program) (t:TypeId):Option TypeId:=match P.underlying t with
 |some (.slice e)=>some e
 |_=>none
def kh:List (AV × AV)->Nat->Option (List MapEntry)
 |[],_=>some []
 |(k,_)::r,i=>match fE k,kh r (i+1)with
  |some kv,some l=>some ({key:=kv,val:=.int .i64 i,born:=0}::l)
  |_,_=>none
def MV(empty:Bool) (kt:TypeId) (k:Value) (l:List MapEntry):Sem (Option (Nat × Value)):=do
 Instr.checkKey empty 10000 kt k
 Instr.findKey kt k l
def vE(P:Program) (empty:Bool) (kt:TypeId) (key:AV) (es:List (AV × AV)):Option (Option Nat):=
 match fE key,kh es 0 with
 |some k,some l=>(dA P (MV empty kt k l)).map (·.map (·.1))
 |_,_=>none
def mf(P:Program) (h:H) (t:TypeId) (x k:AV) (ok:Bool):Option AV:=
 match P.underlying t with
 |some (.map kt et)=>match(match x with
   |.nilmap=>some []
   |.mp id=>match h[id]? with
    |some (.map es)=>some es
    |_=>none
   |_=>none)with
  |some es=>match vE P es.isEmpty kt k es with
   |some (some i)=>match es[i]? with
    |some e=>some (if ok then .tuple [e.2,.bool true]else e.2)
    |none=>none
   |some none=>match gy P et with
    |some z=>some (if ok then .tuple [z,.bool false]else z)
    |none=>none
   |none=>none
  |none=>none
 |_=>none
def ed(P:Program) (h:H) (t:TypeId) (x k v:AV):Option H:=
 match P.underlying t,x with
 |some (.map kt _),.mp id=>match h[id]? with
  |some (.map es)=>if !bV v then none else match vE P false kt k es with
   |some (some i)=>match es[i]?,fE k with
    |some e,some kv=>match fE e.1 with
     |some ov=>if Instr.sameBits 10000 ov kv then some (h.set id (.map (es.set i (k,v))))else none
     |none=>none
    |_,_=>none
   |some none=>if(fE k).isSome then some (h.set id (.map (es++[(k,v)])))else none
   |none=>none
  |_=>none
 |_,_=>none
def dL(o:Oper):Bool:=
 match o.op with
 |.assign x=>Gw x
 |.box .. | .alloc _ | .buildSlice .. | .makeSlice .. | .store .. | .makeMap .. | .lookup .. | .mapUpdate .. | .insert ..=>true
 |.call {callee:=.builtin b,..}=>match b with
  |.len | .min | .max | .cap=>false
  |_=>true
 |.call _=>true
 |_=>false
def yb(P:Program):Nat:=P.funcs.size+1
def fA(P:Program) (f:FuncId):Bool:=match P.funcs[f]? with
 |some fn=>fn.body.isSome
 |none=>false
def I3(C:Cfg) (g:FuncId) (l:LA) (h:H):Option (AV × H):=match toList l with
 |some vs=>match C.ext g vs.toArray with
  |some v=>match dl v with
   |some a=>some (a,h)
   |none=>none
  |none=>none
 |none=>none
def wrO(C:Cfg) (cf:FuncId) (o:Oper):Bool:=match o.dst with
 |some d=>C.wr cf d
 |none=>false
def opA(C:Cfg) (run:FuncId->LA->H->Option (AV × H)) (cf:FuncId) (s:PT) (h:H) (o:Oper):Option (AV × H):=
 match o.op with
 |.assign _=>if wrO C cf o=true then some (.isl [] .full,h)else match iG C.P o.type with
  |some e=>some (.isl [] (.tok h.length),h++[.tok 0 e])
  |none=>none
 |.box t x=>match ev s x,cS C.P t with
  |some a,some n=>if a.cells.length=n/\bV a then some (.ptr h.length 0,h++[.cells a.cells .live])else none
  |_,_=>none
 |.alloc t=>match gy C.P t with
  |some a=>some (.ptr h.length 0,h++[.cells a.cells .live])
  |none=>none
 |.buildSlice t len parts=>match fU s parts.toList with
  |some l=>cQ C.P h t len l
  |none=>none
 |.makeSlice t l c=>match ev s l,ev s c with
  |some a,some b=>fg C.P (wrO C cf o) h t a b
  |_,_=>none
 |.store t a x=>match ev s a,ev s x with
  |some p,some v=>match cr C.P h t p v with
   |some h'=>some (AV.undef,h')
   |none=>none
  |_,_=>none
 |.call {callee:=.builtin .append,args,argTypes}=>match args.toList,argTypes.toList with
  |[x,y],[t,u]=>if t=u then match ev s x,ev s y with
    |some a,some b=>cL C.P (wrO C cf o) h t a b
    |_,_=>none
   else if yh C.P u then match ev s x,ev s y with
    |some a,some b=>fo C.P h t a b
    |_,_=>none
   else if K9 C.P u then match ev s x,ev s y with
    |some a,some (.int .i64 n)=>oA C.P h t a n
    |_,_=>none
   else none
  |_,_=>none
 |.call {callee:=.value f,args,..}=>match ev s f,evs s args.toList with
  |some (.func g captured),some l=>if fA C.P g then dJ C run g (l++captured) h else I3 C g (l++captured) h
  |some (.yield i),some l=>run (yb C.P+i) l h
  |_,_=>none
 |.makeMap _ none=>some (.mp h.length,h++[.map []])
 |.lookup t x i ok=>match ev s x,ev s i with
  |some a,some b=>match mf C.P h t a b ok with
   |some v=>some (v,h)
   |none=>none
  |_,_=>none
 |.mapUpdate t m k v=>match ev s m,ev s k,ev s v with
  |some a,some b,some c=>match ed C.P h t a b c with
   |some h'=>some (AV.undef,h')
   |none=>none
  |_,_,_=>none
 |.insert t m k v=>match ev s m,ev s k,ev s v with
  |some a,some b,some c=>match ed C.P h t a b c with
   |some h'=>some (AV.undef,h')
   |none=>none
  |_,_,_=>none
 |.call {callee:=.builtin .clear,args,argTypes}=>match args.toList,argTypes.toList with
  |[x],[t]=>match ev s x with
   |some a=>match Ft C.P h t a with
    |some h'=>some (AV.undef,h')
    |none=>none
   |none=>none
  |_,_=>none
 |.call {callee:=.builtin .copy,args,argTypes}=>match args.toList,argTypes.toList with
  |[x,y],[t,u]=>if t=u\/yh C.P u=true then match ev s x,ev s y with
    |some a,some b=>G6 C.P h t a b
    |_,_=>none
   else none
  |_,_=>none
 |_=>none
def opV(C:Cfg) (run:FuncId->LA->H->Option (AV × H)) (cf:FuncId) (s:PT) (h:H) (o:Oper):Option (AV × H):=
 if dL o then opA C run cf s h o else
 match o.op with
 |.load t x=>match ev s x with
  |some a=>match aX C.P h t a with
   |some v=>some (v,h)
   |none=>none
  |none=>none
 |_=>match opN C.P s o with
  |some v=>some (v,h)
  |none=>none
def iP(s:PT) (d:Option Tmp) (v:AV):PT:=match d with
 |some t=>s.set t v
 |none=>s
def dY(ops:Array Oper) (s:PT) (j:Nat):Option Bool:=
 match(ops[j]?).bind (·.dst)with
 |some t=>match s.get t with
  |.bool b=>some b
  |_=>none
 |none=>none
def dZ(C:Cfg) (run:FuncId->LA->H->Option (AV × H)) (cf:FuncId) (ops:Array Oper):List Oper->PT->H->Option (PT × H)
 |[],s,h=>some (s,h)
 |o::rest,s,h=>
  if Region.wanted o (dY ops s)then
   match opV C run cf s h o with
   |some (v,h')=>dZ C run cf ops rest (iP s o.dst v) h'
   |none=>none
  else dZ C run cf ops rest (iP s o.dst AV.undef) h
def tq:List Operand->List Tmp
 |[]=>[]
 |.tmp t::r=>t::tq r
 |_::r=>tq r
def reads(ops:Array Oper) (o:Oper):List Tmp:=
 tq o.op.operands.toList++(match o.guard with
  |some (j,_)=>match(ops[j]?).bind (·.dst)with|some t=>[t]|none=>[]
  |none=>[])
def WM(o:Oper):Bool:=match o.op with
 |.store ..=>true
 |.call {callee:=.builtin .append,..}=>true
 |.call {callee:=.value _,..}=>true
 |.call {callee:=.builtin .clear,..} | .call {callee:=.builtin .copy,..}=>true
 |_=>false
def io(o:Oper):Bool:=match o.op with
 |.load ..=>true
 |_=>false
def clash(C:Cfg) (ops:Array Oper) (x y:Oper):Bool:=
 (dL x&&dL y)||(io x&&loud C y)||(loud C x&&io y)
  || (match x.dst with|some t=>(reads ops y).contains t||y.dst==some t|none=>false)
  || (match y.dst with|some t=>(reads ops x).contains t|none=>false)
 where
 loud (C:Cfg) (o:Oper):Bool:=match o.op with
  |.store ..=>true
  |.call {callee:=.builtin .clear,..} | .call {callee:=.builtin .copy,..}=>true
  |.call {callee:=.value (.func f),..}=>C.mode f==.openH
  |.call {callee:=.value _,..}=>true
  |_=>false
def vG(i:Nat) (o:Oper):Bool:=o.after.all λe=>!Region.binds .any e||decide (e.on<i)
def uh(C:Cfg) (ops:Array Oper):Bool:=
 let b:=Region.before ops
 (List.range ops.size).all λj=>match ops[j]? with
  |none=>true
  |some y=>vG j y&&(List.range j).all λi=>match ops[i]? with
   |none=>true
   |some x=>!clash C ops x y||(b.getD j 0).testBit i
def UE(o:Oper):Bool:=match o.op with
 |.select ..=>false
 |_=>true
def fv(C:Cfg) (cf:FuncId) (n:Nat) (inRound:Bool):Code->Bool
 |.skip | .exit _ | .ret=>true
 |.region id ops draw=>(ops.all λo=>(match o.dst with|some d=>decide (d<n)|none=>true)&&UE o)&&(!draw||C.mix cf id||uh C ops)
 |.seq a b=>fv C cf n inRound a&&fv C cf n inRound b
 |.cond _ a b=>fv C cf n inRound a&&fv C cf n inRound b
 |.block _ b=>fv C cf n inRound b
 |.loop b=>fv C cf n inRound b
 |.rangeFunc _ _ _ _=>!inRound
 |_=>false
def kK(s:PT) (o:Oper):List Nat:=match o.op with
 |.load _ x=>match ev s x with
  |some (.ptr id _)=>[id]
  |_=>[]
 |_=>[]
def dB:AV->List Nat
 |.msl id _ _ _ _=>[id]
 |_=>[]
def er(s:PT) (o:Oper):List Nat:=match o.op with
 |.call {callee:=.builtin .append,args,..}=>match args.toList with
  |[x,_]=>match ev s x with
   |some c=>dB c
   |none=>[]
  |_=>[]
 |_=>[]
def Gx(o:Oper):Bool:=match o.op with
 |.call {callee:=.builtin .append,..}=>true
 |_=>false
def ob:List Oper->Bool
 |[]=>false
 |o::r=>Gx o||ob r
def jP(C:Cfg) (run:FuncId->LA->H->Option (AV × H)) (cf:FuncId) (ops:Array Oper):List Oper->PT->H->List Nat × List Nat
 |[],_,_=>([],[])
 |o::rest,s,h=>
  if Region.wanted o (dY ops s)then
   match opV C run cf s h o with
   |some (v,h')=>(kK s o++(jP C run cf ops rest (iP s o.dst v) h').1,er s o++(jP C run cf ops rest (iP s o.dst v) h').2)
   |none=>([],[])
  else jP C run cf ops rest (iP s o.dst AV.undef) h
def oX(C:Cfg) (run:FuncId->LA->H->Option (AV × H)) (cf:FuncId) (ops:Array Oper) (draw:Bool) (s:PT) (h:H):Bool:=
 !draw || !ob ops.toList||(jP C run cf ops ops.toList s h).1.all λi=>!(jP C run cf ops ops.toList s h).2.contains i
def Cq:List (Tmp × AV)->PT->PT
 |[],s=>s
 |(p,v)::r,s=>Cq r (s.set p v)
mutual
def AV.mv(i k:Nat):AV->AV
 |.ptr id off=>.ptr (if id=i then k else id) off
 |.msl id off sz len cap=>.msl (if id=i then k else id) off sz len cap
 |.isl es (.tok t)=>.isl es (.tok (if t=i then k else t))
 |.yield j=>.yield (if j=i then k else j)
 |.mp id=>.mp (if id=i then k else id)
 |.func f c=>.func f (AV.mvs i k c)
 |.iface t v=>.iface t (AV.mv i k v)
 |.agg cs=>.agg (AV.mvs i k cs)
 |.tuple vs=>.tuple (AV.mvs i k vs)
 |v=>v
def AV.mvs(i k:Nat):LA->LA
 |[]=>[]
 |v::r=>AV.mv i k v::AV.mvs i k r
end
def VObj.mv(i k:Nat):VObj->VObj
 |.cells cs .dead=>.cells cs .dead
 |.cells cs st=>.cells (AV.mvs i k cs) st
 |.map es=>.map (es.map λe=>(e.1,e.2.mv i k))
 |o=>o
def IV:AV->List Nat
 |.mp id=>[id]
 |_=>[]
def lN:AV->List Nat
 |.isl _ (.tok t)=>[t]
 |_=>[]
def kl(C:Cfg) (s:PT) (h:H) (o:Oper):Option (List Nat × Bool):=
 if dL o then
  match o.op with
  |.store _ a _=>match ev s a with
   |some (.ptr id _)=>some ([id],true)
   |_=>none
  |.alloc _ | .box .. | .makeSlice .. | .makeMap .. | .assign _=>some ([],true)
  |.lookup _ m _ _ | .mapUpdate _ m _ _ | .insert _ m _ _=>match ev s m with
   |some a=>some (IV a,true)
   |none=>none
  |.buildSlice _ _ parts=>match fU s parts.toList with
   |some l=>some (cZ h dH (l.map (·.2)),true)
   |none=>none
  |.call {callee:=.builtin .append,args,..}=>match args.toList with
   |[x,y]=>match ev s x,ev s y with
    |some a,some b=>some (dB a++lN a++dB b,true)
    |_,_=>none
   |_=>none
  |.call {callee:=.value f,args,..}=>match ev s f,evs s args.toList with
   |some (.func g captured),some l=>if fA C.P g then(match C.mode g with
     |.openH=>none
     |.openQ=>none
     |.openF=>none
     |_=>some (cZ h dH (l++captured),true))else some ([],true)
   |_,_=>none
  |_=>none
 else match o.op with
  |.load _ x=>match ev s x with
   |some (.ptr id _)=>some ([id],false)
   |_=>some ([],false)
  |_=>some ([],false)
def fin(p:Nat) (T:List Nat) (h h':H):H:=h.mapIdx λid x=>
 if id=p then(match h'[h.length]? with
  |some y=>y.mv h.length p
  |none=>x)
 else if T.contains id then(match h'[id]? with
  |some y=>y.mv h.length p
  |none=>x)
 else x
abbrev FP:=List Nat × List Nat
def dX:Option VObj->Bool
 |some .void=>true
 |_=>false
def gG(C:Cfg) (run:FuncId->LA->H->Option (AV × H)) (cf:FuncId) (ops:Array Oper) (base i:Nat) (o:Oper) (s:PT) (h:H):Option (AV × H × FP):=
 if Region.wanted o (dY ops s)then
  match kl C s h o,opV C run cf s h o with
  |some (T,wr),some (v,h')=>
   if h'.length<=h.length+1/\T.contains (base+i)=false/\dX h[base+i]?=true then
    some (v.mv h.length (base+i),if wr then fin (base+i) T h h' else h,if wr then((base+i)::T,(base+i)::T)else(T,[]))
   else none
  |_,_=>none
 else some (AV.undef,h,([],[]))
def kR(C:Cfg) (run:FuncId->LA->H->Option (AV × H)) (cf:FuncId) (ops:Array Oper) (base:Nat):Nat->PT->H->Option (PT × H × List FP)
 |0,s,h=>some (s,h,[])
 |n+1,s,h=>match kR C run cf ops base n s h,ops[n]? with
  |some (s1,h1,F),some o=>match gG C run cf ops base n o s1 h1 with
   |some (v,h2,f)=>some (iP s1 o.dst v,h2,F++[f])
   |none=>none
  |_,_=>none
def jX(ops:Array Oper) (x y:Oper):Bool:=
 (match x.dst with|some t=>(reads ops y).contains t||y.dst==some t|none=>false)||(match y.dst with|some t=>(reads ops x).contains t|none=>false)
def rK(ops:Array Oper):Bool:=
 let b:=Region.before ops
 (List.range ops.size).all λj=>match ops[j]? with
  |none=>true
  |some y=>vG j y&&(List.range j).all λi=>match ops[i]? with
   |none=>true
   |some x=>!jX ops x y||(b.getD j 0).testBit i
def tQ(a b:List Nat):Bool:=a.any λi=>b.contains i
def tR(ops:Array Oper) (F:List FP):Bool:=
 let b:=Region.before ops
 (List.range F.length).all λj=>match F[j]? with
  |none=>true
  |some y=>(List.range j).all λi=>match F[i]? with
   |none=>true
   |some x=>!(tQ x.2 y.1||tQ y.2 x.1)||(b.getD j 0).testBit i
def xM(C:Cfg) (run:FuncId->LA->H->Option (AV × H)) (cf:FuncId) (ops:Array Oper) (s:PT) (h:H):Option (PT × H):=
 if rK ops then
  match kR C run cf ops h.length ops.size s (h++List.replicate ops.size .void)with
  |some (s',h',F)=>if tR ops F then some (s',h')else none
  |none=>none
 else none
def vh(ops:Array Oper) (c:Nat):Bool:=
 let b:=Region.before ops
 decide (c<ops.size)&&(List.range ops.size).all λj=>decide (j<c)||((List.range c).all (λi=>(b.getD j 0).testBit i)&&match ops[j]? with
  |some o=>o.guard.isNone&&(decide (j=c)||((b.getD j 0).testBit c && !dL o && !io o))
  |none=>true)
def fu(C:Cfg) (run:FuncId->LA->H->Option (AV × H)) (cf:FuncId) (c:Nat) (ops:Array Oper) (s:PT) (h:H):Option (PT × H):=
 if rK ops&&vh ops c then
  match kR C run cf ops h.length c s (h++List.replicate c .void)with
  |some (s',h',F)=>if tR ops F then dZ C run cf ops (ops.toList.drop c) s' h' else none
  |none=>none
 else none
def ut(C:Cfg) (run:FuncId->LA->H->Option (AV × H)) (cf:FuncId) (id:Nat) (ops:Array Oper) (s:PT) (h:H):Option (PT × H):=match C.cut cf id with
 |none=>xM C run cf ops s h
 |some c=>fu C run cf c ops s h
def fQ(C:Cfg) (run:FuncId->LA->H->Option (AV × H)) (cf:FuncId):Nat->Code->PT->H->Option (Ex × PT × H)
 |0,_,_,_=>none
 |n+1,c,s,h=>match c with
  |.skip=>some (.normal,s,h)
  |.region id ops draw=>if(draw&&C.mix cf id)=true then(match ut C run cf id ops s h with
   |some (s',h')=>some (.normal,s',h')
   |none=>none)else match dZ C run cf ops ops.toList s h with
   |some (s',h')=>if oX C run cf ops draw s h then some (.normal,s',h')else none
   |none=>none
  |.seq a b=>match fQ C run cf n a s h with
   |some (.normal,s',h')=>fQ C run cf n b s' h'
   |r=>r
  |.cond c a b=>match ev s c with
   |some (.bool true)=>fQ C run cf n a s h
   |some (.bool false)=>fQ C run cf n b s h
   |_=>none
  |.block id b=>match fQ C run cf n b s h with
   |some (.exit i,s',h')=>if i=id then some (.normal,s',h')else some (.exit i,s',h')
   |r=>r
  |.loop b=>match fQ C run cf n b s h with
   |some (.normal,s',h')=>fQ C run cf n (.loop b) s' h'
   |r=>r
  |.exit id=>some (.exit id,s,h)
  |.ret=>some (.ret,s,h)
  |.rangeFunc g ps assign body=>match ev s g,C.P.funcs[cf]? with
   |some (.func gf cap),some fn=>
    if fA C.P gf then
     match run gf (.yield h.length::cap) (h++[.loop ⟨cf,s,fn.ntmps,ps,assign,body⟩ .ready])with
     |some (_,h')=>match h'[h.length]? with
      |some (.loop L .ready)=>some (.normal,s,h'.set h.length (.loop L .over))
      |some (.loop L (.done e))=>some (e,s,h'.set h.length (.loop L .over))
      |_=>none
     |none=>none
    else none
   |_,_=>none
  |_=>none
def yN(C:Cfg) (run:FuncId->LA->H->Option (AV × H)) (n i:Nat) (args:LA) (h:H):Option (AV × H):=
 match h[i]? with
 |some (.loop L .ready)=>
  if args.length=L.ps.size/\L.ps.all (λp=>decide (p<L.n))/\fv C L.cf L.n true L.assign/\fv C L.cf L.n true L.body then
   match fQ C run L.cf n L.assign (Cq (L.ps.toList.zip args) L.s) h with
   |some (.normal,s1,h1)=>match h1[i]? with
    |some (.loop L1 .ready)=>match fQ C run L.cf n L.body s1 (h1.set i (.loop L1 .busy))with
     |some (e,_,h2)=>match h2[i]? with
      |some (.loop L2 .busy)=>match e with
       |.normal=>some (.bool true,h2.set i (.loop L2 .ready))
       |e=>some (.bool false,h2.set i (.loop L2 (.done e)))
      |_=>none
     |none=>none
    |_=>none
   |_=>none
  else none
 |_=>none
def mF:Nat->LA->PT->PT
 |_,[],s=>s
 |i,v::r,s=>mF (i+1) r (s.set i v)
def cG(P:Program) (s:PT) (h:H):ResultVar->Option AV
 |.tmp t=>some (s.get t)
 |.cell a t=>aX P h t (s.get a)
def df(P:Program) (s:PT) (h:H):List ResultVar->Option (LA)
 |[]=>some []
 |x::r=>match cG P s h x,df P s h r with
  |some a,some l=>some (a::l)
  |_,_=>none
def ag(P:Program) (s:PT) (h:H) (l:List ResultVar):Option AV:=
 match l with
 |[x]=>cG P s h x
 |l=>match df P s h l with
  |some vs=>some (.tuple vs)
  |none=>none
def eL(C:Cfg):Nat->FuncId->LA->H->Option (AV × H)
 |0,_,_,_=>none
 |n+1,f,args,h=>match C.P.funcs[f]? with
  |none=>if yb C.P<=f then yN C (eL C n) n (f-yb C.P) args h else none
  |some fn=>match C.prim f args h with
   |some z=>some z
   |none=>match fn.body with
    |none=>none
    |some c=>
     if fv C f fn.ntmps false c/\args.length<=fn.ntmps then
      match fQ C (eL C n) f n c (mF 0 args .leaf) h with
      |some (.normal,s,h')|some (.ret,s,h')=>match ag C.P s h' fn.results.toList with
       |some v=>some (v,h')
       |none=>none
      |_=>none
     else none
end Go.V
