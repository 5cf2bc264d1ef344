/- The value machine: a deterministic evaluator of the model's code over values without addresses, with what memory a call itself makes held apart. Definitions alone. -/
import Derived.Orders
import Derived.Laws.AppendOwn
import Derived.Laws.Slices
import Derived.Below
import Derived.KernelRfl
namespace Go.V
open Go

/-- What is known of a slice's spare room: nothing; none; that of the row with this number. -/
inductive Ext where
  | unk | full | tok (t : Nat)
  deriving DecidableEq, Inhabited

inductive AV where
  | bool (b : Bool)
  | int (k : IntKind) (n : Int)
  | str (s : ByteArray)
  | nilptr
  | ptr (id off : Nat)
  | iptr (e : AV) (off : Nat)
  | isl (elems : List AV) (x : Ext)
  | msl (id off sz len : Nat) (cap : Option Nat)
  | nilmap
  | nilFunc
  | func (f : FuncId) (captured : List AV)
  | nilIface
  | iface (t : TypeId) (v : AV)
  | agg (cells : List AV)
  | tuple (vs : List AV)
  | yield (i : Nat)
  deriving Inhabited

def AV.undef : AV := .tuple []
def AV.cells : AV → List AV
  | .agg cs => cs
  | v => [v]
/-- A value of one cell. -/
def AV.one : AV → Bool
  | .agg _ | .tuple _ => false
  | _ => true

/-- Slots. -/
inductive PT where
  | leaf
  | node (l : PT) (v : AV) (r : PT)
def PT.get : PT → Nat → AV
  | .leaf, _ => AV.undef
  | .node _ v _, 0 => v
  | .node l _ r, n + 1 => if n % 2 = 0 then l.get (n / 2) else r.get (n / 2)
def PT.setF : Nat → PT → Nat → AV → PT
  | 0, t, _, _ => t
  | _ + 1, .leaf, 0, v => .node .leaf v .leaf
  | _ + 1, .node l _ r, 0, v => .node l v r
  | f + 1, .leaf, n + 1, v => if n % 2 = 0 then .node (setF f .leaf (n / 2) v) AV.undef .leaf else .node .leaf AV.undef (setF f .leaf (n / 2) v)
  | f + 1, .node l u r, n + 1, v => if n % 2 = 0 then .node (setF f l (n / 2) v) u r else .node l u (setF f r (n / 2) v)
def PT.set (t : PT) (n : Nat) (v : AV) : PT := PT.setF (n + 1) t n v

inductive OSt where
  | live | frozen | dead
  deriving DecidableEq, Inhabited
inductive Ex where
  | normal | exit (id : Nat) | ret
  deriving DecidableEq
/-- A range over a function: between two rounds, in a round, left by a round, behind it. -/
inductive LSt where
  | ready | busy | done (e : Ex) | over
  deriving DecidableEq
structure LoopV where
  cf : FuncId
  s : PT
  n : Nat
  ps : Array Tmp
  assign : Code
  body : Code
inductive VObj where
  | cells (cs : List AV) (st : OSt)
  | tok (used : Nat) (ty : TypeId)
  | loop (L : LoopV) (st : LSt)
instance : Inhabited VObj := ⟨.tok 0 0⟩
/-- Nothing is said of it any more. -/
def VObj.gone : VObj → Bool
  | .cells _ .dead => true
  | .loop _ .over => true
  | _ => false
abbrev H := List VObj

/-- A constant. -/
def ofScalar : Value → Option AV
  | .bool b => some (.bool b)
  | .int k n => some (.int k n)
  | .string s => some (.str s)
  | .pointer none => some .nilptr
  | .slice none 0 0 => some (.isl [] .full)
  | .map none => some .nilmap
  | .nilFunc => some .nilFunc
  | .nilIface => some .nilIface
  | _ => none
def ofList : List Value → Option (List AV)
  | [] => some []
  | v :: r => match ofScalar v, ofList r with
    | some a, some l => some (a :: l)
    | _, _ => none
def ofConst : Value → Option AV
  | .agg cs => match ofList cs.toList with
    | some l => some (.agg l)
    | none => none
  | v => ofScalar v
def toScalar : AV → Option Value
  | .bool b => some (.bool b)
  | .int k n => some (.int k n)
  | .str s => some (.string s)
  | .nilptr => some (.pointer none)
  | .nilmap => some (.map none)
  | .nilFunc => some .nilFunc
  | .nilIface => some .nilIface
  | _ => none
def toList : List AV → Option (List Value)
  | [] => some []
  | v :: r => match toScalar v, toList r with
    | some a, some l => some (a :: l)
    | _, _ => none
def toVal : AV → Option Value
  | .agg cs => match toList cs with
    | some l => some (.agg l.toArray)
    | none => none
  | v => toScalar v

/-- The value of a computation that asks the world nothing. -/
def pureVal {α : Type} (P : Program) : Sem α → Option α
  | .pure a => some a
  | .program k => pureVal P (k P)
  | _ => none

def isAggB (P : Program) (t : TypeId) : Option Bool :=
  match P.underlying t with
  | some (.struct _) | some (.array _ _) => some true
  | some _ => some false
  | none => none
def sizeV (P : Program) (t : TypeId) : Option Nat := (P.info? t).map (·.size)
/-- The value of type t that lies at 'off' in these cells. -/
def cellsAt (P : Program) (t : TypeId) (cs : List AV) (off : Nat) : Option AV :=
  match isAggB P t, sizeV P t with
  | some true, some n => if off + n ≤ cs.length then some (.agg ((cs.drop off).take n)) else none
  | some false, some _ => cs[off]?
  | _, _ => none

def ev (s : PT) : Operand → Option AV
  | .tmp t => some (s.get t)
  | .const v => ofConst v
  | .global _ => none
  | .func f => some (.func f [])

def evs (s : PT) : List Operand → Option (List AV)
  | [] => some []
  | x :: r => match ev s x, evs s r with
    | some a, some l => some (a :: l)
    | _, _ => none

def isNil : Operand → Bool
  | .const (.slice none 0 0) => true
  | _ => false
def isPtrV : AV → Bool
  | .ptr _ _ | .iptr _ _ => true
  | _ => false
/-- A slice that is surely not nil. -/
def sureV : AV → Bool
  | .isl es _ => !es.isEmpty
  | .msl _ _ _ _ _ => true
  | _ => false
def isSl (P : Program) (t : TypeId) : Bool := match P.underlying t with
  | some (.slice _) => true
  | _ => false
def eqSign : BinOp → Option Bool
  | .eql => some false
  | .neq => some true
  | _ => none
/-- A slice compared with nil. -/
def nilCmpV (P : Program) (op : BinOp) (t : TypeId) (y : Operand) (a : AV) : Option AV :=
  if isNil y && sureV a && isSl P t then (eqSign op).map AV.bool else none
def binV (P : Program) (op : BinOp) (t : TypeId) (x y : Operand) (a b : AV) : Option AV :=
  match toVal a, toVal b with
  | some u, some v => match pureVal P (do eqGuard op t x y u v; binOp op t u v) with
    | some r => ofConst r
    | none => none
  | _, _ => match op, a, b with
    | .eql, .nilptr, .ptr _ _ | .eql, .nilptr, .iptr _ _ | .eql, .ptr _ _, .nilptr | .eql, .iptr _ _, .nilptr =>
      match P.underlying t with
      | some (.pointer _) => some (.bool false)
      | _ => none
    | .neq, .nilptr, .ptr _ _ | .neq, .nilptr, .iptr _ _ | .neq, .ptr _ _, .nilptr | .neq, .iptr _ _, .nilptr =>
      match P.underlying t with
      | some (.pointer _) => some (.bool true)
      | _ => none
    | _, _, _ => nilCmpV P op t y a
def unV (P : Program) (op : UnOp) (a : AV) : Option AV :=
  match toVal a with
  | some u => match pureVal P (Op.unary op u) with
    | some r => ofConst r
    | none => none
  | none => none
def convV (P : Program) (src dst : TypeId) (a : AV) : Option AV :=
  match toVal a with
  | some u => match pureVal P (convert src dst u) with
    | some r => ofConst r
    | none => none
  | none => none

def fillV (place : Nat → Option (Nat × Nat)) (cells : List AV) : List (Nat × AV) → Option (List AV)
  | [] => some cells
  | (i, v) :: rest =>
    match place i with
    | none => none
    | some (off, size) =>
      if v.cells.length = size ∧ off + size ≤ cells.length then fillV place (cells.take off ++ v.cells ++ cells.drop (off + size)) rest else none

def fieldPlaceV (P : Program) (t : TypeId) (i : Nat) : Option (Nat × Nat) :=
  match P.underlying t with
  | some (.struct fields) => match fields[i]? with
    | some f => match sizeV P f.type with
      | some n => some (f.offset, n)
      | none => none
    | none => none
  | _ => none

def notTuple : AV → Bool
  | .tuple _ => false
  | _ => true

def zeroV (P : Program) (t : TypeId) : Option AV :=
  match P.info? t with
  | some i => match i.zero with
    | some v => match ofConst v with
      | some a => if a.cells.length = i.size then some a else none
      | none => none
    | none => none
  | none => none

def partsV (s : PT) : List (Nat × Operand) → Option (List (Nat × AV))
  | [] => some []
  | (i, x) :: r => match ev s x, partsV s r with
    | some a, some l => if notTuple a then some ((i, a) :: l) else none
    | _, _ => none

/-- All fields of a struct have types of known sizes. -/
def fieldsKnown (P : Program) : List Field → Bool
  | [] => true
  | f :: r => (P.info? f.type).isSome && fieldsKnown P r

def buildV (P : Program) (t : TypeId) (parts : List (Nat × AV)) : Option AV :=
  match P.underlying t with
  | some (.struct fields) => if fieldsKnown P fields.toList then
      match zeroV P t with
      | some (.agg z) => match fillV (fieldPlaceV P t) z parts with
        | some cs => some (.agg cs)
        | none => none
      | _ => none
    else none
  | some (.array _ elem) => match zeroV P t, sizeV P elem with
    | some (.agg z), some n => match fillV (fun i => some (i * n, n)) z parts with
      | some cs => some (.agg cs)
      | none => none
    | _, _ => none
  | _ => none

def asI : AV → Option Int
  | .int _ n => some n
  | _ => none
def szOk (n : Nat) : List AV → Bool
  | [] => true
  | e :: _ => e.cells.length == n

def indexAddrV (P : Program) (t : TypeId) (x i : AV) : Option AV :=
  match P.underlying t, x, i with
  | some (.slice elem), .isl es _, .int _ n => match sizeV P elem with
    | some sz => if 0 ≤ n ∧ n < es.length then match es[n.toNat]? with
        | some e => if e.cells.length = sz then some (.iptr e 0) else none
        | none => none
      else none
    | none => none
  | some (.slice elem), .msl id off sz len _, .int _ n => if sizeV P elem = some sz ∧ 0 ≤ n ∧ n < len then some (.ptr id (off + n.toNat * sz)) else none
  | some (.array len elem), .ptr id off, .int _ n => match sizeV P elem with
    | some sz => if 0 ≤ n ∧ n < len then some (.ptr id (off + n.toNat * sz)) else none
    | none => none
  | some (.array len elem), .iptr e off, .int _ n => match sizeV P elem with
    | some sz => if 0 ≤ n ∧ n < len then some (.iptr e (off + n.toNat * sz)) else none
    | none => none
  | _, _, _ => none

def fieldAddrV (P : Program) (s : TypeId) (x : AV) (f : Nat) : Option AV :=
  match fieldPlaceV P s f with
  | some (o, n) => if n = 0 then none else match x with
    | .ptr id off => some (.ptr id (off + o))
    | .iptr e off => some (.iptr e (off + o))
    | _ => none
  | none => none

def fieldV (P : Program) (s : TypeId) (x : AV) (f : Nat) : Option AV :=
  match P.underlying s, x with
  | some (.struct fields), .agg cs => match fields[f]? with
    | some fd => cellsAt P fd.type cs fd.offset
    | none => none
  | _, _ => none

def indexV (P : Program) (t : TypeId) (x i : AV) : Option AV :=
  match x, i with
  | .agg cs, .int _ n => match P.underlying t with
    | some (.array len elem) => match sizeV P elem with
      | some sz => if 0 ≤ n ∧ n < len then cellsAt P elem cs (n.toNat * sz) else none
      | none => none
    | _ => none
  | .str s, .int k n => match pureVal P (Instr.index t (.string s) (.int k n)) with
    | some r => ofConst r
    | none => none
  | _, _ => none

/-- A bound of a slice expression: an int between 0 and the limit. -/
def bndV (limit : Nat) : AV → Option Nat
  | .int _ n => if 0 ≤ n ∧ n ≤ limit then some n.toNat else none
  | _ => none
def bndO (limit dflt : Nat) : Option AV → Option Nat
  | none => some dflt
  | some v => bndV limit v

def sliceV (P : Program) (t : TypeId) (x : AV) (lo hi mx : Option AV) : Option AV :=
  match P.underlying t, x, mx with
  | some (.slice elem), .isl es e, none => match sizeV P elem, bndO es.length es.length hi with
    | some sz, some h => match bndO h 0 lo with
      | some l => if !szOk sz es then none else
          if l = 0 ∧ h = es.length then some (.isl es e)
          else some (.isl ((es.take h).drop l) (if e = .full ∧ h = es.length then .full else .unk))
      | none => none
    | _, _ => none
  | some (.slice elem), .isl es _, some m => match sizeV P elem, bndV es.length m with
    | some sz, some m => match hi with
      | none => none
      | some hv => match bndV m hv with
        | some h => match bndO h 0 lo with
          | some l => if !szOk sz es then none else some (.isl ((es.take h).drop l) (if m = h then .full else .unk))
          | none => none
        | none => none
    | _, _ => none
  | some (.slice elem), .msl id off sz len cap, none => if sizeV P elem = some sz then
      match bndO len len hi with
      | some h => match bndO h 0 lo with
        | some l => match cap with
          | some c => some (.msl id (if c = l then off else off + l * sz) sz (h - l) (some (c - l)))
          | none => if l = 0 then some (.msl id off sz h none) else none
        | none => none
      | none => none
    else none
  | some (.array n elem), .ptr id off, none => match sizeV P elem, bndO n n hi with
    | some sz, some h => match bndO h 0 lo with
      | some l => if 0 < sz ∧ n ≤ 16777216 then some (.msl id (if n = l then off else off + l * sz) sz (h - l) (some (n - l))) else none
      | none => none
    | _, _ => none
  | some .string, .str s, none => match bndO s.size s.size hi with
    | some h => match bndO h 0 lo with
      | some l => some (.str (s.extract l h))
      | none => none
    | none => none
  | _, _, _ => none

def lenV (P : Program) (t : TypeId) (x : AV) : Option AV :=
  match P.underlying t, x with
  | some (.slice _), .isl es _ => some (.int .i64 es.length)
  | some (.slice _), .msl _ _ _ len _ => some (.int .i64 len)
  | some .string, .str s => some (.int .i64 s.size)
  | some (.array n _), _ => some (.int .i64 n)
  | _, _ => none

def minmaxV (P : Program) (mx : Bool) (args : List AV) : Option AV :=
  match toList args with
  | some us => match pureVal P (if mx then Builtin.max_ #[] 0 us.toArray else Builtin.min_ #[] 0 us.toArray) with
    | some r => ofConst r
    | none => none
  | none => none

/-- An operation that looks at its operands alone. -/
def opN (P : Program) (s : PT) (o : Oper) : Option AV :=
  match o.op with
  | .move x | .assign x => ev s x
  | .pick c a b => match ev s c with
    | some (.bool true) => ev s a
    | some (.bool false) => ev s b
    | _ => none
  | .build t parts => match partsV s parts.toList with
    | some l => buildV P t l
    | none => none
  | .nilCheck x => match ev s x with
    | some (.ptr i n) => some (.ptr i n)
    | some (.iptr e n) => some (.iptr e n)
    | some (.func f c) => some (.func f c)
    | _ => none
  | .binOp op t x y _ => match ev s x, ev s y with
    | some a, some b => binV P op t x y a b
    | _, _ => none
  | .unOp op _ x => match ev s x with
    | some a => unV P op a
    | none => none
  | .convert src dst x => match ev s x with
    | some a => convV P src dst a
    | none => none
  | .makeInterface t x => match P.underlying t, ev s x with
    | some (.interface _), _ => none
    | some _, some a => if notTuple a then some (.iface t a) else none
    | _, _ => none
  | .makeFunc (.func f) first captured => if first.isEmpty then match evs s captured.toList with
      | some l => some (.func f l)
      | none => none
    else none
  | .slice t x lo hi mx => match ev s x with
    | none => none
    | some a => match lo.map (ev s), hi.map (ev s), mx.map (ev s) with
      | some none, _, _ | _, some none, _ | _, _, some none => none
      | l, h, m => sliceV P t a (l.bind id) (h.bind id) (m.bind id)
  | .fieldAddr t x f => match ev s x with
    | some a => fieldAddrV P t a f
    | none => none
  | .field t x f => match ev s x with
    | some a => fieldV P t a f
    | none => none
  | .indexAddr t x i => match ev s x, ev s i with
    | some a, some b => indexAddrV P t a b
    | _, _ => none
  | .index t x i => match ev s x, ev s i with
    | some a, some b => indexV P t a b
    | _, _ => none
  | .extract x i => match ev s x with
    | some (.tuple l) => l[i]?
    | _ => none
  | .call { callee := .builtin .len, args, argTypes } => match args.toList, argTypes.toList with
    | [x], [t] => match ev s x with
      | some a => lenV P t a
      | none => none
    | _, _ => none
  | .call { callee := .builtin .min, args, .. } => match evs s args.toList with
    | some l => minmaxV P false l
    | none => none
  | .call { callee := .builtin .max, args, .. } => match evs s args.toList with
    | some l => minmaxV P true l
    | none => none
  | _ => none

def loadV (P : Program) (h : H) (t : TypeId) : AV → Option AV
  | .ptr id off => match h[id]? with
    | some (.cells cs .live) | some (.cells cs .frozen) => cellsAt P t cs off
    | _ => none
  | .iptr e off => cellsAt P t e.cells off
  | _ => none

def storeV (P : Program) (h : H) (t : TypeId) (a v : AV) : Option H :=
  match a with
  | .ptr id off => match h[id]?, sizeV P t with
    | some (.cells cs .live), some n => match v with
      | .tuple _ => none
      | .agg vs => if vs.length = n ∧ off + n ≤ cs.length then some (h.set id (.cells (cs.take off ++ vs ++ cs.drop (off + n)) .live)) else none
      | v => if n = 1 ∧ off < cs.length then some (h.set id (.cells (cs.set off v) .live)) else none
    | _, _ => none
  | _ => none

mutual
/-- What a value holds, once and for all: every cell that it leads to must be past writing. -/
def snap (h : H) : Nat → AV → Option AV
  | 0, _ => none
  | n + 1, v => match v with
    | .isl es _ => some (.isl es .unk)
    | .ptr id off => match h[id]? with
      | some (.cells cs .frozen) => match snaps h n cs with
        | some l => some (.iptr (.agg l) off)
        | none => none
      | _ => none
    | .msl id off sz len _ => match h[id]? with
      | some (.cells cs .frozen) => match snaps h n cs with
        | some l => if off + len * sz ≤ l.length ∧ 0 < sz then some (.isl (chunk sz len (l.drop off)) .unk) else none
        | none => none
      | _ => none
    | .func f c => match snaps h n c with
      | some l => some (.func f l)
      | none => none
    | .iface t v => match snap h n v with
      | some u => some (.iface t u)
      | none => none
    | .agg cs => match snaps h n cs with
      | some l => some (.agg l)
      | none => none
    | .tuple vs => match snaps h n vs with
      | some l => some (.tuple l)
      | none => none
    | .yield _ => none
    | v => some v
def snaps (h : H) : Nat → List AV → Option (List AV)
  | 0, _ => none
  | _ + 1, [] => some []
  | n + 1, v :: r => match snap h n v, snaps h n r with
    | some a, some l => some (a :: l)
    | _, _ => none
def chunk (sz : Nat) : Nat → List AV → List AV
  | 0, _ => []
  | n + 1, cs => (match sz, cs with | 1, c :: _ => c | _, _ => .agg (cs.take sz)) :: chunk sz n (cs.drop sz)
end

/-- How a callee's result comes back: as what it holds · with its row's spare room · as a row that may be written · the callee works on the caller's own memory. -/
inductive Mode where
  | strip | ownT | ownM | openH
  deriving DecidableEq, Inhabited
structure Cfg where
  P : Program
  mode : FuncId → Mode
  wr : FuncId → Tmp → Bool
  prim : FuncId → List AV → H → Option (AV × H) := fun _ _ _ => none

/-- The nesting that 'snap' and 'reach' look into. -/
def deep : Nat := 1000000
mutual
def reach (h : H) : Nat → AV → List Nat
  | 0, _ => []
  | n + 1, v => match v with
    | .ptr id _ | .msl id _ _ _ _ => id :: (match h[id]? with | some (.cells cs _) => reachs h n cs | _ => [])
    | .func _ c => reachs h n c
    | .iface _ u => reach h n u
    | .agg cs => reachs h n cs
    | .tuple vs => reachs h n vs
    | _ => []
def reachs (h : H) : Nat → List AV → List Nat
  | 0, _ => []
  | _ + 1, [] => []
  | n + 1, v :: r => reach h n v ++ reachs h n r
end
def freeze1 (h : H) (i : Nat) : H := match h[i]? with
  | some (.cells cs .live) => h.set i (.cells cs .frozen)
  | _ => h
def freeze (h : H) : List Nat → H
  | [] => h
  | i :: r => freeze (freeze1 h i) r
def freezeAll : H → H
  | [] => []
  | .cells cs .live :: r => .cells cs .frozen :: freezeAll r
  | o :: r => o :: freezeAll r

/-- No reference in it. -/
def scalOne (v : AV) : Bool := (toVal v).isSome
def scal : AV → Bool
  | .tuple vs => vs.all scalOne
  | v => scalOne v
def scalars (vs : List AV) : Bool := vs.all fun v => (toScalar v).isSome

/-- One result comes back to a caller whose memory is h. ownT: what the caller may append to; ownM: what it may write. -/
def adopt (P : Program) (m : Mode) (h1 h : H) (r : AV) : Option (AV × H) :=
  match r with
  | .isl es (.tok t) => match h1[t]? with
    | some (.tok used ty) =>
      if used = es.length ∧ scalars es = true ∧ sizeV P ty = some 1 then
        (match m with
        | .ownT => some (.isl es (.tok h.length), h ++ [.tok used ty])
        | .ownM => match es with
          | [] => some (.isl [] .unk, h)
          | _ => some (.msl h.length 0 1 es.length none, h ++ [.cells es .live])
        | _ => none)
      else none
    | _ => none
  | .isl [] .full => some (.isl [] .full, h)
  | .msl id off sz len _ => match h1[id]? with
    | some (.cells cs .live) =>
      if scalars cs = true ∧ sz = 1 ∧ off + len ≤ cs.length then
        (match m with
        | .ownM => some (.msl h.length off 1 len none, h ++ [.cells cs .live])
        | .ownT => some (.isl ((cs.drop off).take len) .unk, h)
        | _ => none)
      else none
    | _ => none
  | _ => none

def adoptR (P : Program) (m : Mode) (h1 h : H) (r : AV) : Option (AV × H) :=
  match r with
  | .tuple (x :: rest) => match adopt P m h1 h x with
    | some (x', h') => if rest.all scalOne then some (.tuple (x' :: rest), h') else none
    | none => none
  | x => adopt P m h1 h x

def stripV (r : AV) (h1 h h2 : H) : Option (AV × H) :=
  match snap (freezeAll h1) deep r with
  | some r' => some (r', if scal r' then h else h2)
  | none => none

def finishV (P : Program) (m : Mode) (r : AV) (h1 h h2 : H) : Option (AV × H) :=
  match m with
  | .ownT | .ownM => match adoptR P m h1 h r with
    | some z => some z
    | none => stripV r h1 h h2
  | _ => stripV r h1 h h2

def applyCall (C : Cfg) (run : FuncId → List AV → H → Option (AV × H)) (f : FuncId) (args : List AV) (h : H) : Option (AV × H) :=
  match C.mode f with
  | .openH => run f args h
  | m => match snaps (freeze h (reachs h deep args)) deep args with
    | none => none
    | some as => match run f as [] with
      | none => none
      | some (r, h1) => finishV C.P m r h1 h (freeze h (reachs h deep args))

/-- The elements of a slice (those of a row that may be written: only where they hold no reference). -/
def elemsV (h : H) : AV → Option (List AV)
  | .isl es _ => some es
  | .msl id off sz len _ => match h[id]? with
    | some (.cells cs .live) | some (.cells cs .frozen) =>
      if off + len * sz ≤ cs.length ∧ 0 < sz ∧ scalars cs = true then some (chunk sz len (cs.drop off)) else none
    | _ => none
  | _ => none

def bytesV (P : Program) (t : TypeId) : Option Nat := (P.info? t).map (·.bytes)
/-- Zero cells of a type are known. -/
def zeroOk (P : Program) (t : TypeId) : Bool := match P.info? t with
  | some i => match i.zero with
    | some z => z.cells.size == i.size
    | none => false
  | none => false

def appendV (P : Program) (h : H) (t : TypeId) (s x : AV) : Option (AV × H) :=
  match P.underlying t with
  | some (.slice elem) => match sizeV P elem, bytesV P elem, elemsV h x with
    | some sz, some by_, some ys =>
      if !zeroOk P elem || sz == 0 || !szOk sz ys then none else
      match s with
      | .isl xs e =>
        if !szOk sz xs then none
        else if !((xs.length + ys.length) * (by_ + 1) ≤ 35184372088832) then none
        else match e with
        | .full => match ys with
          | [] => some (.isl xs .full, h)
          | _ => some (.isl (xs ++ ys) (.tok h.length), h ++ [.tok (xs.length + ys.length) elem])
        | .tok i => match h[i]? with
          | some (.tok used ty) => if used = xs.length ∧ ty = elem then some (.isl (xs ++ ys) (.tok i), h.set i (.tok (xs.length + ys.length) ty)) else none
          | _ => none
        | .unk => match ys with
          | [] => some (.isl xs .unk, h)
          | _ => none
      | .msl id off sz' len (some c) => match h[id]? with
        | some (.cells cs .live) =>
          if sz' = sz ∧ len + ys.length ≤ c ∧ off + (len + ys.length) * sz ≤ cs.length then
            some (.msl id off sz (len + ys.length) (some c), h.set id (.cells (cs.take (off + len * sz) ++ ys.flatMap AV.cells ++ cs.drop (off + (len + ys.length) * sz)) .live))
          else none
        | _ => none
      | _ => none
    | _, _, _ => none
  | _ => none

/-- Appending, where what comes is to be written: a row of one's own. -/
def appendW (P : Program) (wr : Bool) (h : H) (t : TypeId) (s x : AV) : Option (AV × H) :=
  match wr, s, x with
  | true, .isl [] .full, .isl ys _ => match appendV P [] t (.isl [] .full) (.isl ys .unk) with
    | some (r, h1) => adopt P .ownM h1 h r
    | none => none
  | _, _, _ => appendV P h t s x

def elemOkV (n : Nat) : List AV → Bool
  | [] => true
  | e :: r => e.cells.length == n && notTuple e && elemOkV n r
def buildSliceV (P : Program) (h : H) (t : TypeId) (len : Nat) (parts : List (Nat × AV)) : Option (AV × H) :=
  match P.underlying t with
  | some (.slice elem) => match sizeV P elem with
    | some sz =>
      if !zeroOk P elem || sz == 0 || !(len * sz ≤ 16777216) || !(parts.map (·.1) == List.range len) then none else
      match snaps (freeze h (reachs h deep (parts.map (·.2)))) deep (parts.map (·.2)) with
      | some es => if elemOkV sz es then some (.isl es .full, freeze h (reachs h deep (parts.map (·.2)))) else none
      | none => none
    | none => none
  | _ => none

def makeSliceV (P : Program) (wr : Bool) (h : H) (t : TypeId) (l c : AV) : Option (AV × H) :=
  match P.underlying t, l, c with
  | some (.slice elem), .int .i64 l, .int .i64 c => match sizeV P elem, bytesV P elem, zeroV P elem with
    | some sz, some by_, some z =>
      if sz == 0 || !zeroOk P elem || !(0 ≤ l ∧ l ≤ c ∧ c ≤ 1073741824) || !(by_ ≤ 4096) then none
      else if l = 0 ∧ wr = false then some (.isl [] (.tok h.length), h ++ [.tok 0 elem])
      else some (.msl h.length 0 sz l.toNat (some c.toNat), h ++ [.cells ((List.replicate c.toNat z.cells).flatten) .live])
    | _, _, _ => none
  | _, _, _ => none

def isSliceT (P : Program) (t : TypeId) : Option TypeId := match P.underlying t with
  | some (.slice e) => some e
  | _ => none

/-- An operation that makes or turns memory, or may. -/
def active (o : Oper) : Bool :=
  match o.op with
  | .assign x => isNil x
  | .box .. | .alloc _ | .buildSlice .. | .makeSlice .. | .store .. => true
  | .call { callee := .builtin b, .. } => match b with
    | .len | .min | .max => false
    | _ => true
  | .call _ => true
  | _ => false

/-- The number from which on calls of yield are counted. -/
def yb (P : Program) : Nat := P.funcs.size + 1
def hasBody (P : Program) (f : FuncId) : Bool := match P.funcs[f]? with
  | some fn => fn.body.isSome
  | none => false

def opA (C : Cfg) (run : FuncId → List AV → H → Option (AV × H)) (cf : FuncId) (s : PT) (h : H) (o : Oper) : Option (AV × H) :=
  match o.op with
  | .assign _ => match isSliceT C.P o.type with
    | some e => some (.isl [] (.tok h.length), h ++ [.tok 0 e])
    | none => none
  | .box t x => match ev s x, sizeV C.P t with
    | some a, some n => if a.cells.length = n ∧ notTuple a then some (.ptr h.length 0, h ++ [.cells a.cells .live]) else none
    | _, _ => none
  | .alloc t => match zeroV C.P t with
    | some a => some (.ptr h.length 0, h ++ [.cells a.cells .live])
    | none => none
  | .buildSlice t len parts => match partsV s parts.toList with
    | some l => buildSliceV C.P h t len l
    | none => none
  | .makeSlice t l c => match ev s l, ev s c with
    | some a, some b => makeSliceV C.P (match o.dst with | some d => C.wr cf d | none => false) h t a b
    | _, _ => none
  | .store t a x => match ev s a, ev s x with
    | some p, some v => match storeV C.P h t p v with
      | some h' => some (AV.undef, h')
      | none => none
    | _, _ => none
  | .call { callee := .builtin .append, args, argTypes } => match args.toList, argTypes.toList with
    | [x, y], [t, u] => if t = u then match ev s x, ev s y with
        | some a, some b => appendW C.P (match o.dst with | some d => C.wr cf d | none => false) h t a b
        | _, _ => none
      else none
    | _, _ => none
  | .call { callee := .value f, args, .. } => match ev s f, evs s args.toList with
    | some (.func g captured), some l => if hasBody C.P g then applyCall C run g (l ++ captured) h else none
    | some (.yield i), some l => run (yb C.P + i) l h
    | _, _ => none
  | _ => none

def opV (C : Cfg) (run : FuncId → List AV → H → Option (AV × H)) (cf : FuncId) (s : PT) (h : H) (o : Oper) : Option (AV × H) :=
  if active o then opA C run cf s h o else
  match o.op with
  | .load t x => match ev s x with
    | some a => match loadV C.P h t a with
      | some v => some (v, h)
      | none => none
    | none => none
  | _ => match opN C.P s o with
    | some v => some (v, h)
    | none => none

def putV (s : PT) (d : Option Tmp) (v : AV) : PT := match d with
  | some t => s.set t v
  | none => s
def yieldedV (ops : Array Oper) (s : PT) (j : Nat) : Option Bool :=
  match (ops[j]?).bind (·.dst) with
  | some t => match s.get t with
    | .bool b => some b
    | _ => none
  | none => none

def runOps (C : Cfg) (run : FuncId → List AV → H → Option (AV × H)) (cf : FuncId) (ops : Array Oper) : List Oper → PT → H → Option (PT × H)
  | [], s, h => some (s, h)
  | o :: rest, s, h =>
    if Region.wanted o (yieldedV ops s) then
      match opV C run cf s h o with
      | some (v, h') => runOps C run cf ops rest (putV s o.dst v) h'
      | none => none
    else runOps C run cf ops rest (putV s o.dst AV.undef) h

/-- Which temporaries an operation looks at or writes. -/
def tmpsOf : List Operand → List Tmp
  | [] => []
  | .tmp t :: r => t :: tmpsOf r
  | _ :: r => tmpsOf r
def reads (ops : Array Oper) (o : Oper) : List Tmp :=
  tmpsOf o.op.operands.toList ++ (match o.guard with
    | some (j, _) => match (ops[j]?).bind (·.dst) with | some t => [t] | none => []
    | none => [])
def writesW (o : Oper) : Bool := match o.op with
  | .store .. => true
  | .call { callee := .builtin .append, .. } => true
  | .call { callee := .value _, .. } => true
  | _ => false
def isLoad (o : Oper) : Bool := match o.op with
  | .load .. => true
  | _ => false
/-- Two operations that may not change places. -/
def clash (C : Cfg) (ops : Array Oper) (x y : Oper) : Bool :=
  (active x && active y) || (isLoad x && loud C y) || (loud C x && isLoad y)
    || (match x.dst with | some t => (reads ops y).contains t || y.dst == some t | none => false)
    || (match y.dst with | some t => (reads ops x).contains t | none => false)
  where
  /-- It may turn what a load reads. -/
  loud (C : Cfg) (o : Oper) : Bool := match o.op with
    | .store .. => true
    | .call { callee := .value (.func f), .. } => C.mode f == .openH
    | .call { callee := .value _, .. } => true
    | _ => false

def edgesLow (i : Nat) (o : Oper) : Bool := o.after.all fun e => !Region.binds .any e || decide (e.on < i)
/-- Every two operations that may not change places stand in an order that every schedule keeps. -/
def orderOk (C : Cfg) (ops : Array Oper) : Bool :=
  let b := Region.before ops
  (List.range ops.size).all fun j => match ops[j]? with
    | none => true
    | some y => edgesLow j y && (List.range j).all fun i => match ops[i]? with
      | none => true
      | some x => !clash C ops x y || (b.getD j 0).testBit i
def noSel (o : Oper) : Bool := match o.op with
  | .select .. => false
  | _ => true
def codeOk (C : Cfg) (n : Nat) (inRound : Bool) : Code → Bool
  | .skip | .exit _ | .ret => true
  | .region _ ops draw => (ops.all fun o => (match o.dst with | some d => decide (d < n) | none => true) && noSel o) && (!draw || orderOk C ops)
  | .seq a b => codeOk C n inRound a && codeOk C n inRound b
  | .cond _ a b => codeOk C n inRound a && codeOk C n inRound b
  | .block _ b => codeOk C n inRound b
  | .loop b => codeOk C n inRound b
  | .rangeFunc _ _ _ _ => !inRound
  | _ => false

/-- Which rows of one's own an operation loads from; appends to. -/
def ldId (s : PT) (o : Oper) : List Nat := match o.op with
  | .load _ x => match ev s x with
    | some (.ptr id _) => [id]
    | _ => []
  | _ => []
def mslId : AV → List Nat
  | .msl id _ _ _ _ => [id]
  | _ => []
def appId (s : PT) (o : Oper) : List Nat := match o.op with
  | .call { callee := .builtin .append, args, .. } => match args.toList with
    | [x, _] => match ev s x with
      | some c => mslId c
      | none => []
    | _ => []
  | _ => []
def isApp (o : Oper) : Bool := match o.op with
  | .call { callee := .builtin .append, .. } => true
  | _ => false
def anyApp : List Oper → Bool
  | [] => false
  | o :: r => isApp o || anyApp r
def drawIds (C : Cfg) (run : FuncId → List AV → H → Option (AV × H)) (cf : FuncId) (ops : Array Oper) : List Oper → PT → H → List Nat × List Nat
  | [], _, _ => ([], [])
  | o :: rest, s, h =>
    if Region.wanted o (yieldedV ops s) then
      match opV C run cf s h o with
      | some (v, h') => (ldId s o ++ (drawIds C run cf ops rest (putV s o.dst v) h').1, appId s o ++ (drawIds C run cf ops rest (putV s o.dst v) h').2)
      | none => ([], [])
    else drawIds C run cf ops rest (putV s o.dst AV.undef) h
/-- In a region whose order is drawn, no row that is appended to is loaded from. -/
def drawOk (C : Cfg) (run : FuncId → List AV → H → Option (AV × H)) (cf : FuncId) (ops : Array Oper) (draw : Bool) (s : PT) (h : H) : Bool :=
  !draw || !anyApp ops.toList || (drawIds C run cf ops ops.toList s h).1.all fun i => !(drawIds C run cf ops ops.toList s h).2.contains i
/-- The temporaries of a round: the loop's variables put in. -/
def setPs : List (Tmp × AV) → PT → PT
  | [], s => s
  | (p, v) :: r, s => setPs r (s.set p v)
def exec (C : Cfg) (run : FuncId → List AV → H → Option (AV × H)) (cf : FuncId) : Nat → Code → PT → H → Option (Ex × PT × H)
  | 0, _, _, _ => none
  | n + 1, c, s, h => match c with
    | .skip => some (.normal, s, h)
    | .region _ ops draw => match runOps C run cf ops ops.toList s h with
      | some (s', h') => if drawOk C run cf ops draw s h then some (.normal, s', h') else none
      | none => none
    | .seq a b => match exec C run cf n a s h with
      | some (.normal, s', h') => exec C run cf n b s' h'
      | r => r
    | .cond c a b => match ev s c with
      | some (.bool true) => exec C run cf n a s h
      | some (.bool false) => exec C run cf n b s h
      | _ => none
    | .block id b => match exec C run cf n b s h with
      | some (.exit i, s', h') => if i = id then some (.normal, s', h') else some (.exit i, s', h')
      | r => r
    | .loop b => match exec C run cf n b s h with
      | some (.normal, s', h') => exec C run cf n (.loop b) s' h'
      | r => r
    | .exit id => some (.exit id, s, h)
    | .ret => some (.ret, s, h)
    | .rangeFunc g ps assign body => match ev s g, C.P.funcs[cf]? with
      | some (.func gf cap), some fn =>
        if hasBody C.P gf then
          match run gf (.yield h.length :: cap) (h ++ [.loop ⟨cf, s, fn.ntmps, ps, assign, body⟩ .ready]) with
          | some (_, h') => match h'[h.length]? with
            | some (.loop L .ready) => some (.normal, s, h'.set h.length (.loop L .over))
            | some (.loop L (.done e)) => some (e, s, h'.set h.length (.loop L .over))
            | _ => none
          | none => none
        else none
      | _, _ => none
    | _ => none

/-- One round: the call of yield. -/
def roundV (C : Cfg) (run : FuncId → List AV → H → Option (AV × H)) (n i : Nat) (args : List AV) (h : H) : Option (AV × H) :=
  match h[i]? with
  | some (.loop L .ready) =>
    if args.length = L.ps.size ∧ L.ps.all (fun p => decide (p < L.n)) ∧ codeOk C L.n true L.assign ∧ codeOk C L.n true L.body then
      match exec C run L.cf n L.assign (setPs (L.ps.toList.zip args) L.s) h with
      | some (.normal, s1, h1) => match h1[i]? with
        | some (.loop L1 .ready) => match exec C run L.cf n L.body s1 (h1.set i (.loop L1 .busy)) with
          | some (e, _, h2) => match h2[i]? with
            | some (.loop L2 .busy) => match e with
              | .normal => some (.bool true, h2.set i (.loop L2 .ready))
              | e => some (.bool false, h2.set i (.loop L2 (.done e)))
            | _ => none
          | none => none
        | _ => none
      | _ => none
    else none
  | _ => none

def initS : Nat → List AV → PT → PT
  | _, [], s => s
  | i, v :: r, s => initS (i + 1) r (s.set i v)
def resV (P : Program) (s : PT) (h : H) : ResultVar → Option AV
  | .tmp t => some (s.get t)
  | .cell a t => loadV P h t (s.get a)
def resVs (P : Program) (s : PT) (h : H) : List ResultVar → Option (List AV)
  | [] => some []
  | x :: r => match resV P s h x, resVs P s h r with
    | some a, some l => some (a :: l)
    | _, _ => none
def resultV (P : Program) (s : PT) (h : H) (l : List ResultVar) : Option AV :=
  match l with
  | [x] => resV P s h x
  | l => match resVs P s h l with
    | some vs => some (.tuple vs)
    | none => none

def callR (C : Cfg) : Nat → FuncId → List AV → H → Option (AV × H)
  | 0, _, _, _ => none
  | n + 1, f, args, h => match C.P.funcs[f]? with
    | none => if yb C.P ≤ f then roundV C (callR C n) n (f - yb C.P) args h else none
    | some fn => match C.prim f args h with
      | some z => some z
      | none => match fn.body with
        | none => none
        | some c =>
          if codeOk C fn.ntmps false c ∧ args.length ≤ fn.ntmps then
            match exec C (callR C n) f n c (initS 0 args .leaf) h with
            | some (.normal, s, h') | some (.ret, s, h') => match resultV C.P s h' fn.results.toList with
              | some v => some (v, h')
              | none => none
            | _ => none
          else none

end Go.V
