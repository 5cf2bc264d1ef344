/- The value machine: a deterministic evaluator of the model's code over values without addresses, with what memory a call itself makes held apart. Definitions alone. -/
import Derived.Orders
import Derived.Laws.AppendOwn
import Derived.Laws.Slices
import Derived.Below
import Derived.KernelRfl
namespace Go.V
open Go

/-- What is known of a slice's spare room: nothing; none; that of the row with this number. -/
inductive Ext where
  | unk | full | tok (t : Nat)
  deriving DecidableEq, Inhabited

inductive AV where
  | bool (b : Bool)
  | int (k : IntKind) (n : Int)
  | str (s : ByteArray)
  | nilptr
  | ptr (id off : Nat)
  | iptr (e : AV) (off : Nat)
  | isl (elems : List AV) (x : Ext)
  | msl (id off sz len : Nat) (cap : Option Nat)
  | nilmap
  | nilFunc
  | func (f : FuncId) (captured : List AV)
  | nilIface
  | iface (t : TypeId) (v : AV)
  | agg (cells : List AV)
  | tuple (vs : List AV)
  | yield (i : Nat)
  | mp (id : Nat)
  deriving Inhabited

def AV.undef : AV := .tuple []
def AV.cells : AV → List AV
  | .agg cs => cs
  | v => [v]
/-- A value of one cell. -/
def AV.one : AV → Bool
  | .agg _ | .tuple _ => false
  | _ => true

/-- Slots. -/
inductive PT where
  | leaf
  | node (l : PT) (v : AV) (r : PT)
def PT.get : PT → Nat → AV
  | .leaf, _ => AV.undef
  | .node _ v _, 0 => v
  | .node l _ r, n + 1 => if n % 2 = 0 then l.get (n / 2) else r.get (n / 2)
def PT.setF : Nat → PT → Nat → AV → PT
  | 0, t, _, _ => t
  | _ + 1, .leaf, 0, v => .node .leaf v .leaf
  | _ + 1, .node l _ r, 0, v => .node l v r
  | f + 1, .leaf, n + 1, v => if n % 2 = 0 then .node (setF f .leaf (n / 2) v) AV.undef .leaf else .node .leaf AV.undef (setF f .leaf (n / 2) v)
  | f + 1, .node l u r, n + 1, v => if n % 2 = 0 then .node (setF f l (n / 2) v) u r else .node l u (setF f r (n / 2) v)
def PT.set (t : PT) (n : Nat) (v : AV) : PT := PT.setF (n + 1) t n v

inductive OSt where
  | live | frozen | dead
  deriving DecidableEq, Inhabited
inductive Ex where
  | normal | exit (id : Nat) | ret
  deriving DecidableEq
/-- A range over a function: between two rounds, in a round, left by a round, behind it. -/
inductive LSt where
  | ready | busy | done (e : Ex) | over
  deriving DecidableEq
structure LoopV where
  cf : FuncId
  s : PT
  n : Nat
  ps : Array Tmp
  assign : Code
  body : Code
inductive VObj where
  | cells (cs : List AV) (st : OSt)
  | tok (used : Nat) (ty : TypeId)
  | loop (L : LoopV) (st : LSt)
  | map (es : List (AV × AV))
  | void
instance : Inhabited VObj := ⟨.tok 0 0⟩
/-- Nothing is said of it any more. -/
def VObj.gone : VObj → Bool
  | .cells _ .dead => true
  | .loop _ .over => true
  | .void => true
  | _ => false
abbrev H := List VObj

/-- A constant. -/
def ofScalar : Value → Option AV
  | .bool b => some (.bool b)
  | .int k n => some (.int k n)
  | .string s => some (.str s)
  | .pointer none => some .nilptr
  | .slice none 0 0 => some (.isl [] .full)
  | .map none => some .nilmap
  | .nilFunc => some .nilFunc
  | .nilIface => some .nilIface
  | _ => none
def ofList : List Value → Option (List AV)
  | [] => some []
  | v :: r => match ofScalar v, ofList r with
    | some a, some l => some (a :: l)
    | _, _ => none
def ofConst : Value → Option AV
  | .agg cs => match ofList cs.toList with
    | some l => some (.agg l)
    | none => none
  | v => ofScalar v
def toScalar : AV → Option Value
  | .bool b => some (.bool b)
  | .int k n => some (.int k n)
  | .str s => some (.string s)
  | .nilptr => some (.pointer none)
  | .nilmap => some (.map none)
  | .nilFunc => some .nilFunc
  | .nilIface => some .nilIface
  | _ => none
def toList : List AV → Option (List Value)
  | [] => some []
  | v :: r => match toScalar v, toList r with
    | some a, some l => some (a :: l)
    | _, _ => none
def toVal : AV → Option Value
  | .agg cs => match toList cs with
    | some l => some (.agg l.toArray)
    | none => none
  | v => toScalar v

/-- The value of a computation that asks the world nothing. -/
def pureVal {α : Type} (P : Program) : Sem α → Option α
  | .pure a => some a
  | .program k => pureVal P (k P)
  | _ => none

def isAggB (P : Program) (t : TypeId) : Option Bool :=
  match P.underlying t with
  | some (.struct _) | some (.array _ _) => some true
  | some _ => some false
  | none => none
def sizeV (P : Program) (t : TypeId) : Option Nat := (P.info? t).map (·.size)
/-- The value of type t that lies at 'off' in these cells. -/
def cellsAt (P : Program) (t : TypeId) (cs : List AV) (off : Nat) : Option AV :=
  match isAggB P t, sizeV P t with
  | some true, some n => if off + n ≤ cs.length then some (.agg ((cs.drop off).take n)) else none
  | some false, some _ => cs[off]?
  | _, _ => none

/-- What package-level variables hold that the program only reads: the words of the sorts (term.words), the only one that the walks come to. -/
def globData (g : Nat) : Option AV := if g = 1 then some (.isl [.str ⟨#[97, 110, 121]⟩, .str ⟨#[97, 103, 101, 110, 116]⟩, .str ⟨#[110, 111, 110, 99, 101]⟩, .str ⟨#[107, 101, 121]⟩, .str ⟨#[100, 97, 116, 97]⟩, .str ⟨#[116, 97, 103]⟩] .unk) else none
def ev (s : PT) : Operand → Option AV
  | .tmp t => some (s.get t)
  | .const v => ofConst v
  | .global g => (globData g).map fun a => .iptr a 0
  | .func f => some (.func f [])

def evs (s : PT) : List Operand → Option (List AV)
  | [] => some []
  | x :: r => match ev s x, evs s r with
    | some a, some l => some (a :: l)
    | _, _ => none

def isNil : Operand → Bool
  | .const (.slice none 0 0) => true
  | _ => false
def isPtrV : AV → Bool
  | .ptr _ _ | .iptr _ _ => true
  | _ => false
/-- A slice that is surely not nil. -/
def sureV : AV → Bool
  | .isl es _ => !es.isEmpty
  | .msl _ _ _ _ _ => true
  | _ => false
def isSl (P : Program) (t : TypeId) : Bool := match P.underlying t with
  | some (.slice _) => true
  | _ => false
def eqSign : BinOp → Option Bool
  | .eql => some false
  | .neq => some true
  | _ => none
/-- A slice compared with nil. -/
def nilCmpV (P : Program) (op : BinOp) (t : TypeId) (y : Operand) (a : AV) : Option AV :=
  if isNil y && sureV a && isSl P t then (eqSign op).map AV.bool else none
def binV (P : Program) (op : BinOp) (t : TypeId) (x y : Operand) (a b : AV) : Option AV :=
  match toVal a, toVal b with
  | some u, some v => match pureVal P (do eqGuard op t x y u v; binOp op t u v) with
    | some r => ofConst r
    | none => none
  | _, _ => match op, a, b with
    | .eql, .nilptr, .ptr _ _ | .eql, .nilptr, .iptr _ _ | .eql, .ptr _ _, .nilptr | .eql, .iptr _ _, .nilptr =>
      match P.underlying t with
      | some (.pointer _) => some (.bool false)
      | _ => none
    | .neq, .nilptr, .ptr _ _ | .neq, .nilptr, .iptr _ _ | .neq, .ptr _ _, .nilptr | .neq, .iptr _ _, .nilptr =>
      match P.underlying t with
      | some (.pointer _) => some (.bool true)
      | _ => none
    | _, _, _ => nilCmpV P op t y a
def unV (P : Program) (op : UnOp) (a : AV) : Option AV :=
  match toVal a with
  | some u => match pureVal P (Op.unary op u) with
    | some r => ofConst r
    | none => none
  | none => none
def convV (P : Program) (src dst : TypeId) (a : AV) : Option AV :=
  match toVal a with
  | some u => match pureVal P (convert src dst u) with
    | some r => ofConst r
    | none => none
  | none => none

/-- The numbers of a row of bytes. -/
def byteL : List AV → Option (List Int)
  | [] => some []
  | .int .u8 n :: r => match byteL r with
    | some l => some (n :: l)
    | none => none
  | _ => none
def strOf (ns : List Int) : ByteArray := ns.foldl (fun r n => r.push (UInt8.ofNat n.toNat)) ByteArray.empty
/-- Bytes as a string. -/
def convB (P : Program) (src dst : TypeId) (es : List AV) : Option AV :=
  match P.underlying src, P.underlying dst with
  | some (.slice e), some .string => match P.underlying e, byteL es with
    | some (.int .u8), some ns => some (.str (strOf ns))
    | _, _ => none
  | _, _ => none
def fillV (place : Nat → Option (Nat × Nat)) (cells : List AV) : List (Nat × AV) → Option (List AV)
  | [] => some cells
  | (i, v) :: rest =>
    match place i with
    | none => none
    | some (off, size) =>
      if v.cells.length = size ∧ off + size ≤ cells.length then fillV place (cells.take off ++ v.cells ++ cells.drop (off + size)) rest else none

def fieldPlaceV (P : Program) (t : TypeId) (i : Nat) : Option (Nat × Nat) :=
  match P.underlying t with
  | some (.struct fields) => match fields[i]? with
    | some f => match sizeV P f.type with
      | some n => some (f.offset, n)
      | none => none
    | none => none
  | _ => none

def notTuple : AV → Bool
  | .tuple _ => false
  | _ => true

def zeroV (P : Program) (t : TypeId) : Option AV :=
  match P.info? t with
  | some i => match i.zero with
    | some v => match ofConst v with
      | some a => if a.cells.length = i.size then some a else none
      | none => none
    | none => none
  | none => none

def partsV (s : PT) : List (Nat × Operand) → Option (List (Nat × AV))
  | [] => some []
  | (i, x) :: r => match ev s x, partsV s r with
    | some a, some l => if notTuple a then some ((i, a) :: l) else none
    | _, _ => none

/-- All fields of a struct have types of known sizes. -/
def fieldsKnown (P : Program) : List Field → Bool
  | [] => true
  | f :: r => (P.info? f.type).isSome && fieldsKnown P r

def buildV (P : Program) (t : TypeId) (parts : List (Nat × AV)) : Option AV :=
  match P.underlying t with
  | some (.struct fields) => if fieldsKnown P fields.toList then
      match zeroV P t with
      | some (.agg z) => match fillV (fieldPlaceV P t) z parts with
        | some cs => some (.agg cs)
        | none => none
      | _ => none
    else none
  | some (.array _ elem) => match zeroV P t, sizeV P elem with
    | some (.agg z), some n => match fillV (fun i => some (i * n, n)) z parts with
      | some cs => some (.agg cs)
      | none => none
    | _, _ => none
  | _ => none

def asI : AV → Option Int
  | .int _ n => some n
  | _ => none
def szOk (n : Nat) : List AV → Bool
  | [] => true
  | e :: _ => e.cells.length == n

def indexAddrV (P : Program) (t : TypeId) (x i : AV) : Option AV :=
  match P.underlying t, x, i with
  | some (.slice elem), .isl es _, .int _ n => match sizeV P elem with
    | some sz => if 0 ≤ n ∧ n < es.length then match es[n.toNat]? with
        | some e => if e.cells.length = sz then some (.iptr e 0) else none
        | none => none
      else none
    | none => none
  | some (.slice elem), .msl id off sz len _, .int _ n => if sizeV P elem = some sz ∧ 0 ≤ n ∧ n < len then some (.ptr id (off + n.toNat * sz)) else none
  | some (.array len elem), .ptr id off, .int _ n => match sizeV P elem with
    | some sz => if 0 ≤ n ∧ n < len then some (.ptr id (off + n.toNat * sz)) else none
    | none => none
  | some (.array len elem), .iptr e off, .int _ n => match sizeV P elem with
    | some sz => if 0 ≤ n ∧ n < len then some (.iptr e (off + n.toNat * sz)) else none
    | none => none
  | _, _, _ => none

def fieldAddrV (P : Program) (s : TypeId) (x : AV) (f : Nat) : Option AV :=
  match fieldPlaceV P s f with
  | some (o, n) => if n = 0 then none else match x with
    | .ptr id off => some (.ptr id (off + o))
    | .iptr e off => some (.iptr e (off + o))
    | _ => none
  | none => none

def fieldV (P : Program) (s : TypeId) (x : AV) (f : Nat) : Option AV :=
  match P.underlying s, x with
  | some (.struct fields), .agg cs => match fields[f]? with
    | some fd => cellsAt P fd.type cs fd.offset
    | none => none
  | _, _ => none

def indexV (P : Program) (t : TypeId) (x i : AV) : Option AV :=
  match x, i with
  | .agg cs, .int _ n => match P.underlying t with
    | some (.array len elem) => match sizeV P elem with
      | some sz => if 0 ≤ n ∧ n < len then cellsAt P elem cs (n.toNat * sz) else none
      | none => none
    | _ => none
  | .str s, .int k n => match pureVal P (Instr.index t (.string s) (.int k n)) with
    | some r => ofConst r
    | none => none
  | _, _ => none

/-- A bound of a slice expression: an int between 0 and the limit. -/
def bndV (limit : Nat) : AV → Option Nat
  | .int _ n => if 0 ≤ n ∧ n ≤ limit then some n.toNat else none
  | _ => none
def bndO (limit dflt : Nat) : Option AV → Option Nat
  | none => some dflt
  | some v => bndV limit v

def sliceV (P : Program) (t : TypeId) (x : AV) (lo hi mx : Option AV) : Option AV :=
  match P.underlying t, x, mx with
  | some (.slice elem), .isl es e, none => match sizeV P elem, bndO es.length es.length hi with
    | some sz, some h => match bndO h 0 lo with
      | some l => if !szOk sz es then none else
          if l = 0 ∧ h = es.length then some (.isl es e)
          else some (.isl ((es.take h).drop l) (if e = .full ∧ h = es.length then .full else .unk))
      | none => none
    | _, _ => none
  | some (.slice elem), .isl es _, some m => match sizeV P elem, bndV es.length m with
    | some sz, some m => match hi with
      | none => none
      | some hv => match bndV m hv with
        | some h => match bndO h 0 lo with
          | some l => if !szOk sz es then none else some (.isl ((es.take h).drop l) (if m = h then .full else .unk))
          | none => none
        | none => none
    | _, _ => none
  | some (.slice elem), .msl id off sz len cap, none => if sizeV P elem = some sz then
      match bndO len len hi with
      | some h => match bndO h 0 lo with
        | some l => match cap with
          | some c => some (.msl id (if c = l then off else off + l * sz) sz (h - l) (some (c - l)))
          | none => if l = 0 then some (.msl id off sz h none) else if l < len then some (.msl id (off + l * sz) sz (h - l) none) else some (.isl [] .unk)
        | none => none
      | none => none
    else none
  | some (.slice elem), .msl id off sz len _, some m => if sizeV P elem = some sz then
      match bndV len m with
      | some m => match hi with
        | none => none
        | some hv => match bndV m hv with
          | some h => match bndO h 0 lo with
            | some l => if m = l then some (.isl [] .full) else some (.msl id (off + l * sz) sz (h - l) (some (m - l)))
            | none => none
          | none => none
      | none => none
    else none
  | some .string, .str s, none => match bndO s.size s.size hi with
    | some h => match bndO h 0 lo with
      | some l => some (.str (s.extract l h))
      | none => none
    | none => none
  | _, _, _ => none

def lenV (P : Program) (t : TypeId) (x : AV) : Option AV :=
  match P.underlying t, x with
  | some (.slice _), .isl es _ => some (.int .i64 es.length)
  | some (.slice _), .msl _ _ _ len _ => some (.int .i64 len)
  | some .string, .str s => some (.int .i64 s.size)
  | some (.array n _), _ => some (.int .i64 n)
  | _, _ => none

def capV (P : Program) (t : TypeId) (x : AV) : Option AV :=
  match P.underlying t, x with
  | some (.slice _), .isl es .full => some (.int .i64 es.length)
  | some (.slice _), .msl _ _ _ _ (some c) => some (.int .i64 c)
  | _, _ => none

def minmaxV (P : Program) (mx : Bool) (args : List AV) : Option AV :=
  match toList args with
  | some us => match pureVal P (if mx then Builtin.max_ #[] 0 us.toArray else Builtin.min_ #[] 0 us.toArray) with
    | some r => ofConst r
    | none => none
  | none => none

/-- An operation that looks at its operands alone. -/
def opN (P : Program) (s : PT) (o : Oper) : Option AV :=
  match o.op with
  | .move x | .assign x => ev s x
  | .pick c a b => match ev s c with
    | some (.bool true) => ev s a
    | some (.bool false) => ev s b
    | _ => none
  | .build t parts => match partsV s parts.toList with
    | some l => buildV P t l
    | none => none
  | .nilCheck x => match ev s x with
    | some (.ptr i n) => some (.ptr i n)
    | some (.iptr e n) => some (.iptr e n)
    | some (.func f c) => some (.func f c)
    | _ => none
  | .binOp op t x y _ => match ev s x, ev s y with
    | some a, some b => binV P op t x y a b
    | _, _ => none
  | .unOp op _ x => match ev s x with
    | some a => unV P op a
    | none => none
  | .convert src dst x => match ev s x with
    | some (.isl es _) => convB P src dst es
    | some a => convV P src dst a
    | none => none
  | .makeInterface t x => match P.underlying t, ev s x with
    | some (.interface _), _ => none
    | some _, some a => if notTuple a then some (.iface t a) else none
    | _, _ => none
  | .makeFunc (.func f) first captured => if first.isEmpty then match evs s captured.toList with
      | some l => some (.func f l)
      | none => none
    else none
  | .slice t x lo hi mx => match ev s x with
    | none => none
    | some a => match lo.map (ev s), hi.map (ev s), mx.map (ev s) with
      | some none, _, _ | _, some none, _ | _, _, some none => none
      | l, h, m => sliceV P t a (l.bind id) (h.bind id) (m.bind id)
  | .fieldAddr t x f => match ev s x with
    | some a => fieldAddrV P t a f
    | none => none
  | .field t x f => match ev s x with
    | some a => fieldV P t a f
    | none => none
  | .indexAddr t x i => match ev s x, ev s i with
    | some a, some b => indexAddrV P t a b
    | _, _ => none
  | .index t x i => match ev s x, ev s i with
    | some a, some b => indexV P t a b
    | _, _ => none
  | .extract x i => match ev s x with
    | some (.tuple l) => l[i]?
    | _ => none
  | .call { callee := .builtin .len, args, argTypes } => match args.toList, argTypes.toList with
    | [x], [t] => match ev s x with
      | some a => lenV P t a
      | none => none
    | _, _ => none
  | .call { callee := .builtin .cap, args, argTypes } => match args.toList, argTypes.toList with
    | [x], [t] => match ev s x with
      | some a => capV P t a
      | none => none
    | _, _ => none
  | .call { callee := .builtin .min, args, .. } => match evs s args.toList with
    | some l => minmaxV P false l
    | none => none
  | .call { callee := .builtin .max, args, .. } => match evs s args.toList with
    | some l => minmaxV P true l
    | none => none
  | _ => none

def loadV (P : Program) (h : H) (t : TypeId) : AV → Option AV
  | .ptr id off => match h[id]? with
    | some (.cells cs .live) | some (.cells cs .frozen) => cellsAt P t cs off
    | _ => none
  | .iptr e off => cellsAt P t e.cells off
  | _ => none

def storeV (P : Program) (h : H) (t : TypeId) (a v : AV) : Option H :=
  match a with
  | .ptr id off => match h[id]?, sizeV P t with
    | some (.cells cs .live), some n => match v with
      | .tuple _ => none
      | .agg vs => if vs.length = n ∧ off + n ≤ cs.length then some (h.set id (.cells (cs.take off ++ vs ++ cs.drop (off + n)) .live)) else none
      | v => if n = 1 ∧ off < cs.length then some (h.set id (.cells (cs.set off v) .live)) else none
    | _, _ => none
  | _ => none

mutual
/-- What a value holds, once and for all: every cell that it leads to must be past writing. -/
def snap (h : H) : Nat → AV → Option AV
  | 0, _ => none
  | n + 1, v => match v with
    | .isl es _ => some (.isl es .unk)
    | .ptr id off => match h[id]? with
      | some (.cells cs .frozen) => match snaps h n cs with
        | some l => some (.iptr (.agg l) off)
        | none => none
      | _ => none
    | .msl id off sz len _ => match h[id]? with
      | some (.cells cs .frozen) => match snaps h n cs with
        | some l => if off + len * sz ≤ l.length ∧ 0 < sz then some (.isl (chunk sz len (l.drop off)) .unk) else none
        | none => none
      | _ => none
    | .func f c => match snaps h n c with
      | some l => some (.func f l)
      | none => none
    | .iface t v => match snap h n v with
      | some u => some (.iface t u)
      | none => none
    | .agg cs => match snaps h n cs with
      | some l => some (.agg l)
      | none => none
    | .tuple vs => match snaps h n vs with
      | some l => some (.tuple l)
      | none => none
    | .yield _ | .mp _ => none
    | v => some v
def snaps (h : H) : Nat → List AV → Option (List AV)
  | 0, _ => none
  | _ + 1, [] => some []
  | n + 1, v :: r => match snap h n v, snaps h n r with
    | some a, some l => some (a :: l)
    | _, _ => none
def chunk (sz : Nat) : Nat → List AV → List AV
  | 0, _ => []
  | n + 1, cs => (match sz, cs with | 1, c :: _ => c | _, _ => .agg (cs.take sz)) :: chunk sz n (cs.drop sz)
end

/-- How a callee's result comes back: as what it holds · with its row's spare room · as a row that may be written · the callee works on the caller's own memory · the same, and no row of it turns. -/
inductive Mode where
  | strip | ownT | ownM | openH | openQ | openF
  deriving DecidableEq, Inhabited
structure Cfg where
  P : Program
  mode : FuncId → Mode
  wr : FuncId → Tmp → Bool
  prim : FuncId → List AV → H → Option (AV × H) := fun _ _ _ => none
  /-- Functions without a body, that answer by the model's table. -/
  ext : FuncId → Array Value → Option Value := fun _ _ => none
  /-- Drawn regions that are worked with a place of its own for each new object. -/
  mix : FuncId → Nat → Bool := fun _ _ => false
  extOk : ∀ f vs v (w : World), ext f vs = some v → (callFunc f vs).run P w = .ok (.value v) w := by intro _ _ _ _ h; cases h

/-- The nesting that 'snap' and 'reach' look into. -/
def deep : Nat := 1000000
mutual
def reach (h : H) : Nat → AV → List Nat
  | 0, _ => []
  | n + 1, v => match v with
    | .ptr id _ | .msl id _ _ _ _ => id :: (match h[id]? with | some (.cells cs _) => reachs h n cs | _ => [])
    | .func _ c => reachs h n c
    | .iface _ u => reach h n u
    | .agg cs => reachs h n cs
    | .tuple vs => reachs h n vs
    | _ => []
def reachs (h : H) : Nat → List AV → List Nat
  | 0, _ => []
  | _ + 1, [] => []
  | n + 1, v :: r => reach h n v ++ reachs h n r
end
def freeze1 (h : H) (i : Nat) : H := match h[i]? with
  | some (.cells cs .live) => h.set i (.cells cs .frozen)
  | _ => h
def freeze (h : H) : List Nat → H
  | [] => h
  | i :: r => freeze (freeze1 h i) r
def freezeAll : H → H
  | [] => []
  | .cells cs .live :: r => .cells cs .frozen :: freezeAll r
  | o :: r => o :: freezeAll r

/-- No reference in it. -/
def scalOne (v : AV) : Bool := (toVal v).isSome
def scal : AV → Bool
  | .tuple vs => vs.all scalOne
  | v => scalOne v
def scalars (vs : List AV) : Bool := vs.all fun v => (toScalar v).isSome

/-- One result comes back to a caller whose memory is h. ownT: what the caller may append to; ownM: what it may write. -/
def adopt (P : Program) (m : Mode) (h1 h : H) (r : AV) : Option (AV × H) :=
  match r with
  | .isl es (.tok t) => match h1[t]? with
    | some (.tok used ty) =>
      if used = es.length ∧ scalars es = true ∧ sizeV P ty = some 1 then
        (match m with
        | .ownT => some (.isl es (.tok h.length), h ++ [.tok used ty])
        | .ownM => match es with
          | [] => some (.isl [] .unk, h)
          | _ => some (.msl h.length 0 1 es.length none, h ++ [.cells es .live])
        | _ => none)
      else none
    | _ => none
  | .isl [] .full => some (.isl [] .full, h)
  | .msl id off sz len _ => match h1[id]? with
    | some (.cells cs .live) =>
      if scalars cs = true ∧ sz = 1 ∧ off + len ≤ cs.length then
        (match m with
        | .ownM => some (.msl h.length off 1 len none, h ++ [.cells cs .live])
        | .ownT => some (.isl ((cs.drop off).take len) .unk, h)
        | _ => none)
      else none
    | _ => none
  | _ => none

def adoptR (P : Program) (m : Mode) (h1 h : H) (r : AV) : Option (AV × H) :=
  match r with
  | .tuple (x :: rest) => match adopt P m h1 h x with
    | some (x', h') => if rest.all scalOne then some (.tuple (x' :: rest), h') else none
    | none => none
  | x => adopt P m h1 h x

/-- A value that holds no memory of the call's own, as a callee sees it. -/
def dat1 : AV → Option AV
  | .isl es _ => some (.isl es .unk)
  | .ptr _ _ | .msl _ _ _ _ _ | .func _ _ | .iface _ _ | .agg _ | .tuple _ | .yield _ | .mp _ => none
  | v => some v
def dats1 : List AV → Option (List AV)
  | [] => some []
  | v :: r => match dat1 v, dats1 r with
    | some a, some l => some (a :: l)
    | _, _ => none
/-- All rows but one are past writing. -/
def freezeBut (h : H) (i : Nat) : H := match h[i]? with
  | some x => (freezeAll h).set i x
  | none => h
/-- A row that the callee wrote: what its values hold is past writing. -/
def adoptM (h1 h2 : H) (r : AV) : Option (AV × H) :=
  match r with
  | .msl id off sz len _ => match h1[id]? with
    | some (.cells cs .live) => match snaps (freezeBut h1 id) deep cs with
      | some cs' => if 0 < sz ∧ off + len * sz ≤ cs.length then some (.msl h2.length off sz len none, h2 ++ [.cells cs' .live]) else none
      | none => none
    | _ => none
  | _ => none
def adoptD (m : Mode) (h1 h2 : H) (r : AV) : Option (AV × H) :=
  match m, r with
  | .ownM, .tuple [x, y] => if scalOne y then match adoptM h1 h2 x with
      | some (x', h') => some (.tuple [x', y], h')
      | none => none
    else none
  | .ownM, x => adoptM h1 h2 x
  | _, _ => none
def stripV (r : AV) (h1 h h2 : H) : Option (AV × H) :=
  match snap (freezeAll h1) deep r with
  | some r' => some (r', if scal r' then h else h2)
  | none => none

def finishV (P : Program) (m : Mode) (r : AV) (h1 h h2 : H) : Option (AV × H) :=
  match m with
  | .ownT | .ownM => match adoptR P m h1 h r with
    | some z => some z
    | none => match adoptD m h1 h2 r with
      | some z => some z
      | none => stripV r h1 h h2
  | _ => stripV r h1 h h2

mutual
def AV.same : AV → AV → Bool
  | .bool a, .bool b => a == b
  | .int k a, .int l b => decide (k = l) && decide (a = b)
  | .str a, .str b => decide (a = b)
  | .nilptr, .nilptr => true
  | .ptr a b, .ptr c d => decide (a = c) && decide (b = d)
  | .iptr e o, .iptr f p => AV.same e f && decide (o = p)
  | .isl es x, .isl fs y => AV.sames es fs && decide (x = y)
  | .msl a b c d e, .msl a' b' c' d' e' => decide (a = a') && decide (b = b') && decide (c = c') && decide (d = d') && decide (e = e')
  | .nilmap, .nilmap => true
  | .nilFunc, .nilFunc => true
  | .func f cs, .func g ds => decide (f = g) && AV.sames cs ds
  | .nilIface, .nilIface => true
  | .iface t v, .iface u x => decide (t = u) && AV.same v x
  | .agg cs, .agg ds => AV.sames cs ds
  | .tuple cs, .tuple ds => AV.sames cs ds
  | .yield i, .yield j => decide (i = j)
  | .mp i, .mp j => decide (i = j)
  | _, _ => false
def AV.sames : List AV → List AV → Bool
  | [], [] => true
  | a :: l, b :: m => AV.same a b && AV.sames l m
  | _, _ => false
end
/-- The rows of cells of the first memory hold in the second what they held. -/
def nlB : H → H → Bool
  | [], _ => true
  | .cells cs st :: h, .cells ds st2 :: g => AV.sames cs ds && decide (st2 = .dead ↔ st = .dead) && nlB h g
  | .cells _ _ :: _, _ => false
  | _ :: h, _ :: g => nlB h g
  | _ :: h, [] => nlB h []
/-- The objects that are new. -/
def news (h h' : H) : List Nat := List.range' h.length (h'.length - h.length)
def applyCall (C : Cfg) (run : FuncId → List AV → H → Option (AV × H)) (f : FuncId) (args : List AV) (h : H) : Option (AV × H) :=
  match C.mode f with
  | .openH => run f args h
  | .openQ => match run f args h with
    | some (r, h') => if nlB h h' then some (r, h') else none
    | none => none
  | .openF => match run f args h with
    | some (r, h') => if nlB h h' then (match snap (freeze h' (news h h')) deep r with
      | some r' => some (r', freeze h' (news h h'))
      | none => none) else none
    | none => none
  | m => match snaps (freeze h (reachs h deep args)) deep args with
    | none => none
    | some as => match run f as [] with
      | none => none
      | some (r, h1) => finishV C.P m r h1 h (freeze h (reachs h deep args))

/-- The elements of a slice (those of a row that may be written: only where they hold no reference). -/
def elemsV (h : H) : AV → Option (List AV)
  | .isl es _ => some es
  | .msl id off sz len _ => match h[id]? with
    | some (.cells cs .live) | some (.cells cs .frozen) =>
      if off + len * sz ≤ cs.length ∧ 0 < sz ∧ scalars cs = true then some (chunk sz len (cs.drop off)) else none
    | _ => none
  | _ => none

def bytesV (P : Program) (t : TypeId) : Option Nat := (P.info? t).map (·.bytes)
/-- Zero cells of a type are known. -/
def zeroOk (P : Program) (t : TypeId) : Bool := match P.info? t with
  | some i => match i.zero with
    | some z => z.cells.size == i.size
    | none => false
  | none => false

def appendV (P : Program) (h : H) (t : TypeId) (s x : AV) : Option (AV × H) :=
  match P.underlying t with
  | some (.slice elem) => match sizeV P elem, bytesV P elem, elemsV h x with
    | some sz, some by_, some ys =>
      if !zeroOk P elem || sz == 0 || !szOk sz ys then none else
      match s with
      | .isl xs e =>
        if !szOk sz xs then none
        else if !(decide (xs.length + ys.length ≤ 35184372088832) && decide ((xs.length + ys.length) * by_ ≤ 140737488355328)) then none
        else match e with
        | .full => match ys with
          | [] => some (.isl xs .full, h)
          | _ => some (.isl (xs ++ ys) (.tok h.length), h ++ [.tok (xs.length + ys.length) elem])
        | .tok i => match h[i]? with
          | some (.tok used ty) => if used = xs.length ∧ ty = elem then some (.isl (xs ++ ys) (.tok i), h.set i (.tok (xs.length + ys.length) ty)) else none
          | _ => none
        | .unk => match ys with
          | [] => some (.isl xs .unk, h)
          | _ => none
      | .msl id off sz' len (some c) => match h[id]? with
        | some (.cells cs .live) =>
          if sz' = sz ∧ len + ys.length ≤ c ∧ off + (len + ys.length) * sz ≤ cs.length then
            some (.msl id off sz (len + ys.length) (some c), h.set id (.cells (cs.take (off + len * sz) ++ ys.flatMap AV.cells ++ cs.drop (off + (len + ys.length) * sz)) .live))
          else none
        | _ => none
      | _ => none
    | _, _, _ => none
  | _ => none

/-- A new row of one's own, of values that came in. -/
def appendR (P : Program) (h : H) (t : TypeId) (ys : List AV) : Option (AV × H) :=
  match P.underlying t with
  | some (.slice elem) => match sizeV P elem, bytesV P elem with
    | some sz, some by_ => if zeroOk P elem && sz != 0 && szOk sz ys && !ys.isEmpty && decide (ys.length * (by_ + 1) ≤ 35184372088832) then
        some (.msl h.length 0 sz ys.length none, h ++ [.cells (ys.flatMap AV.cells) .live]) else none
    | _, _ => none
  | _ => none
/-- Cells that are appended or copied, and how many values they are. -/
def srcV (h : H) (sz : Nat) : AV → Option (List AV × Nat)
  | .isl ys _ => if szOk sz ys then some (ys.flatMap AV.cells, ys.length) else none
  | .msl id off sz' n _ => match h[id]? with
    | some (.cells cs .live) | some (.cells cs .frozen) => if sz' = sz ∧ off + n * sz ≤ cs.length then some ((cs.drop off).take (n * sz), n) else none
    | _ => none
  | .str s => if sz = 1 then some (s.data.toList.map fun b => .int .u8 b.toNat, s.size) else none
  | _ => none
/-- Appending to a row of one's own, or to one that is full: what comes is a row of one's own; the old one is given up. -/
def appendN (P : Program) (h : H) (t : TypeId) (s x : AV) : Option (AV × H) :=
  match P.underlying t with
  | some (.slice elem) => match sizeV P elem, bytesV P elem with
    | some sz, some by_ => if !zeroOk P elem || sz == 0 then none else
      match srcV h sz x with
      | some (ys, m) => match s with
        | .isl xs .full => if m = 0 then some (.isl xs .full, h)
          else if szOk sz xs = true ∧ (xs.length + m) * (by_ + 1) ≤ 35184372088832 then
            some (.msl h.length 0 sz (xs.length + m) none, h ++ [.cells (xs.flatMap AV.cells ++ ys) .live])
          else none
        | .msl id off sz' n c => if m = 0 then some (.msl id off sz' n c, h)
          else match h[id]? with
          | some (.cells cs .live) => if off = 0 ∧ sz' = sz ∧ n * sz ≤ cs.length ∧ (n + m) * (by_ + 1) ≤ 35184372088832 then
              some (.msl h.length 0 sz (n + m) none, h.set id (.cells cs .dead) ++ [.cells (cs.take (n * sz) ++ ys) .live])
            else none
          | _ => none
        | _ => none
      | none => none
    | _, _ => none
  | _ => none
/-- Appending zeros. -/
def appendZ (P : Program) (h : H) (t : TypeId) (s : AV) (n : Int) : Option (AV × H) :=
  match P.underlying t, s with
  | some (.slice elem), .isl xs .full => match sizeV P elem, bytesV P elem, zeroV P elem with
    | some sz, some by_, some z => if zeroOk P elem = true ∧ 0 < sz ∧ szOk sz xs = true ∧ 0 ≤ n ∧ (xs.length + n.toNat) * (by_ + 1) ≤ 35184372088832 then
        if n = 0 then some (.isl xs .full, h)
        else some (.msl h.length 0 sz (xs.length + n.toNat) none, h ++ [.cells (xs.flatMap AV.cells ++ (List.replicate n.toNat z.cells).flatten) .live])
      else none
    | _, _, _ => none
  | _, _ => none
/-- A slice whose room is known. -/
def knownCap : AV → Bool
  | .msl _ _ _ _ (some _) => true
  | _ => false
/-- Appending, where what comes is to be written: a row of one's own. -/
def appendW (P : Program) (wr : Bool) (h : H) (t : TypeId) (s x : AV) : Option (AV × H) :=
  if !wr then appendV P h t s x
  else if knownCap s then (match appendV P h t s x with
    | some z => some z
    | none => appendN P h t s x)
  else match appendN P h t s x with
    | some z => some z
    | none => appendV P h t s x
def isIntT (P : Program) (t : TypeId) : Bool := match P.underlying t with
  | some (.int .i64) => true
  | _ => false
def isStrT (P : Program) (t : TypeId) : Bool := match P.underlying t with
  | some .string => true
  | _ => false
/-- The values of a row become zeros. -/
def clearV (P : Program) (h : H) (t : TypeId) (x : AV) : Option H := match P.underlying t, x with
  | some (.slice _), .isl [] _ => some h
  | some (.slice elem), .msl id off sz len _ => match h[id]?, zeroV P elem with
    | some (.cells cs .live), some z => if sizeV P elem = some sz ∧ off + len * sz ≤ cs.length then
        some (h.set id (.cells (cs.take off ++ (List.replicate len z.cells).flatten ++ cs.drop (off + len * sz)) .live)) else none
    | _, _ => none
  | _, _ => none
/-- Values are copied into a row. -/
def copyV (P : Program) (h : H) (t : TypeId) (d x : AV) : Option (AV × H) := match P.underlying t, d with
  | some (.slice elem), .msl id off sz len _ => match h[id]?, srcV h sz x with
    | some (.cells cs .live), some (ys, m) => if sizeV P elem = some sz ∧ off + len * sz ≤ cs.length then
        some (.int .i64 (Nat.min m len), h.set id (.cells (cs.take off ++ ys.take (Nat.min m len * sz) ++ cs.drop (off + Nat.min m len * sz)) .live)) else none
    | _, _ => none
  | _, _ => none

def elemOkV (n : Nat) : List AV → Bool
  | [] => true
  | e :: r => e.cells.length == n && notTuple e && elemOkV n r
def buildSliceV (P : Program) (h : H) (t : TypeId) (len : Nat) (parts : List (Nat × AV)) : Option (AV × H) :=
  match P.underlying t with
  | some (.slice elem) => match sizeV P elem with
    | some sz =>
      if !zeroOk P elem || sz == 0 || !(len * sz ≤ 16777216) || !(parts.map (·.1) == List.range len) then none else
      match snaps (freeze h (reachs h deep (parts.map (·.2)))) deep (parts.map (·.2)) with
      | some es => if elemOkV sz es then some (.isl es .full, freeze h (reachs h deep (parts.map (·.2)))) else none
      | none => none
    | none => none
  | _ => none

def makeSliceV (P : Program) (wr : Bool) (h : H) (t : TypeId) (l c : AV) : Option (AV × H) :=
  match P.underlying t, l, c with
  | some (.slice elem), .int .i64 l, .int .i64 c => match sizeV P elem, bytesV P elem, zeroV P elem with
    | some sz, some by_, some z =>
      if sz == 0 || !zeroOk P elem || !(0 ≤ l ∧ l ≤ c ∧ c ≤ 1073741824) || !(by_ ≤ 4096) then none
      else if l = 0 ∧ wr = false then some (.isl [] (.tok h.length), h ++ [.tok 0 elem])
      else some (.msl h.length 0 sz l.toNat (some c.toNat), h ++ [.cells ((List.replicate c.toNat z.cells).flatten) .live])
    | _, _, _ => none
  | _, _, _ => none

def isSliceT (P : Program) (t : TypeId) : Option TypeId := match P.underlying t with
  | some (.slice e) => some e
  | _ => none

/- Maps: keys without references. -/
/-- The keys, each with its number. -/
def keyEntries : List (AV × AV) → Nat → Option (List MapEntry)
  | [], _ => some []
  | (k, _) :: r, i => match toVal k, keyEntries r (i + 1) with
    | some kv, some l => some ({ key := kv, val := .int .i64 i, born := 0 } :: l)
    | _, _ => none
def asksV (empty : Bool) (kt : TypeId) (k : Value) (l : List MapEntry) : Sem (Option (Nat × Value)) := do
  Instr.checkKey empty 10000 kt k
  Instr.findKey kt k l
/-- The place of a key. -/
def findV (P : Program) (empty : Bool) (kt : TypeId) (key : AV) (es : List (AV × AV)) : Option (Option Nat) :=
  match toVal key, keyEntries es 0 with
  | some k, some l => (pureVal P (asksV empty kt k l)).map (·.map (·.1))
  | _, _ => none
def lookupV (P : Program) (h : H) (t : TypeId) (x k : AV) (ok : Bool) : Option AV :=
  match P.underlying t with
  | some (.map kt et) => match (match x with
      | .nilmap => some []
      | .mp id => match h[id]? with
        | some (.map es) => some es
        | _ => none
      | _ => none) with
    | some es => match findV P es.isEmpty kt k es with
      | some (some i) => match es[i]? with
        | some e => some (if ok then .tuple [e.2, .bool true] else e.2)
        | none => none
      | some none => match zeroV P et with
        | some z => some (if ok then .tuple [z, .bool false] else z)
        | none => none
      | none => none
    | none => none
  | _ => none
def mapUpdateV (P : Program) (h : H) (t : TypeId) (x k v : AV) : Option H :=
  match P.underlying t, x with
  | some (.map kt _), .mp id => match h[id]? with
    | some (.map es) => if !notTuple v then none else match findV P false kt k es with
      | some (some i) => match es[i]?, toVal k with
        | some e, some kv => match toVal e.1 with
          | some ov => if Instr.sameBits 10000 ov kv then some (h.set id (.map (es.set i (k, v)))) else none
          | none => none
        | _, _ => none
      | some none => if (toVal k).isSome then some (h.set id (.map (es ++ [(k, v)]))) else none
      | none => none
    | _ => none
  | _, _ => none

/-- An operation that makes or turns memory, or may. -/
def active (o : Oper) : Bool :=
  match o.op with
  | .assign x => isNil x
  | .box .. | .alloc _ | .buildSlice .. | .makeSlice .. | .store .. | .makeMap .. | .lookup .. | .mapUpdate .. | .insert .. => true
  | .call { callee := .builtin b, .. } => match b with
    | .len | .min | .max | .cap => false
    | _ => true
  | .call _ => true
  | _ => false

/-- The number from which on calls of yield are counted. -/
def yb (P : Program) : Nat := P.funcs.size + 1
def hasBody (P : Program) (f : FuncId) : Bool := match P.funcs[f]? with
  | some fn => fn.body.isSome
  | none => false

def extV (C : Cfg) (g : FuncId) (l : List AV) (h : H) : Option (AV × H) := match toList l with
  | some vs => match C.ext g vs.toArray with
    | some v => match ofConst v with
      | some a => some (a, h)
      | none => none
    | none => none
  | none => none
/-- What it makes is to be written. -/
def wrO (C : Cfg) (cf : FuncId) (o : Oper) : Bool := match o.dst with
  | some d => C.wr cf d
  | none => false
def opA (C : Cfg) (run : FuncId → List AV → H → Option (AV × H)) (cf : FuncId) (s : PT) (h : H) (o : Oper) : Option (AV × H) :=
  match o.op with
  | .assign _ => if wrO C cf o = true then some (.isl [] .full, h) else match isSliceT C.P o.type with
    | some e => some (.isl [] (.tok h.length), h ++ [.tok 0 e])
    | none => none
  | .box t x => match ev s x, sizeV C.P t with
    | some a, some n => if a.cells.length = n ∧ notTuple a then some (.ptr h.length 0, h ++ [.cells a.cells .live]) else none
    | _, _ => none
  | .alloc t => match zeroV C.P t with
    | some a => some (.ptr h.length 0, h ++ [.cells a.cells .live])
    | none => none
  | .buildSlice t len parts => match partsV s parts.toList with
    | some l => buildSliceV C.P h t len l
    | none => none
  | .makeSlice t l c => match ev s l, ev s c with
    | some a, some b => makeSliceV C.P (wrO C cf o) h t a b
    | _, _ => none
  | .store t a x => match ev s a, ev s x with
    | some p, some v => match storeV C.P h t p v with
      | some h' => some (AV.undef, h')
      | none => none
    | _, _ => none
  | .call { callee := .builtin .append, args, argTypes } => match args.toList, argTypes.toList with
    | [x, y], [t, u] => if t = u then match ev s x, ev s y with
        | some a, some b => appendW C.P (wrO C cf o) h t a b
        | _, _ => none
      else if isStrT C.P u then match ev s x, ev s y with
        | some a, some b => appendN C.P h t a b
        | _, _ => none
      else if isIntT C.P u then match ev s x, ev s y with
        | some a, some (.int .i64 n) => appendZ C.P h t a n
        | _, _ => none
      else none
    | _, _ => none
  | .call { callee := .value f, args, .. } => match ev s f, evs s args.toList with
    | some (.func g captured), some l => if hasBody C.P g then applyCall C run g (l ++ captured) h else extV C g (l ++ captured) h
    | some (.yield i), some l => run (yb C.P + i) l h
    | _, _ => none
  | .makeMap _ none => some (.mp h.length, h ++ [.map []])
  | .lookup t x i ok => match ev s x, ev s i with
    | some a, some b => match lookupV C.P h t a b ok with
      | some v => some (v, h)
      | none => none
    | _, _ => none
  | .mapUpdate t m k v => match ev s m, ev s k, ev s v with
    | some a, some b, some c => match mapUpdateV C.P h t a b c with
      | some h' => some (AV.undef, h')
      | none => none
    | _, _, _ => none
  | .insert t m k v => match ev s m, ev s k, ev s v with
    | some a, some b, some c => match mapUpdateV C.P h t a b c with
      | some h' => some (AV.undef, h')
      | none => none
    | _, _, _ => none
  | .call { callee := .builtin .clear, args, argTypes } => match args.toList, argTypes.toList with
    | [x], [t] => match ev s x with
      | some a => match clearV C.P h t a with
        | some h' => some (AV.undef, h')
        | none => none
      | none => none
    | _, _ => none
  | .call { callee := .builtin .copy, args, argTypes } => match args.toList, argTypes.toList with
    | [x, y], [t, u] => if t = u ∨ isStrT C.P u = true then match ev s x, ev s y with
        | some a, some b => copyV C.P h t a b
        | _, _ => none
      else none
    | _, _ => none
  | _ => none

def opV (C : Cfg) (run : FuncId → List AV → H → Option (AV × H)) (cf : FuncId) (s : PT) (h : H) (o : Oper) : Option (AV × H) :=
  if active o then opA C run cf s h o else
  match o.op with
  | .load t x => match ev s x with
    | some a => match loadV C.P h t a with
      | some v => some (v, h)
      | none => none
    | none => none
  | _ => match opN C.P s o with
    | some v => some (v, h)
    | none => none

def putV (s : PT) (d : Option Tmp) (v : AV) : PT := match d with
  | some t => s.set t v
  | none => s
def yieldedV (ops : Array Oper) (s : PT) (j : Nat) : Option Bool :=
  match (ops[j]?).bind (·.dst) with
  | some t => match s.get t with
    | .bool b => some b
    | _ => none
  | none => none

def runOps (C : Cfg) (run : FuncId → List AV → H → Option (AV × H)) (cf : FuncId) (ops : Array Oper) : List Oper → PT → H → Option (PT × H)
  | [], s, h => some (s, h)
  | o :: rest, s, h =>
    if Region.wanted o (yieldedV ops s) then
      match opV C run cf s h o with
      | some (v, h') => runOps C run cf ops rest (putV s o.dst v) h'
      | none => none
    else runOps C run cf ops rest (putV s o.dst AV.undef) h

/-- Which temporaries an operation looks at or writes. -/
def tmpsOf : List Operand → List Tmp
  | [] => []
  | .tmp t :: r => t :: tmpsOf r
  | _ :: r => tmpsOf r
def reads (ops : Array Oper) (o : Oper) : List Tmp :=
  tmpsOf o.op.operands.toList ++ (match o.guard with
    | some (j, _) => match (ops[j]?).bind (·.dst) with | some t => [t] | none => []
    | none => [])
def writesW (o : Oper) : Bool := match o.op with
  | .store .. => true
  | .call { callee := .builtin .append, .. } => true
  | .call { callee := .value _, .. } => true
  | .call { callee := .builtin .clear, .. } | .call { callee := .builtin .copy, .. } => true
  | _ => false
def isLoad (o : Oper) : Bool := match o.op with
  | .load .. => true
  | _ => false
/-- Two operations that may not change places. -/
def clash (C : Cfg) (ops : Array Oper) (x y : Oper) : Bool :=
  (active x && active y) || (isLoad x && loud C y) || (loud C x && isLoad y)
    || (match x.dst with | some t => (reads ops y).contains t || y.dst == some t | none => false)
    || (match y.dst with | some t => (reads ops x).contains t | none => false)
  where
  /-- It may turn what a load reads. -/
  loud (C : Cfg) (o : Oper) : Bool := match o.op with
    | .store .. => true
    | .call { callee := .builtin .clear, .. } | .call { callee := .builtin .copy, .. } => true
    | .call { callee := .value (.func f), .. } => C.mode f == .openH
    | .call { callee := .value _, .. } => true
    | _ => false

def edgesLow (i : Nat) (o : Oper) : Bool := o.after.all fun e => !Region.binds .any e || decide (e.on < i)
/-- Every two operations that may not change places stand in an order that every schedule keeps. -/
def orderOk (C : Cfg) (ops : Array Oper) : Bool :=
  let b := Region.before ops
  (List.range ops.size).all fun j => match ops[j]? with
    | none => true
    | some y => edgesLow j y && (List.range j).all fun i => match ops[i]? with
      | none => true
      | some x => !clash C ops x y || (b.getD j 0).testBit i
def noSel (o : Oper) : Bool := match o.op with
  | .select .. => false
  | _ => true
def codeOk (C : Cfg) (cf : FuncId) (n : Nat) (inRound : Bool) : Code → Bool
  | .skip | .exit _ | .ret => true
  | .region id ops draw => (ops.all fun o => (match o.dst with | some d => decide (d < n) | none => true) && noSel o) && (!draw || C.mix cf id || orderOk C ops)
  | .seq a b => codeOk C cf n inRound a && codeOk C cf n inRound b
  | .cond _ a b => codeOk C cf n inRound a && codeOk C cf n inRound b
  | .block _ b => codeOk C cf n inRound b
  | .loop b => codeOk C cf n inRound b
  | .rangeFunc _ _ _ _ => !inRound
  | _ => false

/-- Which rows of one's own an operation loads from; appends to. -/
def ldId (s : PT) (o : Oper) : List Nat := match o.op with
  | .load _ x => match ev s x with
    | some (.ptr id _) => [id]
    | _ => []
  | _ => []
def mslId : AV → List Nat
  | .msl id _ _ _ _ => [id]
  | _ => []
def appId (s : PT) (o : Oper) : List Nat := match o.op with
  | .call { callee := .builtin .append, args, .. } => match args.toList with
    | [x, _] => match ev s x with
      | some c => mslId c
      | none => []
    | _ => []
  | _ => []
def isApp (o : Oper) : Bool := match o.op with
  | .call { callee := .builtin .append, .. } => true
  | _ => false
def anyApp : List Oper → Bool
  | [] => false
  | o :: r => isApp o || anyApp r
def drawIds (C : Cfg) (run : FuncId → List AV → H → Option (AV × H)) (cf : FuncId) (ops : Array Oper) : List Oper → PT → H → List Nat × List Nat
  | [], _, _ => ([], [])
  | o :: rest, s, h =>
    if Region.wanted o (yieldedV ops s) then
      match opV C run cf s h o with
      | some (v, h') => (ldId s o ++ (drawIds C run cf ops rest (putV s o.dst v) h').1, appId s o ++ (drawIds C run cf ops rest (putV s o.dst v) h').2)
      | none => ([], [])
    else drawIds C run cf ops rest (putV s o.dst AV.undef) h
/-- In a region whose order is drawn, no row that is appended to is loaded from. -/
def drawOk (C : Cfg) (run : FuncId → List AV → H → Option (AV × H)) (cf : FuncId) (ops : Array Oper) (draw : Bool) (s : PT) (h : H) : Bool :=
  !draw || !anyApp ops.toList || (drawIds C run cf ops ops.toList s h).1.all fun i => !(drawIds C run cf ops ops.toList s h).2.contains i
/-- The temporaries of a round: the loop's variables put in. -/
def setPs : List (Tmp × AV) → PT → PT
  | [], s => s
  | (p, v) :: r, s => setPs r (s.set p v)

/- Drawn regions in which each new object has a place of its own. -/
mutual
/-- A value in which the object i is called k. -/
def AV.mv (i k : Nat) : AV → AV
  | .ptr id off => .ptr (if id = i then k else id) off
  | .msl id off sz len cap => .msl (if id = i then k else id) off sz len cap
  | .isl es (.tok t) => .isl es (.tok (if t = i then k else t))
  | .yield j => .yield (if j = i then k else j)
  | .mp id => .mp (if id = i then k else id)
  | .func f c => .func f (AV.mvs i k c)
  | .iface t v => .iface t (AV.mv i k v)
  | .agg cs => .agg (AV.mvs i k cs)
  | .tuple vs => .tuple (AV.mvs i k vs)
  | v => v
def AV.mvs (i k : Nat) : List AV → List AV
  | [] => []
  | v :: r => AV.mv i k v :: AV.mvs i k r
end
def VObj.mv (i k : Nat) : VObj → VObj
  | .cells cs .dead => .cells cs .dead
  | .cells cs st => .cells (AV.mvs i k cs) st
  | .map es => .map (es.map fun e => (e.1, e.2.mv i k))
  | o => o
def mpId : AV → List Nat
  | .mp id => [id]
  | _ => []
def tokId : AV → List Nat
  | .isl _ (.tok t) => [t]
  | _ => []
/-- The memory that an operation looks at, and whether it turns or makes any. -/
def foot (C : Cfg) (s : PT) (h : H) (o : Oper) : Option (List Nat × Bool) :=
  if active o then
    match o.op with
    | .store _ a _ => match ev s a with
      | some (.ptr id _) => some ([id], true)
      | _ => none
    | .alloc _ | .box .. | .makeSlice .. | .makeMap .. | .assign _ => some ([], true)
    | .lookup _ m _ _ | .mapUpdate _ m _ _ | .insert _ m _ _ => match ev s m with
      | some a => some (mpId a, true)
      | none => none
    | .buildSlice _ _ parts => match partsV s parts.toList with
      | some l => some (reachs h deep (l.map (·.2)), true)
      | none => none
    | .call { callee := .builtin .append, args, .. } => match args.toList with
      | [x, y] => match ev s x, ev s y with
        | some a, some b => some (mslId a ++ tokId a ++ mslId b, true)
        | _, _ => none
      | _ => none
    | .call { callee := .value f, args, .. } => match ev s f, evs s args.toList with
      | some (.func g captured), some l => if hasBody C.P g then (match C.mode g with
          | .openH => none
          | .openQ => none
          | .openF => none
          | _ => some (reachs h deep (l ++ captured), true)) else some ([], true)
      | _, _ => none
    | _ => none
  else match o.op with
    | .load _ x => match ev s x with
      | some (.ptr id _) => some ([id], false)
      | _ => some ([], false)
    | _ => some ([], false)
/-- The memory behind an operation: what it made lies in its own place p. -/
def fin (p : Nat) (T : List Nat) (h h' : H) : H := h.mapIdx fun id x =>
  if id = p then (match h'[h.length]? with
    | some y => y.mv h.length p
    | none => x)
  else if T.contains id then (match h'[id]? with
    | some y => y.mv h.length p
    | none => x)
  else x
/-- A footprint: what is looked at, what is turned. -/
abbrev FP := List Nat × List Nat
def isVoid : Option VObj → Bool
  | some .void => true
  | _ => false
/-- One operation: its value, the memory behind it, its footprint. -/
def mixStep (C : Cfg) (run : FuncId → List AV → H → Option (AV × H)) (cf : FuncId) (ops : Array Oper) (base i : Nat) (o : Oper) (s : PT) (h : H) : Option (AV × H × FP) :=
  if Region.wanted o (yieldedV ops s) then
    match foot C s h o, opV C run cf s h o with
    | some (T, wr), some (v, h') =>
      if h'.length ≤ h.length + 1 ∧ T.contains (base + i) = false ∧ isVoid h[base + i]? = true then
        some (v.mv h.length (base + i), if wr then fin (base + i) T h h' else h, if wr then ((base + i) :: T, (base + i) :: T) else (T, []))
      else none
    | _, _ => none
  else some (AV.undef, h, ([], []))
def mixTo (C : Cfg) (run : FuncId → List AV → H → Option (AV × H)) (cf : FuncId) (ops : Array Oper) (base : Nat) : Nat → PT → H → Option (PT × H × List FP)
  | 0, s, h => some (s, h, [])
  | n + 1, s, h => match mixTo C run cf ops base n s h, ops[n]? with
    | some (s1, h1, F), some o => match mixStep C run cf ops base n o s1 h1 with
      | some (v, h2, f) => some (putV s1 o.dst v, h2, F ++ [f])
      | none => none
    | _, _ => none
/-- Two operations that may not change places, for their temporaries' sake. -/
def tmpClash (ops : Array Oper) (x y : Oper) : Bool :=
  (match x.dst with | some t => (reads ops y).contains t || y.dst == some t | none => false) || (match y.dst with | some t => (reads ops x).contains t | none => false)
def tmpOk (ops : Array Oper) : Bool :=
  let b := Region.before ops
  (List.range ops.size).all fun j => match ops[j]? with
    | none => true
    | some y => edgesLow j y && (List.range j).all fun i => match ops[i]? with
      | none => true
      | some x => !tmpClash ops x y || (b.getD j 0).testBit i
def meet (a b : List Nat) : Bool := a.any fun i => b.contains i
/-- Operations in no order have footprints apart. -/
def fpOk (ops : Array Oper) (F : List FP) : Bool :=
  let b := Region.before ops
  (List.range F.length).all fun j => match F[j]? with
    | none => true
    | some y => (List.range j).all fun i => match F[i]? with
      | none => true
      | some x => !(meet x.2 y.1 || meet y.2 x.1) || (b.getD j 0).testBit i
def mixV (C : Cfg) (run : FuncId → List AV → H → Option (AV × H)) (cf : FuncId) (ops : Array Oper) (s : PT) (h : H) : Option (PT × H) :=
  if tmpOk ops then
    match mixTo C run cf ops h.length ops.size s (h ++ List.replicate ops.size .void) with
    | some (s', h', F) => if fpOk ops F then some (s', h') else none
    | none => none
  else none
def exec (C : Cfg) (run : FuncId → List AV → H → Option (AV × H)) (cf : FuncId) : Nat → Code → PT → H → Option (Ex × PT × H)
  | 0, _, _, _ => none
  | n + 1, c, s, h => match c with
    | .skip => some (.normal, s, h)
    | .region id ops draw => if (draw && C.mix cf id) = true then (match mixV C run cf ops s h with
      | some (s', h') => some (.normal, s', h')
      | none => none) else match runOps C run cf ops ops.toList s h with
      | some (s', h') => if drawOk C run cf ops draw s h then some (.normal, s', h') else none
      | none => none
    | .seq a b => match exec C run cf n a s h with
      | some (.normal, s', h') => exec C run cf n b s' h'
      | r => r
    | .cond c a b => match ev s c with
      | some (.bool true) => exec C run cf n a s h
      | some (.bool false) => exec C run cf n b s h
      | _ => none
    | .block id b => match exec C run cf n b s h with
      | some (.exit i, s', h') => if i = id then some (.normal, s', h') else some (.exit i, s', h')
      | r => r
    | .loop b => match exec C run cf n b s h with
      | some (.normal, s', h') => exec C run cf n (.loop b) s' h'
      | r => r
    | .exit id => some (.exit id, s, h)
    | .ret => some (.ret, s, h)
    | .rangeFunc g ps assign body => match ev s g, C.P.funcs[cf]? with
      | some (.func gf cap), some fn =>
        if hasBody C.P gf then
          match run gf (.yield h.length :: cap) (h ++ [.loop ⟨cf, s, fn.ntmps, ps, assign, body⟩ .ready]) with
          | some (_, h') => match h'[h.length]? with
            | some (.loop L .ready) => some (.normal, s, h'.set h.length (.loop L .over))
            | some (.loop L (.done e)) => some (e, s, h'.set h.length (.loop L .over))
            | _ => none
          | none => none
        else none
      | _, _ => none
    | _ => none

/-- One round: the call of yield. -/
def roundV (C : Cfg) (run : FuncId → List AV → H → Option (AV × H)) (n i : Nat) (args : List AV) (h : H) : Option (AV × H) :=
  match h[i]? with
  | some (.loop L .ready) =>
    if args.length = L.ps.size ∧ L.ps.all (fun p => decide (p < L.n)) ∧ codeOk C L.cf L.n true L.assign ∧ codeOk C L.cf L.n true L.body then
      match exec C run L.cf n L.assign (setPs (L.ps.toList.zip args) L.s) h with
      | some (.normal, s1, h1) => match h1[i]? with
        | some (.loop L1 .ready) => match exec C run L.cf n L.body s1 (h1.set i (.loop L1 .busy)) with
          | some (e, _, h2) => match h2[i]? with
            | some (.loop L2 .busy) => match e with
              | .normal => some (.bool true, h2.set i (.loop L2 .ready))
              | e => some (.bool false, h2.set i (.loop L2 (.done e)))
            | _ => none
          | none => none
        | _ => none
      | _ => none
    else none
  | _ => none

def initS : Nat → List AV → PT → PT
  | _, [], s => s
  | i, v :: r, s => initS (i + 1) r (s.set i v)
def resV (P : Program) (s : PT) (h : H) : ResultVar → Option AV
  | .tmp t => some (s.get t)
  | .cell a t => loadV P h t (s.get a)
def resVs (P : Program) (s : PT) (h : H) : List ResultVar → Option (List AV)
  | [] => some []
  | x :: r => match resV P s h x, resVs P s h r with
    | some a, some l => some (a :: l)
    | _, _ => none
def resultV (P : Program) (s : PT) (h : H) (l : List ResultVar) : Option AV :=
  match l with
  | [x] => resV P s h x
  | l => match resVs P s h l with
    | some vs => some (.tuple vs)
    | none => none

def callR (C : Cfg) : Nat → FuncId → List AV → H → Option (AV × H)
  | 0, _, _, _ => none
  | n + 1, f, args, h => match C.P.funcs[f]? with
    | none => if yb C.P ≤ f then roundV C (callR C n) n (f - yb C.P) args h else none
    | some fn => match C.prim f args h with
      | some z => some z
      | none => match fn.body with
        | none => none
        | some c =>
          if codeOk C f fn.ntmps false c ∧ args.length ≤ fn.ntmps then
            match exec C (callR C n) f n c (initS 0 args .leaf) h with
            | some (.normal, s, h') | some (.ret, s, h') => match resultV C.P s h' fn.results.toList with
              | some v => some (v, h')
              | none => none
            | _ => none
          else none

end Go.V
