/- A part of the proof. -/
import Derived.Test.YtbcnnpkfkopoeaaGreatDoorProg
import Derived.Test.YtbcnnpkfkopoeaaGreatDoorD0
import Derived.Test.YtbcnnpkfkopoeaaGreatDoorV34
import Derived.ChangeArms
import Derived.Test.YtbcnnpkfkopoeaaGreatDoorRows
set_option maxHeartbeats 4000000
set_option maxRecDepth 8000
namespace Go.VZ
open Go Go.V Go.Proofs Tryz TL
def md:FuncId->Go.V.Mode:=λf=>if f=115\/f=149\/f=46\/f=85\/f=86\/f=87\/f=88\/f=126\/f=127\/f=96\/f=182\/f=183\/f=184\/f=209\/f=211\/f=227 then .openH else if f=9\/f=47\/f=49\/f=229 then .ownM else if f=228 then .openF else .strip
def wrt:FuncId->Tmp->Bool:=λf t=>(decide (f=67)&&(decide (t=22)||decide (t=26)))||decide (f=9)||decide (f=21)||decide (f=47)||decide (f=49)||decide (f=77)||decide (f=25)||decide (f=87)||decide (f=151)||decide (f=182)||decide (f=183)||decide (f=211)||decide (f=229)
def WD:List Value->Option Value
 |[.string a,.string b]=>some (.int .i64 (Lib.compareBytes a.data.toList b.data.toList))
 |_=>none
def ext:FuncId->Array Value->Option Value:=λf vs=>if f=204 then WD vs.toList else none
theorem pv(f:FuncId) (vs:Array Value) (v:Value) (w:World) (h:ext f vs=some v):(callFunc f vs).run prog w=.ok (.value v) w:=by
 have⟨l⟩:=vs;unfold ext at h;split at h
 ·rename_i e;subst e;simp only at h;unfold WD at h;split at h<;>try(cases h;done)
  rename_i a b;simp only[aA]at h;subst h;rw[run_callFunc_extern func204 k_ k_ k_ (e:=Extern.BytealgCompare.compare) k_];rw[show(⟨[.string a,.string b]⟩:Array Value) = #[.string a,.string b]from rfl,Lib.run_compareString];rfl
 cases h
def mixL:List (Nat × Nat):=[(13,12),(21,3),(25,1),(26,17),(77,1),(57,1),(87,1),(94,1),(107,3),(112,3),(145,4),(145,9),(145,10),(145,12),(145,14),(145,15),(146,6),(146,17),(156,2),(183,1),(211,1),(60,2),(61,12),(109,7),(67,4),(34,19),(17,16),(20,19)]
def cloneIds:List Nat:=[9,49,229]
def lG:FuncId->LA->H->Option (AV × H):=λf args h=>if cloneIds.contains f then(match args with|[.isl [] _]=>some (.isl [] .full,h)|_=>none)else none
mutual
def enc:T->AV
 |.mk k n s l=>.agg [.int .i64 k,.str n,.int .i64 s,.isl (Am l) .unk]
def Am:Lq->LA
 |[]=>[]
 |t::l=>enc t::Am l
end
open Classical in
noncomputable def tH(args:LA) (h:H):Option (AV × H):=match args with
 |[.isl [] _,.func 98 []]=>some (.tuple [],h)
 |[.msl id 0 4 n none,.func 98 []]=>if e:∃l:Lq,n=l.length/\l.length<1000000000/\(∀t∈l,t.size<4000000)/\h[id]?=some (.cells (l.flatMap λt=>(enc t).cells) .live)then some (.tuple [],h.set id (.cells ((srt e.choose).flatMap λt=>(enc t).cells) .live))else none
 |_=>none
def pg(l:Lb):Lb:=l.mergeSort λx y=>!decide (y.1.cmp x.1<0)
def bw(l:Lb):LA:=l.flatMap λb=>(enc b.1).cells++(enc b.2).cells
open Classical in
noncomputable def rF(args:LA) (h:H):Option (AV × H):=match args with
 |[.isl [] _,.func 212 []]=>some (.tuple [],h)
 |[.msl id 0 8 n none,.func 212 []]=>if e:∃l:Lb,n=l.length/\l.length<1000000000/\(∀b∈l,b.1.size<4000000/\b.2.size<4000000)/\l.Pairwise (λa b=>a.1≠b.1)/\h[id]?=some (.cells (bw l) .live)then some (.tuple [],h.set id (.cells (bw (pg e.choose)) .live))else none
 |_=>none
def jj(n:Nat):List UInt8:=if n<10 then [UInt8.ofNat (48+n)]else if n<100 then [UInt8.ofNat (48+n/10),UInt8.ofNat (48+n%10)]else [UInt8.ofNat (48+n/100),UInt8.ofNat (48+n/10%10),UInt8.ofNat (48+n%10)]
def tI(args:LA) (h:H):Option (AV × H):=match args with
 |[.int .i64 n]=>if 0<=n/\n<1000 then some (.str ⟨(jj n.toNat).toArray⟩,h)else none
 |_=>none
structure Fa where
 kind:Int
 goal:Int
 terms:Lq
structure Cl where
 body:List Fa
 head:Fa
def tab23:List (ByteArray × Cl):=[
 (⟨#[97,116,116,40,63,120,41,32,38,32,97,116,116,40,63,121,41,32,45,62,32,97,116,116,40,112,97,105,114,40,63,120,44,32,63,121,41,41]⟩,⟨[⟨1,0,[.mk 1 ⟨#[120]⟩ 0 []]⟩,⟨1,0,[.mk 1 ⟨#[121]⟩ 0 []]⟩],⟨1,0,[.mk 3 ⟨#[112,97,105,114]⟩ 0 [.mk 1 ⟨#[120]⟩ 0 [],.mk 1 ⟨#[121]⟩ 0 []]]⟩⟩),
 (⟨#[97,116,116,40,112,97,105,114,40,63,120,44,32,63,121,41,41,32,45,62,32,97,116,116,40,63,120,41]⟩,⟨[⟨1,0,[.mk 3 ⟨#[112,97,105,114]⟩ 0 [.mk 1 ⟨#[120]⟩ 0 [],.mk 1 ⟨#[121]⟩ 0 []]]⟩],⟨1,0,[.mk 1 ⟨#[120]⟩ 0 []]⟩⟩),
 (⟨#[97,116,116,40,112,97,105,114,40,63,120,44,32,63,121,41,41,32,45,62,32,97,116,116,40,63,121,41]⟩,⟨[⟨1,0,[.mk 3 ⟨#[112,97,105,114]⟩ 0 [.mk 1 ⟨#[120]⟩ 0 [],.mk 1 ⟨#[121]⟩ 0 []]]⟩],⟨1,0,[.mk 1 ⟨#[121]⟩ 0 []]⟩⟩),
 (⟨#[97,116,116,40,63,120,41,32,38,32,97,116,116,40,63,107,41,32,45,62,32,97,116,116,40,101,110,99,40,63,120,44,32,63,107,41,41]⟩,⟨[⟨1,0,[.mk 1 ⟨#[120]⟩ 0 []]⟩,⟨1,0,[.mk 1 ⟨#[107]⟩ 0 []]⟩],⟨1,0,[.mk 3 ⟨#[101,110,99]⟩ 0 [.mk 1 ⟨#[120]⟩ 0 [],.mk 1 ⟨#[107]⟩ 0 []]]⟩⟩),
 (⟨#[97,116,116,40,101,110,99,40,63,120,44,32,63,107,41,41,32,38,32,97,116,116,40,63,107,41,32,45,62,32,97,116,116,40,63,120,41]⟩,⟨[⟨1,0,[.mk 3 ⟨#[101,110,99]⟩ 0 [.mk 1 ⟨#[120]⟩ 0 [],.mk 1 ⟨#[107]⟩ 0 []]]⟩,⟨1,0,[.mk 1 ⟨#[107]⟩ 0 []]⟩],⟨1,0,[.mk 1 ⟨#[120]⟩ 0 []]⟩⟩),
 (⟨#[97,116,116,40,63,120,41,32,45,62,32,97,116,116,40,104,97,115,104,40,63,120,41,41]⟩,⟨[⟨1,0,[.mk 1 ⟨#[120]⟩ 0 []]⟩],⟨1,0,[.mk 3 ⟨#[104,97,115,104]⟩ 0 [.mk 1 ⟨#[120]⟩ 0 []]]⟩⟩),
 (⟨#[97,116,116,40,97,58,97,110,121,41]⟩,⟨[],⟨1,0,[.mk 2 ⟨#[97]⟩ 0 []]⟩⟩),
 (⟨#[97,116,116,40,107,58,97,110,121,41]⟩,⟨[],⟨1,0,[.mk 2 ⟨#[107]⟩ 0 []]⟩⟩),
 (⟨#[97,116,116,40,101,110,99,40,115,58,97,110,121,44,32,107,58,97,110,121,41,41]⟩,⟨[],⟨1,0,[.mk 3 ⟨#[101,110,99]⟩ 0 [.mk 2 ⟨#[115]⟩ 0 [],.mk 2 ⟨#[107]⟩ 0 []]]⟩⟩),
 (⟨#[97,116,116,40,101,110,99,40,115,58,97,110,121,44,32,104,97,115,104,40,107,58,97,110,121,41,41,41]⟩,⟨[],⟨1,0,[.mk 3 ⟨#[101,110,99]⟩ 0 [.mk 2 ⟨#[115]⟩ 0 [],.mk 3 ⟨#[104,97,115,104]⟩ 0 [.mk 2 ⟨#[107]⟩ 0 []]]]⟩⟩),
 (⟨#[97,116,116,40,101,110,99,40,63,120,44,32,107,58,97,110,121,41,41,32,45,62,32,97,116,116,40,112,97,105,114,40,63,120,44,32,97,58,97,110,121,41,41]⟩,⟨[⟨1,0,[.mk 3 ⟨#[101,110,99]⟩ 0 [.mk 1 ⟨#[120]⟩ 0 [],.mk 2 ⟨#[107]⟩ 0 []]]⟩],⟨1,0,[.mk 3 ⟨#[112,97,105,114]⟩ 0 [.mk 1 ⟨#[120]⟩ 0 [],.mk 2 ⟨#[97]⟩ 0 []]]⟩⟩),
 (⟨#[97,116,116,40,112,97,105,114,40,97,58,97,110,121,44,32,63,120,41,41,32,38,32,98,101,103,105,110,32,48,40,63,120,41,32,45,62,32,99,108,97,105,109,32,48,40,63,120,41]⟩,⟨[⟨1,0,[.mk 3 ⟨#[112,97,105,114]⟩ 0 [.mk 2 ⟨#[97]⟩ 0 [],.mk 1 ⟨#[120]⟩ 0 []]]⟩,⟨2,0,[.mk 1 ⟨#[120]⟩ 0 []]⟩],⟨3,0,[.mk 1 ⟨#[120]⟩ 0 []]⟩⟩),
 (⟨#[97,116,116,40,101,110,99,40,112,97,105,114,40,63,120,44,32,63,121,41,44,32,107,58,97,110,121,41,41,32,38,32,98,101,103,105,110,32,48,40,63,120,41,32,45,62,32,97,116,116,40,101,110,99,40,63,121,44,32,63,120,41,41]⟩,⟨[⟨1,0,[.mk 3 ⟨#[101,110,99]⟩ 0 [.mk 3 ⟨#[112,97,105,114]⟩ 0 [.mk 1 ⟨#[120]⟩ 0 [],.mk 1 ⟨#[121]⟩ 0 []],.mk 2 ⟨#[107]⟩ 0 []]]⟩,⟨2,0,[.mk 1 ⟨#[120]⟩ 0 []]⟩],⟨1,0,[.mk 3 ⟨#[101,110,99]⟩ 0 [.mk 1 ⟨#[121]⟩ 0 [],.mk 1 ⟨#[120]⟩ 0 []]]⟩⟩),
 (⟨#[97,116,116,40,63,120,41,32,38,32,97,116,116,40,104,97,115,104,40,63,120,41,41,32,45,62,32,99,108,97,105,109,32,49,40,63,120,44,32,97,58,97,110,121,41]⟩,⟨[⟨1,0,[.mk 1 ⟨#[120]⟩ 0 []]⟩,⟨1,0,[.mk 3 ⟨#[104,97,115,104]⟩ 0 [.mk 1 ⟨#[120]⟩ 0 []]]⟩],⟨3,1,[.mk 1 ⟨#[120]⟩ 0 [],.mk 2 ⟨#[97]⟩ 0 []]⟩⟩),
 (⟨#[97,116,116,40,110,101,119,40,110,58,97,110,121,44,32,63,120,41,41]⟩,⟨[],⟨1,0,[.mk 3 ⟨#[110,101,119]⟩ 0 [.mk 2 ⟨#[110]⟩ 0 [],.mk 1 ⟨#[120]⟩ 0 []]]⟩⟩),
 (⟨#[97,116,116,40,63,120,41,32,45,62,32,97,116,116,40,101,110,99,40,110,101,119,40,110,58,97,110,121,44,32,63,120,41,44,32,107,58,97,110,121,41,41]⟩,⟨[⟨1,0,[.mk 1 ⟨#[120]⟩ 0 []]⟩],⟨1,0,[.mk 3 ⟨#[101,110,99]⟩ 0 [.mk 3 ⟨#[110,101,119]⟩ 0 [.mk 2 ⟨#[110]⟩ 0 [],.mk 1 ⟨#[120]⟩ 0 []],.mk 2 ⟨#[107]⟩ 0 []]]⟩⟩)]
def pFa(f:Fa):AV:=.agg [.int .i64 f.kind,.int .i64 f.goal,.isl (f.terms.map enc) .unk]
def pCl(c:Cl):AV:=.agg [.isl (c.body.map pFa) .unk,.int .i64 c.head.kind,.int .i64 c.head.goal,.isl (c.head.terms.map enc) .unk]
def Gc(args:LA) (h:H):Option (AV × H):=match args with
 |[.str s]=>(match tab23.find? λe=>decide (e.1=s)with
  |some e=>some (.tuple [pCl e.2,.int .i64 0],h)
  |none=>none)
 |_=>none
noncomputable def prim:FuncId->LA->H->Option (AV × H):=λf args h=>if f=4 then(match args with|[]=>some (.bool true,h)|_=>none)else if f=23 then Gc args h else if f=126 then tH args h else if f=96 then rF args h else if f=132 then tI args h else lG f args h
noncomputable def C:Cfg:={P:=prog,mode:=md,wr:=wrt,prim:=prim,ext:=ext,extOk:=pv,mix:=λf i=>decide ((f,i)∈mixL)}
@[go_sem] theorem wrC (f:FuncId) (t:Tmp):C.wr f t=((decide (f=67)&&(decide (t=22)||decide (t=26)))||decide (f=9)||decide (f=21)||decide (f=47)||decide (f=49)||decide (f=77)||decide (f=25)||decide (f=87)||decide (f=151)||decide (f=182)||decide (f=183)||decide (f=211)||decide (f=229)):=(rfl)
@[go_sem] theorem gM (f:FuncId) (i:Nat):C.mix f i=decide ((f,i)∈[(13,12),(21,3),(25,1),(26,17),(77,1),(57,1),(87,1),(94,1),(107,3),(112,3),(145,4),(145,9),(145,10),(145,12),(145,14),(145,15),(146,6),(146,17),(156,2),(183,1),(211,1),(60,2),(61,12),(109,7),(67,4),(34,19),(17,16),(20,19)]):=(rfl)
theorem u23:C.P.underlying 32=some (.slice 41):=underlying32
theorem s3:cw C.P 3=some 1:=k_
theorem s9:cw C.P 9=some 1:=k_
theorem s23:cw C.P 32=some 1:=k_
theorem s25:cw C.P 41=some 4:=k_
theorem a3:gW C.P 3=some false:=k_
theorem a9:gW C.P 9=some false:=k_
theorem a23:gW C.P 32=some false:=k_
theorem a25:gW C.P 41=some true:=k_
attribute [go_sem] u23 s3 s9 s23 s25 a3 a9 a23 a25
theorem nF:∀l,Am l=l.map enc
 |[]=>rfl
 |t::l=>by rw[Am,nF l];rfl
def terms(l:Lq):AV:=.isl (l.map enc) .unk
theorem bV(t:T):enc t=.agg [.int .i64 t.kind,.str t.name,.int .i64 t.sort,terms t.kids]:=by cases t;rw[enc,nF];rfl
theorem aq(t:T):(enc t).cells=[.int .i64 t.kind,.str t.name,.int .i64 t.sort,terms t.kids]:=by rw[bV];rfl
@[go_sem] theorem am (l:LA):(AV.agg l).cells=l:=rfl
theorem fq(es:LA) (x:Ext):fG C.P 32 (.isl es x)=some (.int .i64 es.length):=by simp[fG,u23]
theorem lu(l:Lq) (k:Nat) (hk:k<l.length) (x:Ext):aZ C.P 32 (.isl (l.map enc) x) (.int .i64 k)=some (.iptr (enc l[k]) 0):=by simp[aZ,u23,s25,aq,hk]
theorem ee(t:T) (h:H):aJ C.P h 41 (.iptr (enc t) 0)=some (enc t):=by simp[aJ,aY,a25,s25,aq];rw[bV]
end Go.VZ
namespace Go.VZ
open Go Go.V Go.Proofs Tryz TL
theorem HJ(i:Nat):bp C.P 41 (.ptr i 0) 0=some (.ptr i 0):=k_
theorem HI(i:Nat):bp C.P 41 (.ptr i 0) 1=some (.ptr i 1):=k_
theorem HH(i:Nat):bp C.P 41 (.ptr i 0) 2=some (.ptr i 2):=k_
theorem HG(i:Nat):bp C.P 41 (.ptr i 0) 3=some (.ptr i 3):=k_
attribute [go_sem] HJ HI HH HG
theorem mf{f:FuncId}{args args':LA}{v:AV}{h:H}(hb:dl C.P f=true) (hm:C.mode f=.strip) (hd:iT args=some args') (hs:args.all short=true) (hl:args.length<90000)
  (hc:az C f args'=some v):aj C h (.func f []) (some args)=some (v,h):=by
 simp only[aj,hb,if_true,br];rw[kE hm hd hs hl,hc]
theorem an{f:FuncId}{args args':LA}{v:AV}{h:H}(hd:iT args=some args') (hs:args.all short=true) (hl:args.length<90000)
  (hc:az C f args'=some v) (hb:dl C.P f=true:=by(kernel_rfl)) (hm:C.mode f=.strip:=by rfl):aj C h (.func f []) (some args)=some (v,h):=mf hb hm hd hs hl hc
theorem fv(t:T):iT [enc t]=some [enc t]:=by rw[bV];rfl
theorem bF(t:T):short (enc t)=true:=by rw[bV];rfl
theorem gx(t:T) (h:H):mg C.P h 41 (enc t)=some (.ptr h.length 0,h++[.cells [.int .i64 t.kind,.str t.name,.int .i64 t.sort,terms t.kids] .live]):=by simp[mg,s25,aq];rw[bV];rfl
attribute [go_sem] gx
def OR(t:T) (n:Nat) (s:PT) (h:H):Prop:=∃k:Nat,n=t.kids.length-k/\k<=t.kids.length/\h=[.cells [.int .i64 t.kind,.str t.name,.int .i64 t.sort,terms t.kids] .live]/\s.get 1=.ptr 0 0/\s.get 3=.int .i64 (sizes (t.kids.take k)+1:Nat)/\s.get 4=.int .i64 k
theorem Mn(t:T):aJ C.P [.cells [.int .i64 t.kind,.str t.name,.int .i64 t.sort,terms t.kids] .live] 32 (.ptr 0 3)=some (terms t.kids):=by simp[aJ,aY,a23,s23]
theorem Ca(t:T) (hc:∀k∈t.kids,az C 75 [enc k]=some (.int .i64 k.size)) (hs:t.size<4000000):az C 75 [enc t]=some (.int .i64 t.size):=by
 refine bL func75 rfl λR l=>?_
 have c:t.size=sizes t.kids+1:=by cases t;rfl
 simp[go_sem];refine bX (OR t) t.kids.length ⟨0,by simp[go_sem,sizes]⟩ ?_;rintro n s h ⟨k,rfl,p,rfl,e,f,j⟩;have a:=Mn t;by_cases b:k<t.kids.length
 ·have d:(k:Int)<t.kids.length:=o_;have g:=lu t.kids k b .unk;have i:∀h,aj C h (.func 75 []) (some [enc t.kids[k]])=some (.int .i64 t.kids[k].size,h):=λh=>an (fv _) (by simp[bF]) s_ (hc _ (aG b))
  have q:=take_sizes b;have r:=take_sizes_le t.kids (k+1);have u:=len_sizes t.kids;have m:IntKind.i64.wrap ((sizes (t.kids.take k)+1:Nat)+(t.kids[k].size:Int))=(sizes (t.kids.take (k+1))+1:Nat):=by rw[ay o_];omega
  have o:=wS k o_;generalize v:sizes (t.kids.take k)+1=z at *;simp only[terms]at a;simp[go_sem,e,f,j,a,terms,fq,d,g,ee,i,-Int.natCast_add,m,o];refine⟨t.kids.length-(k+1),o_,k+1,rfl,b,?_⟩;simp[go_sem,e,terms]
 have:k=t.kids.length:=o_;subst this;rw[ak,<-c]at f;generalize t.size=z at *;simp only[terms]at a;simp[go_sem,e,f,j,a,terms,fq];refine l ⟨_,rfl,?_⟩;simp[go_sem,c];exact aU rfl rfl
theorem tB(t:T):t.size<4000000->az C 75 [enc t]=some (.int .i64 t.size):=by
 induction t using T.ind with
 |_ t b=>exact λc=>Ca t (λk a=>b k a (by have:=kid_size a;omega)) c
def OQ(t:T) (n:Nat) (s:PT) (_h:H):Prop:=∃k:Nat,n=t.kids.length-k/\k<=t.kids.length/\s.get 7=terms t.kids/\s.get 8=.int .i64 t.kids.length/\s.get 3=.int .i64 (sizes (t.kids.take k)+1:Nat)/\s.get 9=.int .i64 k
theorem zV:iV C.P 41=some (.agg [.int .i64 0,.str ⟨#[]⟩,.int .i64 0,.isl [] .full]):=k_
attribute [go_sem] zV
theorem Jh(t:T) (a b c d:AV) (h:H):ah C.P (h++[.cells [a,b,c,d] .live]) 41 (.ptr h.length 0) (enc t)=some (h++[.cells [.int .i64 t.kind,.str t.name,.int .i64 t.sort,terms t.kids] .live]):=by simp[ah,s25];rw[bV];rfl
theorem B2(t:T) (h:H):aJ C.P (h++[.cells [.int .i64 t.kind,.str t.name,.int .i64 t.sort,terms t.kids] .live]) 41 (.ptr h.length 0)=some (enc t):=by simp[aJ,aY,a25,s25];rw[bV]
theorem CZ(t:T) (hc:∀k∈t.kids,az C 136 [enc k]=some (.int .i64 k.size)) (hs:t.size<4000000):az C 136 [enc t]=some (.int .i64 t.size):=by
 refine bL func136 rfl λR m=>?_
 have d:t.size=sizes t.kids+1:=size_kids t;have b:=Mn t;simp only[terms]at b;simp[go_sem,b,terms,fq];refine bX (OQ t) t.kids.length ⟨0,by simp[go_sem,sizes,terms]⟩ ?_;rintro n s h ⟨k,rfl,q,e,f,g,l⟩;by_cases a:k<t.kids.length
 ·have c:(k:Int)<t.kids.length:=o_;have i:=lu t.kids k a .unk;have j:∀h,aj C h (.func 136 []) (some [enc t.kids[k]])=some (.int .i64 t.kids[k].size,h):=λh=>an (fv _) (by simp[bF]) s_ (hc _ (aG a))
  have r:=take_sizes a;have u:=take_sizes_le t.kids (k+1);have v:=len_sizes t.kids;have o:IntKind.i64.wrap ((sizes (t.kids.take k)+1:Nat)+(t.kids[k].size:Int))=(sizes (t.kids.take (k+1))+1:Nat):=by rw[ay o_];omega
  have p:=wS k o_;generalize w:sizes (t.kids.take k)+1=z at *;simp only[terms]at e;simp[go_sem,e,f,g,l,c,i,ee,Jh,B2,j,-Int.natCast_add,o,p];refine⟨t.kids.length-(k+1),o_,k+1,rfl,a,?_⟩;simp[go_sem,e,f,terms]
 have:k=t.kids.length:=o_;subst this;rw[ak,<-d]at g;generalize t.size=z at *;simp[go_sem,f,g,l];refine m ⟨_,rfl,?_⟩;simp[go_sem];exact aU rfl rfl
theorem sy(t:T):t.size<4000000->az C 136 [enc t]=some (.int .i64 t.size):=by
 induction t using T.ind with
 |_ t b=>exact λc=>CZ t (λk a=>b k a (by have:=kid_size a;omega)) c
theorem xY(a b:Int):az C 135 [.int .i64 a,.int .i64 b]=some (.int .i64 (sgn a b)):=by
 refine bL func135 rfl λR e=>?_
 by_cases c:a<b
 ·simp[go_sem,c];refine e ⟨_,rfl,?_⟩;simp[go_sem,sgn,c];exact aU rfl rfl
 by_cases d:b<a
 ·simp[go_sem,c,d];refine e ⟨_,rfl,?_⟩;simp[go_sem,sgn,c,d];exact aU rfl rfl
 simp[go_sem,c,d];refine e ⟨_,rfl,?_⟩;simp[go_sem,sgn,c,d];exact aU rfl rfl
theorem Ec(a b:Int):az C 148 [.int .i64 a,.int .i64 b]=some (.int .i64 (sgn a b)):=by
 refine bL func148 rfl λR e=>?_
 by_cases c:a<b
 ·simp[go_sem,c];refine e ⟨_,rfl,?_⟩;simp[go_sem,sgn,c];exact aU rfl rfl
 by_cases d:b<a
 ·simp[go_sem,c,d];refine e ⟨_,rfl,?_⟩;simp[go_sem,sgn,c,d];exact aU rfl rfl
 simp[go_sem,c,d];refine e ⟨_,rfl,?_⟩;simp[go_sem,sgn,c,d];exact aU rfl rfl
theorem Df(a b:Int) (h:H):aj C h (.func 135 []) (some [.int .i64 a,.int .i64 b])=some (.int .i64 (sgn a b),h):=an rfl rfl s_ (xY a b)
theorem sW(a b:Int) (h:H):aj C h (.func 148 []) (some [.int .i64 a,.int .i64 b])=some (.int .i64 (sgn a b),h):=an rfl rfl s_ (Ec a b)
theorem Da(a b:ByteArray) (h:H):aj C h (.func 204 []) (some [.str a,.str b])=some (.int .i64 (Lib.compareBytes a.data.toList b.data.toList),h):=by have c:dl C.P 204=false:=k_;simp only[aj,c];rfl
theorem pz(a b:ByteArray):az C 175 [.str a,.str b]=some (.int .i64 (Lib.compareBytes a.data.toList b.data.toList)):=by
 refine bL func175 rfl λR c=>?_
 simp[go_sem,Da];refine c ⟨_,rfl,?_⟩;simp[go_sem];exact aU rfl rfl
theorem Dd(a b:ByteArray) (h:H):aj C h (.func 175 []) (some [.str a,.str b])=some (.int .i64 (Lib.compareBytes a.data.toList b.data.toList),h):=an rfl rfl s_ (pz a b)
theorem sP(a b:ByteArray):az C 137 [.str a,.str b]=some (.int .i64 (Lib.compareBytes a.data.toList b.data.toList)):=by
 refine bL func137 rfl λR c=>?_
 simp[go_sem,Dd];refine c ⟨_,rfl,?_⟩;simp[go_sem];exact aU rfl rfl
theorem De(a b:ByteArray) (h:H):aj C h (.func 137 []) (some [.str a,.str b])=some (.int .i64 (Lib.compareBytes a.data.toList b.data.toList),h):=an rfl rfl s_ (sP a b)
theorem Dg(t:T) (hs:t.size<4000000) (h:H):aj C h (.func 75 []) (some [enc t])=some (.int .i64 t.size,h):=an (fv _) (by simp[bF]) s_ (tB t hs)
theorem xI(t:T) (hs:t.size<4000000) (h:H):aj C h (.func 136 []) (some [enc t])=some (.int .i64 t.size,h):=an (fv _) (by simp[bF]) s_ (sy t hs)
theorem IX(a b:ByteArray):Op.bytesLess a.toList b.toList=decide (Lib.compareBytes a.data.toList b.data.toList = -1):=by
 rw[Lib.toList_data,Lib.toList_data];generalize a.data.toList=x;generalize b.data.toList=y;induction x generalizing y with
 |nil=>cases y<;>simp[Op.bytesLess,Lib.compareBytes]
 |cons c x h=>
  cases y with
  |nil=>simp[Op.bytesLess,Lib.compareBytes]
  |cons d y=>
   rw[Op.bytesLess,Lib.compareBytes,h];by_cases f:c<d
   ·simp[f]
   by_cases g:d<c
   ·have:c≠d:=λe=>by subst e;exact f g
    simp[f,g,this]
   have:c=d:=by simp only[UInt8.lt_iff_toNat_lt]at f g;exact UInt8.toNat_inj.mp o_
   subst this;simp[f]
theorem WJ(a b:ByteArray):(a.toList==b.toList)=decide (Lib.compareBytes a.data.toList b.data.toList=0):=by
 rw[Lib.toList_data,Lib.toList_data];simp only[cb_zero];by_cases h:a.data.toList=b.data.toList
 ·rw[decide_eq_true h,h];simp
 rw[decide_eq_false h];exact beq_eq_false_iff_ne.mpr h
def tM(a b:ByteArray):Int:=Lib.compareBytes a.data.toList b.data.toList
theorem wg(x y:Operand) (a b:ByteArray):jU C.P .lss 9 x y (.str a) (.str b)=some (.bool (decide (tM a b = -1))):=by
 have e:dA C.P (do eqGuard BinOp.lss 9 x y (.string a) (.string b);binOp .lss 9 (.string a) (.string b))=some (.bool (Op.bytesLess a.toList b.toList)):=by simp[eqGuard,binOp,Op.stringOp];try rfl
 simp only[jU,fI,cn,e,fR,eX,IX,tM];congr
theorem zM(x y:Operand) (a b:ByteArray):jU C.P .gtr 9 x y (.str a) (.str b)=some (.bool (decide (tM a b=1))):=by
 have e:dA C.P (do eqGuard BinOp.gtr 9 x y (.string a) (.string b);binOp .gtr 9 (.string a) (.string b))=some (.bool (!(Op.bytesLess a.toList b.toList||a.toList==b.toList))):=by simp[eqGuard,binOp,Op.stringOp];try rfl
 simp only[jU,fI,cn,e,fR,eX,IX,WJ,tM];rcases cb_range a.data.toList b.data.toList with h|h|h<;>simp[h]
def two(a b:T):H:=[.cells [.int .i64 a.kind,.str a.name,.int .i64 a.sort,terms a.kids] .live,.cells [.int .i64 b.kind,.str b.name,.int .i64 b.sort,terms b.kids] .live]
theorem pZ(a b:T):aJ C.P (two a b) 41 (.ptr 0 0)=some (enc a):=by simp[two,aJ,aY,a25,s25];rw[bV]
theorem pX(a b:T):aJ C.P (two a b) 41 (.ptr 1 0)=some (enc b):=by simp[two,aJ,aY,a25,s25];rw[bV]
theorem pY(a b:T):aJ C.P (two a b) 3 (.ptr 0 0)=some (.int .i64 a.kind):=by simp[two,aJ,aY,a3,s3]
theorem pW(a b:T):aJ C.P (two a b) 3 (.ptr 1 0)=some (.int .i64 b.kind):=by simp[two,aJ,aY,a3,s3]
theorem qg(a b:T):aJ C.P (two a b) 9 (.ptr 0 1)=some (.str a.name):=by simp[two,aJ,aY,a9,s9]
theorem qf(a b:T):aJ C.P (two a b) 9 (.ptr 1 1)=some (.str b.name):=by simp[two,aJ,aY,a9,s9]
theorem xV(a b:T):aJ C.P (two a b) 3 (.ptr 0 2)=some (.int .i64 a.sort):=by simp[two,aJ,aY,a3,s3]
theorem xU(a b:T):aJ C.P (two a b) 3 (.ptr 1 2)=some (.int .i64 b.sort):=by simp[two,aJ,aY,a3,s3]
theorem ml(a b:T):aJ C.P (two a b) 32 (.ptr 0 3)=some (.isl (a.kids.map enc) .unk):=by simp[two,aJ,aY,a23,s23,terms]
theorem oo(a b:T):aJ C.P (two a b) 32 (.ptr 1 3)=some (.isl (b.kids.map enc) .unk):=by simp[two,aJ,aY,a23,s23,terms]
theorem yO(a b:T):mg C.P [.cells [.int .i64 a.kind,.str a.name,.int .i64 a.sort,terms a.kids] .live] 41 (enc b)=some (.ptr 1 0,two a b):=by rw[gx];rfl
theorem DQ(a b:T):a.cmp b=thn (sgn a.size b.size) (thn (sgn a.kind b.kind) (thn (Lib.compareBytes a.name.data.toList b.name.data.toList) (thn (sgn a.sort b.sort) (thn (sgn a.kids.length b.kids.length) (cmps a.kids b.kids))))):=by cases a;cases b;rw[T.cmp];rfl
theorem fA(a b:T):iT [enc a,enc b]=some [enc a,enc b]:=by rw[bV a,bV b];rfl
def XY(a b:T) (n:Nat) (s:PT) (h:H):Prop:=∃k:Nat,n=a.kids.length-k/\k<=a.kids.length/\h=two a b/\s.get 2=.ptr 0 0/\s.get 3=.ptr 1 0/\s.get 9=.int .i64 k/\cmps (a.kids.drop k) (b.kids.drop k)=cmps a.kids b.kids
theorem Tg(a b:T) (hs:a.size<4000000) (hs2:b.size<4000000) (hc:∀k∈a.kids,∀m∈b.kids,az C 117 [enc k,enc m]=some (.int .i64 (k.cmp m))):az C 117 [enc a,enc b]=some (.int .i64 (a.cmp b)):=by
 refine bL func117 rfl λR i=>?_
 have o:=DQ a b;have p:=Dg a hs;have q:=Dg b hs2;by_cases c:sgn a.size b.size≠0
 ·simp[go_sem,yO,pZ,pX,p,q,sW,c];refine i ⟨_,rfl,?_⟩;simp[go_sem,o,thn,c];exact aU rfl rfl
 replace c:=Decidable.not_not.mp c
 by_cases d:sgn a.kind b.kind≠0
 ·simp[go_sem,yO,pZ,pX,pY,pW,p,q,sW,c,d];refine i ⟨_,rfl,?_⟩;simp[go_sem,o,thn,c,d];exact aU rfl rfl
 replace d:=Decidable.not_not.mp d
 by_cases r:tM a.name b.name = -1
 ·simp[go_sem,yO,pZ,pX,pY,pW,qg,qf,p,q,sW,c,d,wg,r];refine i ⟨_,rfl,?_⟩;simp only[tM]at r;simp[go_sem,o,thn,c,d,r];exact aU rfl rfl
 by_cases t:tM a.name b.name=1
 ·simp[go_sem,yO,pZ,pX,pY,pW,qg,qf,p,q,sW,c,d,wg,zM,t];refine i ⟨_,rfl,?_⟩;simp only[tM]at t;simp[go_sem,o,thn,c,d,t];exact aU rfl rfl
 have D:Lib.compareBytes a.name.data.toList b.name.data.toList=0:=by
  rcases cb_range a.name.data.toList b.name.data.toList with e|e|e
  ·exact absurd e r
  ·exact e
  exact absurd e t
 by_cases j:sgn a.sort b.sort≠0
 ·simp[go_sem,yO,pZ,pX,pY,pW,qg,qf,xV,xU,p,q,sW,c,d,wg,zM,r,t,j];refine i ⟨_,rfl,?_⟩;simp[go_sem,o,thn,c,d,D,j];exact aU rfl rfl
 replace j:=Decidable.not_not.mp j
 by_cases u:sgn a.kids.length b.kids.length≠0
 ·simp[go_sem,yO,pZ,pX,pY,pW,qg,qf,xV,xU,ml,oo,fq,p,q,sW,c,d,wg,zM,r,t,j,u];refine i ⟨_,rfl,?_⟩;simp[go_sem,o,thn,c,d,D,j,u];exact aU rfl rfl
 replace u:=Decidable.not_not.mp u
 have G:a.kids.length=b.kids.length:=by have:=sgn_zero.mp u;omega
 have x:a.cmp b=cmps a.kids b.kids:=by rw[o,c,d,D,j,u];rfl
 simp[go_sem,yO,pZ,pX,pY,pW,qg,qf,xV,xU,ml,oo,fq,p,q,sW,c,d,wg,zM,r,t,j,u];refine bX (XY a b) a.kids.length ⟨0,g_⟩ ?_;rintro n s h ⟨k,rfl,J,rfl,B,E,F,v⟩;by_cases g:k<a.kids.length
 ·have l:(k:Int)<a.kids.length:=o_;have f:k<b.kids.length:=o_;have y:=lu a.kids k g .unk;have z:=lu b.kids k f .unk;have A:∀h,aj C h (.func 117 []) (some [enc a.kids[k],enc b.kids[k]])=some (.int .i64 (a.kids[k].cmp b.kids[k]),h):=λh=>an (fA _ _) (by simp[bF]) s_ (hc _ (aG g) _ (aG f))
  have K:=len_sizes a.kids;have L:=size_kids a;have I:=wS k o_;rw[aI g,aI f,cmps]at v;by_cases w:a.kids[k].cmp b.kids[k]≠0
  ·simp[go_sem,B,E,F,ml,oo,fq,l,y,z,ee,A,w];refine i ⟨_,rfl,?_⟩;rw[thn,if_neg w]at v;simp[go_sem,x,<-v];exact aU rfl rfl
  replace w:=Decidable.not_not.mp w
  rw[w,thn,if_pos rfl]at v;simp[go_sem,B,E,F,ml,oo,fq,l,y,z,ee,A,w,-Int.natCast_add,I];refine⟨a.kids.length-(k+1),o_,k+1,rfl,g,rfl,?_,?_,?_,v⟩<;>simp[go_sem,B,E]
 have:k=a.kids.length:=o_;subst this;rw[bH,G,bH]at v;simp[go_sem,B,F,ml,fq];refine i ⟨_,rfl,?_⟩;simp[go_sem,x,<-v,cmps];exact aU rfl rfl
theorem HW(a:T):∀b:T,a.size<4000000->b.size<4000000->az C 117 [enc a,enc b]=some (.int .i64 (a.cmp b)):=by
 induction a using T.ind with
 |_ a e=>exact λb f c=>Tg a b f c λk d m g=>e k d m (by have:=kid_size d;omega) (by have:=kid_size g;omega)
theorem sX(a b:T) (hs:a.size<4000000) (hs2:b.size<4000000) (h:H):aj C h (.func 117 []) (some [enc a,enc b])=some (.int .i64 (a.cmp b),h):=an (fA _ _) (by simp[bF]) s_ (HW a b hs hs2)
def head(a b:T):Int:=thn (sgn a.size b.size) (thn (sgn a.kind b.kind) (thn (tM a.name b.name) (thn (sgn a.sort b.sort) (sgn a.kids.length b.kids.length))))
theorem xW(a b c:Int):thn (thn a b) c=thn a (thn b c):=by unfold thn;split<;>simp_all
theorem Aq(a b:T):a.cmp b=thn (head a b) (cmps a.kids b.kids):=by rw[DQ,head];simp only[xW,tM]
def OS(a b:T) (n:Nat) (s:PT) (h:H):Prop:=∃k:Nat,∃c:Int,n=a.kids.length-k/\k<=a.kids.length/\h=two a b/\s.get 2=.ptr 0 0/\s.get 3=.ptr 1 0/\s.get 6=.int .i64 k/\s.get 5=.int .i64 c /\
 (c=0->a.kids.length=b.kids.length)/\thn c (cmps (a.kids.drop k) (b.kids.drop k))=a.cmp b
theorem HX(a b:T) (hs:a.size<4000000) (hs2:b.size<4000000) (hc:∀k∈a.kids,∀m∈b.kids,az C 98 [enc k,enc m]=some (.int .i64 (k.cmp m))):az C 98 [enc a,enc b]=some (.int .i64 (a.cmp b)):=by
 refine bL func98 rfl λR t=>?_
 have A:=xI a hs;have B:=xI b hs2;have D:tM a.name b.name=Lib.compareBytes a.name.data.toList b.name.data.toList:=rfl;have E:head a b=0->a.kids.length=b.kids.length:=λh=>by rw[head,thn_zero,thn_zero,thn_zero,thn_zero]at h;have:=sgn_zero.mp h.2.2.2.2;omega
 by_cases u:sgn a.size b.size=0<;>by_cases v:sgn a.kind b.kind=0<;>by_cases w:tM a.name b.name=0<;>by_cases x:sgn a.sort b.sort=0
 all_goals
  simp[go_sem,yO,pZ,pX,pY,pW,qg,qf,xV,xU,ml,oo,fq,A,B,Df,De,<-D,u,v,w,x];refine bX (OS a b) a.kids.length ⟨0,head a b,rfl,aO _,rfl,g_,g_,g_,by simp[go_sem,head,thn,u,v,w,x],E,by simp[Aq]⟩ ?_;rintro n s h ⟨k,c,rfl,G,rfl,j,y,z,l,o,g⟩;by_cases e:c=0
  ·subst e;by_cases f:k<a.kids.length
   ·have i:(k:Int)<a.kids.length:=o_;have d:k<b.kids.length:=by have:=o rfl;omega
    have p:=lu a.kids k f .unk;have q:=lu b.kids k d .unk;have r:∀h,aj C h (.func 98 []) (some [enc a.kids[k],enc b.kids[k]])=some (.int .i64 (a.kids[k].cmp b.kids[k]),h):=λh=>an (fA _ _) (by simp[bF]) s_ (hc _ (aG f) _ (aG d))
    have I:=len_sizes a.kids;have J:=size_kids a;have F:=wS k o_;rw[aI f,aI d,cmps,thn,if_pos rfl]at g;simp[go_sem,j,y,l,z,ml,oo,fq,i,p,q,ee,r,-Int.natCast_add,F];exact⟨a.kids.length-(k+1),o_,k+1,a.kids[k].cmp b.kids[k],by simp[go_sem,j,y,g];exact⟨o_,λ_=>o rfl⟩⟩
   have:k=a.kids.length:=o_;subst this;rw[bH,o rfl,bH]at g;simp[go_sem,j,l,z,ml,fq];refine t ⟨_,rfl,?_⟩;simp[go_sem,<-g,cmps,thn];exact aU rfl rfl
  rw[thn,if_neg e]at g;simp[go_sem,l,e];refine t ⟨_,rfl,?_⟩;simp[go_sem,<-g];exact aU rfl rfl
theorem sQ(a:T):∀b:T,a.size<4000000->b.size<4000000->az C 98 [enc a,enc b]=some (.int .i64 (a.cmp b)):=by
 induction a using T.ind with
 |_ a e=>exact λb f c=>HX a b f c λk d m g=>e k d m (by have:=kid_size d;omega) (by have:=kid_size g;omega)
theorem uj(a b:T) (hs:a.size<4000000) (hs2:b.size<4000000) (h:H):aj C h (.func 98 []) (some [enc a,enc b])=some (.int .i64 (a.cmp b),h):=an (fA _ _) (by simp[bF]) s_ (sQ a b hs hs2)
theorem SX(a b:T) (hs:a.size<4000000) (hs2:b.size<4000000):az C 105 [enc a,enc b]=some (.bool (decide (a.cmp b=0))):=by
 refine bL func105 rfl λR c=>?_
 have q:=sX a b hs hs2;simp[go_sem,yO,pZ,pX,q];refine c ⟨_,rfl,?_⟩;simp[go_sem];exact aU rfl rfl
theorem nH(a b:T) (hs:a.size<4000000) (hs2:b.size<4000000) (h:H):aj C h (.func 105 []) (some [enc a,enc b])=some (.bool (decide (a.cmp b=0)),h):=an (fA _ _) (by simp[bF]) s_ (SX a b hs hs2)
def vg(c:Nat):Bool:=(decide (97<=c)&&decide (c<=122))||(decide (65<=c)&&decide (c<=90))
def NT(c:Nat):Bool:=decide (48<=c)&&decide (c<=57)
def rG(c:Nat):Bool:=vg c||NT c||c==95||c==35
def isB(b:Bool):Option (AV × H)->Bool
 |some (.bool x,_)=>x==b
 |_=>false
theorem rM{n:Nat}{f:FuncId}{args:LA}{b:Bool}(h:isB b (fM C n f args [])=true):az C f args=some (.bool b):=by
 cases a:fM C n f args []with
 |none=>rw[a]at h;cases h
 |some x=>
  have⟨r,c⟩:=x;rw[a]at h;unfold isB at h;split at h<;>try(cases h;done)
  rename_i e;simp only[aA,aE]at e;obtain⟨rfl,rfl⟩:=e;have:=eq_of_beq h;subst this;unfold az;rw[zU n a];exact aU rfl rfl
theorem MD:(List.range 256).all (λc=>isB (rG c) (fM C 100 205 [.int .u8 c] []))=true:=k_
theorem Gz:(List.range 256).all (λc=>isB (vg c) (fM C 100 185 [.int .u8 c] []))=true:=k_
theorem Kr:(List.range 256).all (λc=>isB (NT c) (fM C 100 186 [.int .u8 c] []))=true:=k_
theorem J9(c:Nat) (hc:c<256):az C 205 [.int .u8 c]=some (.bool (rG c)):=rM (n:=100) (av.mp MD c (dR.mpr hc))
theorem Em(c:Nat) (hc:c<256):az C 185 [.int .u8 c]=some (.bool (vg c)):=rM (n:=100) (av.mp Gz c (dR.mpr hc))
theorem HP(c:Nat) (hc:c<256):az C 186 [.int .u8 c]=some (.bool (NT c)):=rM (n:=100) (av.mp Kr c (dR.mpr hc))
theorem JB(c:Nat) (hc:c<256) (h:H):aj C h (.func 205 []) (some [.int .u8 c])=some (.bool (rG c),h):=an rfl rfl s_ (J9 c hc)
theorem JA(c:Nat) (hc:c<256) (h:H):aj C h (.func 185 []) (some [.int .u8 c])=some (.bool (vg c),h):=an rfl rfl s_ (Em c hc)
theorem Qf(c:Nat) (hc:c<256) (h:H):aj C h (.func 186 []) (some [.int .u8 c])=some (.bool (NT c),h):=an rfl rfl s_ (HP c hc)
theorem u9:C.P.underlying 9=some .string:=underlying9
theorem TC(s:ByteArray) (k:Nat) (hk:k<s.size):tU C.P 9 (.str s) (.int .i64 k)=some (.int .u8 (s[k]).toNat):=by
 have e:dA C.P (Instr.index 9 (.string s) (.int .i64 k))=some (.int .u8 (s[k]).toNat):=by
  have a:dA C.P (underlying 9)=some .string:=k_;have b:s[k]?=some s[k]:=by simp[hk]
  simp only[Instr.index,eE,asIntOf,gy,cZ,a];simp[b,gy]
 simp only[tU,e,fR,eX]
@[go_sem] theorem YM {C:Cfg}{cf:FuncId}{ops:Array Oper}{d:Tmp}{ty:TypeId}{p:String}{af:Array Edge}{l:List Oper}{s:PT}{h:H}{K:PT->H->Prop}(t:TypeId) (x i:Operand) :
  OW C cf ops (⟨some d,.index t x i,ty,p,af,none⟩::l) s h K↔bO (bi2 (ev s x) (ev s i) (tU C.P t)) λv=>OW C cf ops l (s.set d v) h K:=OWn (by simp only[opN,bi2];cases ev s x<;>cases ev s i<;>rfl) rfl rfl
def eU(s:ByteArray) (k:Nat):Nat:=if h:k<s.size then(s[k]).toNat else 0
theorem pT(s:ByteArray) (k:Nat):eU s k<256:=by
 unfold eU;split
 ·exact UInt8.toNat_lt _
 omega
theorem Ih(s:ByteArray) (k:Nat) (hk:k<s.size):tU C.P 9 (.str s) (.int .i64 k)=some (.int .u8 (eU s k)):=by rw[TC s k hk];simp[eU,hk]
def pe(s:ByteArray):Nat->Nat->Bool
 |_,0=>true
 |k,n+1=>rG (eU s k)&&pe s (k+1) n
def iX(s:ByteArray):Bool:=decide (s.size≠0)&&decide (s.size<=24)&&vg (eU s 0)&&pe s 0 s.size
theorem ur(s:ByteArray):fG C.P 9 (.str s)=some (.int .i64 s.size):=by simp[fG,u9]
def XH(s:ByteArray) (z n:Nat) (t:PT) (h:H):Prop:=∃k:Nat,n=z-k/\k<=z/\h=[]/\t.get 0=.str s/\t.get 3=.int .i64 k/\pe s k (z-k)=iX s
theorem KX(s:ByteArray):az C 155 [.str s]=some (.bool (iX s)):=by
 refine bL func155 rfl λR hR=>?_
 have ur:=ur s;have hn:iX s=(decide (s.size≠0)&&decide (s.size<=24)&&vg (eU s 0)&&pe s 0 s.size):=rfl;have hix:=Ih s;generalize s.size=z at ur hn hix;by_cases h0:z=0
 ·have h0':(z:Int)=0:=o_;simp[go_sem,ur,h0'];refine hR ⟨_,rfl,?_⟩;have:iX s=false:=by simp[hn,h0]
  simp[go_sem,this];exact aU rfl rfl
 have h0':¬(z:Int)=0:=o_;by_cases h24:24<z
 ·have h24':(24:Int)<z:=o_;simp[go_sem,ur,h0,h24'];refine hR ⟨_,rfl,?_⟩;have:iX s=false:=by rw[hn,decide_eq_false (show ¬z<=24 by omega)];simp
  simp[go_sem,this];exact aU rfl rfl
 have h24':¬(24:Int)<z:=o_;have hi0:=hix 0 o_;have hc0:=JA (eU s 0) (pT s 0);simp only[show((0:Nat):Int)=0 from rfl]at hi0;by_cases hl:vg (eU s 0)=false
 ·simp[go_sem,ur,h0,h24',hi0,hc0,hl];refine hR ⟨_,rfl,?_⟩;have:iX s=false:=by simp[hn,hl]
  simp[go_sem,this];exact aU rfl rfl
 replace hl:vg (eU s 0)=true:=by simpa using hl
 have hn':iX s=pe s 0 z:=by rw[hn,hl,decide_eq_true h0,decide_eq_true (show z<=24 by omega)];simp
 simp[go_sem,ur,h0,h24',hi0,hc0,hl];refine bX (XH s z) z ⟨0,rfl,aO _,rfl,g_,g_,by rw[hn'];rfl⟩ ?_;rintro n t h ⟨k,rfl,hk,rfl,g0,g3,hd⟩;by_cases hlt:k<z
 ·have hlt':(k:Int)<z:=o_;have hi:=hix k hlt;have c1:=JA (eU s k) (pT s k);have c2:=Qf (eU s k) (pT s k);have w2:=wS k o_;rw[show z-k=(z-(k+1))+1 by omega,pe,rG]at hd;by_cases d1:vg (eU s k)=true<;>by_cases d2:NT (eU s k)=true<;>by_cases d3:(eU s k:Int)=95<;>by_cases d4:(eU s k:Int)=35
  all_goals
   have d3':(eU s k==95)=decide ((eU s k:Int)=95):=by rw[fc];simp;omega
   have d4':(eU s k==35)=decide ((eU s k:Int)=35):=by rw[fc];simp;omega
   rw[d3',d4']at hd;simp[d1,d2,d3,d4]at hd;try rw[d3]at hi c1 c2
   try rw[d4]at hi c1 c2
   simp[go_sem,ur,g0,g3,hlt',hi,c1,c2,d1,d2,d3,d4,-Int.natCast_add,w2];first
    |(exfalso;omega)
    |exact⟨z-(k+1),by omega,k+1,rfl,hlt,rfl,by simp[go_sem,g0],by simp[go_sem],hd⟩
    |(refine hR ⟨_,rfl,?_⟩;simp[go_sem,hd];exact aU rfl rfl)
 have:k=z:=o_;subst this;simp[go_sem,ur,g0,g3];refine hR ⟨_,rfl,?_⟩;rw[nN,pe]at hd;simp[go_sem,<-hd];exact aU rfl rfl
theorem zQ(x y:Operand) (a b:ByteArray):jU C.P .eql 9 x y (.str a) (.str b)=some (.bool (decide (a=b))):=by
 have e:dA C.P (do eqGuard BinOp.eql 9 x y (.string a) (.string b);binOp .eql 9 (.string a) (.string b))=some (.bool (a.toList==b.toList)):=by simp[eqGuard,binOp,Op.stringOp];try rfl
 simp only[jU,fI,cn,e,fR,eX];congr 2
 have:a.toList=b.toList↔a=b:=by have c:a.toList=a.data.toList:=ByteArray.toList_eq a;have d:b.toList=b.data.toList:=ByteArray.toList_eq b;rw[c,d];exact name_inj
 by_cases h:a=b
 ·subst h;simp
 have f:¬a.toList=b.toList:=λe=>h (this.1 e)
 simp[h,f]
def kz(t:T):Bool:=(decide (t.kind≠1)&&decide (t.kind≠2)&&decide (t.kind≠3))||decide (t.sort<0)||decide (5<t.sort)||(decide (t.kind≠1)&&decide (t.kind≠2)&&decide (t.sort≠0))||((decide (t.kind=1)||decide (t.kind=2))&&decide (0<t.kids.length))
def gL(t:T):Int:=if kz t=true then 1 else if iX t.name=false then 2 else if 8<t.kids.length then 3 else 0
theorem Yr(k s:Int) (n:ByteArray) (q:AV):aJ C.P [.cells [.int .i64 k,.str n,.int .i64 s,q] .live] 3 (.ptr 0 0)=some (.int .i64 k):=by simp[aJ,aY,a3,s3]
theorem Yp(k s:Int) (n:ByteArray) (q:AV):aJ C.P [.cells [.int .i64 k,.str n,.int .i64 s,q] .live] 9 (.ptr 0 1)=some (.str n):=by simp[aJ,aY,a9,s9]
theorem Yq(k s:Int) (n:ByteArray) (q:AV):aJ C.P [.cells [.int .i64 k,.str n,.int .i64 s,q] .live] 3 (.ptr 0 2)=some (.int .i64 s):=by simp[aJ,aY,a3,s3]
theorem AT(k s:Int) (n:ByteArray) (es:LA) (x:Ext):aJ C.P [.cells [.int .i64 k,.str n,.int .i64 s,.isl es x] .live] 32 (.ptr 0 3)=some (.isl es x):=by simp[aJ,aY,a23,s23]
theorem Nr(s:ByteArray) (h:H):aj C h (.func 155 []) (some [.str s])=some (.bool (iX s),h):=an rfl rfl s_ (KX s)
theorem PY(t:T):az C 176 [enc t]=some (.int .i64 (gL t)):=by
 refine bL func176 rfl λR c=>?_
 have e:=Nr t.name;simp +contextual [go_sem,terms,Yr,Yq,AT,fq];refine Ife_iff.2 ⟨λd=>?_,λd=>?_⟩
 ·have a:kz t=true:=by simpa[kz]using d
  simp[go_sem];refine c ⟨_,rfl,?_⟩;simp[go_sem,gL,a];exact aU rfl rfl
 have a:kz t=false:=by simpa[kz]using d
 simp +contextual [go_sem,Yp,e];refine Ife_iff.2 ⟨λb=>?_,λb=>?_⟩
 ·simp[go_sem];refine c ⟨_,rfl,?_⟩;simp[go_sem,gL,a,b];exact aU rfl rfl
 simp at b;simp +contextual [go_sem,AT,fq];refine Ife_iff.2 ⟨λf=>?_,λf=>?_⟩
 ·simp[go_sem];refine c ⟨_,rfl,?_⟩;simp[go_sem,gL,a,b,show 8<t.kids.length by omega];exact aU rfl rfl
 simp[go_sem];refine c ⟨_,rfl,?_⟩;simp[go_sem,gL,a,b,show ¬8<t.kids.length by omega];exact aU rfl rfl
theorem Kh:(List.range 256).all (λc=>(rG c && !(decide (48<=c)&&decide (c<=57)) && !(decide (c=95)) && !(decide (c=35)))==vg c)=true:=k_
theorem HD(c:Nat) (hc:c<256):(rG c && !(decide (48<=c)&&decide (c<=57)) && !(decide (c=95)) && !(decide (c=35)))=vg c:=eq_of_beq (av.mp Kh c (dR.mpr hc))
def XJ(s:ByteArray) (z n:Nat) (t:PT) (h:H):Prop:=∃k:Nat,n=z-k/\k<=z/\h=[]/\t.get 0=.str s/\t.get 38=.int .i64 z/\t.get 39=.int .i64 k/\pe s k (z-k)=iX s
theorem KY(s:ByteArray):az C 180 [.str s]=some (.bool (iX s)):=by
 refine bL func180 rfl λR hR=>?_
 have hn:iX s=(decide (s.size≠0)&&decide (s.size<=24)&&vg (eU s 0)&&pe s 0 s.size):=rfl;have ur:=ur s;have hix:=Ih s;have he:(s=⟨#[]⟩)↔s.size=0:=⟨λe=>by subst e;rfl,λe=>by cases s;simp[ByteArray.size]at e;simp[e]⟩
 by_cases h0:s.size=0
 ·have h0':=he.2 h0;simp +contextual [go_sem,zQ,h0'];refine hR ⟨_,rfl,?_⟩;have:iX s=false:=by simp[hn,h0]
  simp[go_sem,this];exact aU rfl rfl
 have h0':¬s=⟨#[]⟩:=λe=>h0 (he.1 e)
 have hi0:=hix 0 o_;have hc0:=JB (eU s 0) (pT s 0);have hlt:=pT s 0;simp only[show((0:Nat):Int)=0 from rfl]at hi0;have hfp:=HD (eU s 0) hlt;generalize s.size=z at ur hn hix h0;by_cases h24:24<z
 ·have h24':(24:Int)<z:=o_;simp +contextual [go_sem,zQ,ur,h0',h24'];refine hR ⟨_,rfl,?_⟩;have:iX s=false:=by rw[hn,decide_eq_false (show ¬z<=24 by omega)];simp
  simp[go_sem,this];exact aU rfl rfl
 have h24':¬(24:Int)<z:=o_;simp +contextual [go_sem,zQ,ur,h0',h24',hi0,hc0];refine Ife_iff.2 ⟨λh1=>?_,λh1=>?_⟩
 ·have hl:vg (eU s 0)=false:=by
   cases hlb:vg (eU s 0)with
   |false=>rfl
   |true=>rw[hlb]at hfp;simp at hfp;rw[hfp.1.1.1]at h1;simp at h1;omega
  simp[go_sem];refine hR ⟨_,rfl,?_⟩;have:iX s=false:=by rw[hn,hl];simp
  simp[go_sem,this];exact aU rfl rfl
 have hl:vg (eU s 0)=true:=by
  rw[<-hfp];simp only[not_or]at h1;have p1:rG (eU s 0)=true:=by simpa using h1.1.1.1
  have p2:=h1.1.1.2;have p3:=h1.1.2;have p4:=h1.2;rw[p1,decide_eq_false (show ¬eU s 0=95 by omega),decide_eq_false (show ¬eU s 0=35 by omega)];by_cases q:48<=eU s 0
  ·rw[decide_eq_false (show ¬eU s 0<=57 by omega)];simp
  rw[decide_eq_false q];simp
 have hn':iX s=pe s 0 z:=by rw[hn,hl,decide_eq_true h0,decide_eq_true (show z<=24 by omega)];simp
 simp +contextual [go_sem,ur];refine bX (XJ s z) z ⟨0,rfl,aO _,rfl,g_,g_,g_,by rw[hn'];rfl⟩ ?_;rintro n t h ⟨k,rfl,hk,rfl,g0,g38,g39,hd⟩;by_cases hlt:k<z
 ·have hlt':(k:Int)<z:=o_;have hi:=hix k hlt;have c1:=JB (eU s k) (pT s k);have w2:=wS k o_;rw[show z-k=(z-(k+1))+1 by omega,pe]at hd;cases hp:rG (eU s k)with
  |true=>
   rw[hp,kL]at hd
   simp[go_sem,g0,g38,g39,hlt',hi,c1,hp,-Int.natCast_add,w2]
   exact⟨z-(k+1),by omega,k+1,rfl,hlt,rfl,by simp[go_sem,g0],by simp[go_sem,g38],by simp[go_sem],hd⟩
  |false=>rw[hp,jf]at hd;simp[go_sem,g0,g38,g39,hlt',hi,c1,hp];refine hR ⟨_,rfl,?_⟩;simp[go_sem,<-hd];exact aU rfl rfl
 have:k=z:=o_;subst this;simp[go_sem,g38,g39];refine hR ⟨_,rfl,?_⟩;rw[nN,pe]at hd;simp[go_sem,<-hd];exact aU rfl rfl
theorem Qi(s:ByteArray) (h:H):aj C h (.func 180 []) (some [.str s])=some (.bool (iX s),h):=an rfl rfl s_ (KY s)
mutual
def cz:T->Int
 |.mk k n s l=>thn (gL (.mk k n s l)) (jt l)
def jt:Lq->Int
 |[]=>0
 |t::l=>thn (cz t) (jt l)
end
theorem fi(t:T):cz t=thn (gL t) (jt t.kids):=by cases t;rw[cz];rfl
def bA(t:T):Int:=thn (cz t) (if 400<t.size\/40<t.depth then 3 else 0)
theorem lz(t:T):t.depth=depths t.kids+1:=by cases t;rw[T.depth];rfl
def tc(t:T):LA:=[.int .i64 t.kind,.str t.name,.int .i64 t.sort,.isl (t.kids.map enc) .unk]
theorem Er(t:T):aJ C.P [.cells [.int .i64 t.kind,.str t.name,.int .i64 t.sort,.isl (t.kids.map enc) .unk] .live] 41 (.ptr 0 0)=some (enc t):=by simp[aJ,aY,a25,s25];rw[bV];rfl
theorem Qr(t:T) (h:H):aj C h (.func 176 []) (some [enc t])=some (.int .i64 (gL t),h):=an (fv _) (by simp[bF]) s_ (PY t)
def XV(t:T) (n:Nat) (s:PT) (h:H):Prop:=∃k:Nat,n=t.kids.length-k/\k<=t.kids.length/\h=[.cells (tc t) .live]/\s.get 1=.ptr 0 0/\s.get 4=.int .i64 k/\jt (t.kids.drop k)=cz t
theorem MR(t:T) (hs:t.size<4000000) (hc:∀k∈t.kids,az C 138 [enc k]=some (.int .i64 (cz k))):az C 138 [enc t]=some (.int .i64 (cz t)):=by
 refine bL func138 rfl λR hR=>?_
 have c1:=Qr t;have hq:=fi t;by_cases h1:gL t=0
 ·simp +contextual [go_sem,terms,Er,c1,h1];refine bX (XV t) t.kids.length ⟨0,rfl,aO _,rfl,g_,g_,by rw[hq,h1];rfl⟩ ?_;rintro n s h ⟨k,rfl,hk,rfl,g1,g4,hd⟩;have hlen:=len_sizes t.kids;have hsz:=size_kids t;by_cases hlt:k<t.kids.length
  ·have hlt':(k:Int)<t.kids.length:=o_;have hix:=lu t.kids k hlt .unk;have ck:∀h,aj C h (.func 138 []) (some [enc t.kids[k]])=some (.int .i64 (cz t.kids[k]),h):=λh=>an (fv _) (by simp[bF]) s_ (hc _ (aG hlt))
   have w1:=wS k o_;rw[aI hlt,jt]at hd;by_cases h2:cz t.kids[k]=0
   ·rw[h2]at hd
    simp[go_sem,tc,AT,fq,g1,g4,hlt',hix,ee,ck,h2,-Int.natCast_add,w1]
    exact⟨t.kids.length-(k+1),by omega,k+1,rfl,hlt,rfl,by simp[go_sem,g1],by simp[go_sem],hd⟩
   simp[go_sem,tc,AT,fq,g1,g4,hlt',hix,ee,ck,h2];refine hR ⟨_,rfl,?_⟩;simp[go_sem,<-hd,thn,h2];exact aU rfl rfl
  have:k=t.kids.length:=o_;subst this;simp[go_sem,tc,AT,fq,g1,g4];refine hR ⟨_,rfl,?_⟩;rw[bH,jt]at hd;simp[go_sem,<-hd];exact aU rfl rfl
 simp +contextual [go_sem,dP,terms,Er,c1,h1];refine hR ⟨_,rfl,?_⟩;simp[go_sem,hq,thn,h1];exact aU rfl rfl
theorem Ct(t:T):t.size<4000000->az C 138 [enc t]=some (.int .i64 (cz t)):=by
 induction t using T.ind with
 |_ t b=>exact λc=>MR t c (λk a=>b k a (by have:=kid_size a;omega))
theorem Q3(t:T) (hs:t.size<4000000) (h:H):aj C h (.func 138 []) (some [enc t])=some (.int .i64 (cz t),h):=an (fv _) (by simp[bF]) s_ (Ct t hs)
theorem ti(t:T):t.depth<=t.size/\0<t.depth:=by
 induction t using T.ind with
 |_ t b=>
  rw[lz,size_kids];have:depths t.kids<=sizes t.kids:=by
   generalize t.kids=l at b;induction l with
   |nil=>simp[depths,sizes]
   |cons a l c=>have e:=b a s_;have f:=c (λk d=>b k (by simp[d]));rw[depths,sizes];omega
  omega
def XU(t:T) (n:Nat) (s:PT) (h:H):Prop:=∃k c:Nat,n=t.kids.length-k/\k<=t.kids.length/\h=[.cells (tc t) .live]/\s.get 1=.ptr 0 0/\s.get 3=.int .i64 c/\s.get 4=.int .i64 k/\max c (depths (t.kids.drop k))=depths t.kids
theorem C0(P:Program) (a b:Int):sD P true [.int .i64 a,.int .i64 b]=some (.int .i64 (max a b)):=by
 simp only[sD,toList,cn];have e:dA P (Builtin.max_ #[] 0 [Value.int .i64 a,.int .i64 b].toArray)=some (.int .i64 (max a b)):=by
  simp only[Builtin.max_,List.foldlM,Builtin.max2,eE,gy,cZ];congr 2
  split<;>omega
 simp[e,fR,eX]
theorem NV(t:T) (hs:t.size<4000000) (hc:∀k∈t.kids,az C 139 [enc k]=some (.int .i64 k.depth)):az C 139 [enc t]=some (.int .i64 t.depth):=by
 refine bL func139 rfl λR hR=>?_
 simp +contextual [go_sem,terms];refine bX (XU t) t.kids.length ⟨0,0,rfl,aO _,rfl,g_,g_,g_,s_⟩ ?_;rintro n s h ⟨k,c,rfl,hk,rfl,g1,g3,g4,hd⟩;have hlen:=len_sizes t.kids;have hsz:=size_kids t;have hde:=lz t;have hdl:=(ti t).1;by_cases hlt:k<t.kids.length
 ·have hlt':(k:Int)<t.kids.length:=o_;have hix:=lu t.kids k hlt .unk;have ck:∀h,aj C h (.func 139 []) (some [enc t.kids[k]])=some (.int .i64 (t.kids[k].depth:Nat),h):=λh=>an (fv _) (by simp[bF]) s_ (hc _ (aG hlt))
  have w1:IntKind.i64.wrap ((k:Int)+1)=((k+1:Nat):Int):=by rw[ay (by omega)];omega
  rw[aI hlt,depths,<-Nat.max_assoc]at hd
  simp[go_sem,tc,AT,fq,g1,g3,g4,hlt',hix,ee,ck,C0,-Int.natCast_add,w1]
  refine⟨t.kids.length-(k+1),by omega,k+1,max c t.kids[k].depth,rfl,hlt,rfl,by simp[go_sem,g1],?_,by simp[go_sem],hd⟩
  simp[go_sem];omega
 have:k=t.kids.length:=o_;subst this;rw[bH,depths]at hd;have hc0:c=depths t.kids:=o_;have w1:IntKind.i64.wrap ((c:Int)+1)=(t.depth:Nat):=by rw[ay o_];omega
 simp[go_sem,tc,AT,fq,g1,g3,g4,w1];refine hR ⟨_,rfl,?_⟩;simp[go_sem];exact aU rfl rfl
theorem DN(t:T):t.size<4000000->az C 139 [enc t]=some (.int .i64 t.depth):=by
 induction t using T.ind with
 |_ t b=>exact λc=>NV t c (λk a=>b k a (by have:=kid_size a;omega))
theorem Q2(t:T) (hs:t.size<4000000) (h:H):aj C h (.func 139 []) (some [enc t])=some (.int .i64 t.depth,h):=an (fv _) (by simp[bF]) s_ (DN t hs)
theorem Ns(t:T) (hs:t.size<4000000) (h:H):aj C h (.func 75 []) (some [enc t])=some (.int .i64 t.size,h):=an (fv _) (by simp[bF]) s_ (tB t hs)
theorem Oj(t:T) (hs:t.size<4000000):az C 100 [enc t]=some (.int .i64 (bA t)):=by
 refine bL func100 rfl λR b=>?_
 have c:=Q3 t hs;have d:=Ns t hs;have c3:=Q2 t hs;simp +contextual [go_sem,terms,Er,c];refine Ife_iff.2 ⟨λa=>?_,λa=>?_⟩
 ·simp[go_sem];refine b ⟨_,rfl,?_⟩;simp[go_sem,bA,thn,a];exact aU rfl rfl
 simp only[Decidable.not_not]at a;simp +contextual [go_sem,Er,d,c3];refine Ife_iff.2 ⟨λe=>?_,λe=>?_⟩
 ·simp[go_sem];refine b ⟨_,rfl,?_⟩;simp[go_sem,bA,thn,a,show 400<t.size\/40<t.depth by omega];exact aU rfl rfl
 simp[go_sem];refine b ⟨_,rfl,?_⟩;simp[go_sem,bA,thn,a,show ¬(400<t.size\/40<t.depth) by omega];exact aU rfl rfl
theorem oh(t:T):dat (enc t)=some (enc t):=by rw[bV];rfl
theorem oF(t:T) (hs:t.size<4000000) (h:H):aj C h (.func 100 []) (some [enc t])=some (.int .i64 (bA t),h):=an (fv _) (by simp[bF]) s_ (Oj t hs)
theorem eT{f:FuncId}{args:LA}{h:H}(hb:dl C.P f=true) (hm:C.mode f=.openH):aj C h (.func f []) (some args)=Go.V.Call C f args h:=by simp only[aj,hb,if_true,br];unfold dJ;rw[hm]
theorem Ph{h:H}{p:Nat}{x:AV}{_st:OSt}(hp:h[p]?=some (.cells [x] .live)):aJ C.P h 3 (.ptr p 0)=some x:=by simp[aJ,hp,aY,a3,s3]
theorem Oz{h:H}{p:Nat}{x:AV}(v:Int) (hp:h[p]?=some (.cells [x] .live)):ah C.P h 3 (.ptr p 0) (.int .i64 v)=some (h.set p (.cells [.int .i64 v] .live)):=by simp[ah,hp,s3]
def Two(h h':H) (p q:Nat) (n d:Int):Prop:=h.length<=h'.length/\(∀i,i<h.length->i≠p->i≠q->h'[i]?=h[i]?)/\h'[p]?=some (.cells [.int .i64 n] .live)/\h'[q]?=some (.cells [.int .i64 d] .live)
theorem Two.trans{h h1 h2:H}{p q:Nat}{n d n' d':Int}(_hp:p<h.length) (_hq:q<h.length) (a:Two h h1 p q n d) (b:Two h1 h2 p q n' d'):Two h h2 p q n' d':=
 ⟨cJ a.1 b.1,λi c h1 h2=>(b.2.1 i (fW c a.1) h1 h2).trans (a.2.1 i c h1 h2),b.2.2.1,b.2.2.2⟩
theorem Two.push{h h1:H}{p q:Nat}{n d:Int}(a:Two h h1 p q n d) (hp:p<h.length) (hq:q<h.length) (x:List VObj):Two h (h1++x) p q n d:=by
 have⟨g,e,a3,a4⟩:=a;refine⟨by simp;omega,λi f b c=>?_,?_,?_⟩
 ·rw[aH o_];exact e i f b c
 ·rw[aH o_];exact a3
 rw[aH o_];exact a4
theorem ji{h:H}{b:Nat}{t:T}(hb:h[b]?=some (.cells (tc t) .live)):aJ C.P h 3 (.ptr b 0)=some (.int .i64 t.kind)/\aJ C.P h 9 (.ptr b 1)=some (.str t.name)/\aJ C.P h 3 (.ptr b 2)=some (.int .i64 t.sort)/\aJ C.P h 32 (.ptr b 3)=some (.isl (t.kids.map enc) .unk)/\aJ C.P h 41 (.ptr b 0)=some (enc t):=by
 refine⟨?_,?_,?_,?_,?_⟩
 ·simp[aJ,hb,aY,a3,s3,tc]
 ·simp[aJ,hb,aY,a9,s9,tc]
 ·simp[aJ,hb,aY,a3,s3,tc]
 ·simp[aJ,hb,aY,a23,s23,tc]
 simp[aJ,hb,aY,a25,s25,tc];rw[bV];rfl
def Sp:AV->Option AV
 |.ptr i n=>some (.ptr i n)
 |.iptr e n=>some (.iptr e n)
 |.func f c=>some (.func f c)
 |_=>none
@[go_sem] theorem VU (i n:Nat):Sp (.ptr i n)=some (.ptr i n):=(rfl)
@[go_sem] theorem UR {C:Cfg}{cf:FuncId}{ops:Array Oper}{d:Tmp}{ty:TypeId}{p:String}{af:Array Edge}{l:List Oper}{s:PT}{h:H}{K:PT->H->Prop}(x:Operand) :
  OW C cf ops (⟨some d,.nilCheck x,ty,p,af,none⟩::l) s h K↔bO (bi1 (ev s x) Sp) λv=>OW C cf ops l (s.set d v) h K:=OWn (by simp only[opN,bi1,Sp];cases ev s x<;>first|rfl|(rename_i c;cases c<;>rfl)) rfl rfl
theorem xL(t:T):kz t=true↔(t.kind≠1/\t.kind≠2/\t.kind≠3)\/t.sort<0\/5<t.sort\/(t.kind≠1/\t.kind≠2/\t.sort≠0)\/((t.kind=1\/t.kind=2)/\0<t.kids.length):=by simp only[kz,bz,bI,decide_eq_true_eq,or_assoc,and_assoc]
theorem K9{t:T}(h:¬kz t=true):kz t=false:=by simpa using h
def XO(t:T) (h0:H) (p q:Nat) (n d lvl:Int) (m:Nat) (s:PT) (h:H):Prop:=∃k:Nat,∃cur:Int,m=t.kids.length-k/\k<=t.kids.length/\Two h0 h p q (n+1+sizes (t.kids.take k)) cur /\
 s.get 1=.int .i64 lvl/\s.get 2=.ptr p 0/\s.get 3=.ptr q 0/\s.get 57=.isl (t.kids.map enc) .unk/\s.get 58=.int .i64 t.kids.length/\s.get 59=.int .i64 k/\jt (t.kids.drop k)=cz t /\
 lvl<=cur/\max cur (lvl+depths (t.kids.drop k))=max d (lvl+depths t.kids)
def Chk(t:T):Prop:=∀(h:H) (p q:Nat) (n d lvl:Int),p≠q->h[p]?=some (.cells [.int .i64 n] .live)->h[q]?=some (.cells [.int .i64 d] .live)->0<=n->n+t.size<1000000000->0<=d->d<1000000000->0<=lvl->lvl+t.size<1000000000 ->
 ∃r h',Go.V.Call C 149 [enc t,.int .i64 lvl,.ptr p 0,.ptr q 0] h=some (r,h')/\r=.int .i64 (cz t)/\∃n' d',Two h h' p q n' d'/\0<=n'/\n'<=n+t.size/\0<=d'/\d'<1000000000/\(cz t=0->n'=n+t.size/\d'=max d (lvl+t.depth-1))
theorem No(t:T) (hc:∀k∈t.kids,Chk k):Chk t:=by
 intro h p q n d lvl hpq hp hq hn0 hn1 hd0 hd1 hl0 hl1;refine kA (Q:=λr h'=>r=.int .i64 (cz t)/\∃n' d',Two h h' p q n' d'/\0<=n'/\n'<=n+t.size/\0<=d'/\d'<1000000000/\(cz t=0->n'=n+t.size/\d'=max d (lvl+t.depth-1))) rfl func149 rfl k_ (by simp[f149]) λR hR=>?_
 have hpl:=(aB.1 hp).1;have hql:=(aB.1 hq).1;have hsz:=size_kids t;have hlen:=len_sizes t.kids;have hde:=lz t;have hdl:=(ti t).1;have hne:=fi t;have T0:Two h (h++[.cells (tc t) .live]) p q n d:=Two.push ⟨aP _,λi _ _ _=>rfl,hp,hq⟩ hpl hql _;have hb0:(h++[.cells (tc t) .live])[h.length]?=some (.cells (tc t) .live):=s_;obtain⟨g0,hg0⟩:∃g,g=h++[.cells (tc t) .live]:=⟨_,rfl⟩
 have bx:mg C.P h 41 (enc t)=some (.ptr h.length 0,g0):=by rw[gx,hg0];rfl
 rw[<-hg0]at T0 hb0;have w1:IntKind.i64.wrap (n+1)=n+1:=ay o_;have T1:Two h (g0.set p (.cells [.int .i64 (n+1)] .live)) p q (n+1) d:=by have⟨a1,a2,a3,a4⟩:=T0;exact⟨by simpa using a1,λi hi h1 h2=>by rw[aC (λe=>h1 e.symm)];exact a2 i hi h1 h2,aD o_,by rw[aC hpq];exact a4⟩
 have hb1:(g0.set p (.cells [.int .i64 (n+1)] .live))[h.length]?=some (.cells (tc t) .live):=by rw[aC o_];exact hb0
 have e1:=Ph (_st:=.live) T0.2.2.1;have e2:=Oz (n+1) T0.2.2.1;obtain⟨g1,hg1⟩:∃g,g=g0.set p (.cells [.int .i64 (n+1)] .live):=⟨_,rfl⟩
 rw[<-hg1]at T1 hb1 e2;have e3:=Ph (_st:=.live) T1.2.2.2;have e4:=Oz (max d lvl) T1.2.2.2;have T2:Two h (g1.set q (.cells [.int .i64 (max d lvl)] .live)) p q (n+1) (max d lvl):=by have⟨a1,a2,a3,a4⟩:=T1;exact⟨by simpa using a1,λi hi h1 h2=>by rw[aC (λe=>h2 e.symm)];exact a2 i hi h1 h2,by rw[aC (λe=>hpq e.symm)];exact a3,aD o_⟩
 have hb2:(g1.set q (.cells [.int .i64 (max d lvl)] .live))[h.length]?=some (.cells (tc t) .live):=by rw[aC o_];exact hb1
 obtain⟨g2,hg2⟩:∃g,g=g1.set q (.cells [.int .i64 (max d lvl)] .live):=⟨_,rfl⟩
 rw[<-hg2]at T2 hb2 e4;have⟨l1,l2,l3,l4,_⟩:=ji hb2;have c1:=Qi t.name;have fin:∀e,gL t=e->e≠0->cz t=e:=λe h1 h2=>by rw[hne,h1];simp[thn,h2]
 have out:∀(s:PT),(s.get 8=.int .i64 (cz t))->cz t≠0->R .ret s g2:=λs hs hz=>by refine hR _ _ _ (.inr rfl) ⟨.int .i64 (cz t),by simp[ag,cO,f149,hs],rfl,n+1,max d lvl,T2,o_,o_,o_,o_,λe=>absurd e hz⟩
 have kk:t.kind=1\/t.kind=2\/t.kind=3\/(t.kind≠1/\t.kind≠2/\t.kind≠3):=o_;have bad1:kz t=true->cz t=1:=λhb=>fin 1 (by simp[gL,hb]) s_
 rcases kk with hk|hk|hk|⟨hk1,hk2,hk3⟩
 rotate_left 3
 ·have hb:=bad1 ((xL t).2 (.inl ⟨hk1,hk2,hk3⟩));simp +contextual [go_sem,bx,e1,e2,e3,e4,w1,C0,l1,hk1,hk2,hk3];exact out _ (by simp[go_sem,hb]) (by rw[hb];simp)
 all_goals
  simp +contextual [go_sem,bx,e1,e2,e3,e4,w1,C0,l1,l3,l4,fq,hk];refine Ife_iff.2 ⟨λh1=>?_,λh1=>?_⟩
  ·have hb:=bad1 ((xL t).2 o_);simp[go_sem];exact out _ (by simp[go_sem,hb]) (by rw[hb];simp)
  have hnb:=K9 (t:=t) (λhb=>by have:=(xL t).1 hb;omega);simp +contextual [go_sem,l2,c1];refine Ife_iff.2 ⟨λh2=>?_,λh2=>?_⟩
  ·have hb:=fin 2 (by simp[gL,hnb,h2]) s_;simp[go_sem];exact out _ (by simp[go_sem,hb]) (by rw[hb];simp)
  simp at h2;simp +contextual [go_sem,l4,fq];refine Ife_iff.2 ⟨λh3=>?_,λh3=>?_⟩
  ·have hb:=fin 3 (by simp[gL,hnb,h2,show 8<t.kids.length by omega]) s_;simp[go_sem];exact out _ (by simp[go_sem,hb]) (by rw[hb];simp)
  have hn0':gL t=0:=by simp[gL,hnb,h2,show ¬8<t.kids.length by omega]
  simp +contextual [go_sem,l4,fq];refine bX (XO t h p q n d lvl) t.kids.length ⟨0,max d lvl,rfl,aO _,by simpa[sizes]using T2,g_,g_,g_,g_,g_,g_,by rw[hne,hn0'];rfl,o_,by simp only[eH];omega⟩ ?_;rintro m s hh ⟨k,cur,rfl,hkl,TT,g1',g2',g3',g57,g58,g59,hd,hcl,hcm⟩;by_cases hlt:k<t.kids.length
  ·have hlt':(k:Int)<t.kids.length:=o_;have hix:=lu t.kids k hlt .unk;have t1:=take_sizes hlt;have t2:=take_sizes_le t.kids (k+1);have ksz:=kid_size (aG hlt);have w2:=wS k o_;have w3:IntKind.i64.wrap (lvl+1)=lvl+1:=ay o_;have TT':=TT.push hpl hql [.cells [.int .i64 t.kids[k].kind,.str t.kids[k].name,.int .i64 t.kids[k].sort,terms t.kids[k].kids] .live];obtain⟨hz,ehz⟩:∃g,g=hh++[.cells [.int .i64 t.kids[k].kind,.str t.kids[k].name,.int .i64 t.kids[k].sort,terms t.kids[k].kids] .live]:=⟨_,rfl⟩
   rw[<-ehz]at TT';have hpl':p<hz.length:=by have:=TT'.1;omega
   have hql':q<hz.length:=by have:=TT'.1;omega
   obtain⟨r,h',cc,rfl,n',d',T3,u1,u2,u3,u4,u5⟩:=hc _ (aG hlt) hz p q (n+1+sizes (t.kids.take k)) cur (lvl+1) hpq TT'.2.2.1 TT'.2.2.2 o_ o_ o_ o_ o_ o_;have cv:=(eT (f:=149) k_ rfl).trans cc;rw[ehz]at cv;have T4:=Two.trans hpl hql TT' T3;rw[aI hlt,jt]at hd;rw[aI hlt,depths]at hcm;have kdl:=ti t.kids[k];by_cases h4:cz t.kids[k]=0
   ·rw[h4]at hd cv
    obtain⟨u6,u7⟩:=u5 h4
    simp[go_sem,g1',g2',g3',g57,g58,g59,hlt',hix,ee,Jh,B2,-Int.natCast_add,w2,w3,cv]
    exact⟨t.kids.length-(k+1),by omega,k+1,d',rfl,hlt,by rw[show n+1+sizes (t.kids.take (k+1))=n' by omega];exact T4,by simp[go_sem,g1'],by simp[go_sem,g2'],by simp[go_sem,g3'],by simp[go_sem,g57],by simp[go_sem,g58],by simp[go_sem],hd,by omega,by omega⟩
   have hne2:cz t.kids[k]=cz t:=by rw[<-hd];simp[thn,h4]
   simp[go_sem,g1',g2',g3',g57,g58,g59,hlt',hix,ee,Jh,B2,-Int.natCast_add,w3,cv,h4];refine hR _ _ _ (.inr rfl) ⟨.int .i64 (cz t),by simp[ag,cO,f149,go_sem,hne2],rfl,_,_,T4,o_,o_,o_,o_,λe=>absurd (hne2.trans e) h4⟩
  have:k=t.kids.length:=o_;subst this;rw[ak]at TT;rw[bH,depths]at hcm;rw[bH,jt]at hd;simp[go_sem,g58,g59];refine hR _ _ _ (.inr rfl) ⟨.int .i64 (cz t),by simp[ag,cO,f149,go_sem,<-hd],rfl,_,_,TT,o_,o_,o_,o_,λ_=>⟨o_,o_⟩⟩
theorem DV(t:T):Chk t:=by
 induction t using T.ind with
 |_ t a=>exact No t a
theorem vD(t:T) (l:List VObj):aJ C.P (.cells [.int .i64 t.kind,.str t.name,.int .i64 t.sort,.isl (t.kids.map enc) .unk] .live::l) 41 (.ptr 0 0)=some (enc t):=by simp[aJ,aY,a25,s25];rw[bV];rfl
theorem Ia(x:VObj) (t:T) (l:List VObj):aJ C.P (x::.cells [.int .i64 t.kind,.str t.name,.int .i64 t.sort,.isl (t.kids.map enc) .unk] .live::l) 41 (.ptr 1 0)=some (enc t):=by simp[aJ,aY,a25,s25];rw[bV];rfl
@[go_sem] theorem aAN (k s:Int) (n x:AV) (l:List VObj):aJ C.P (.cells [.int .i64 k,n,.int .i64 s,x] .live::l) 3 (.ptr 0 0)=some (.int .i64 k):=by simp[aJ,aY,a3,s3]
@[go_sem] theorem aAM (k s:Int) (n x:AV) (l:List VObj):aJ C.P (.cells [.int .i64 k,n,.int .i64 s,x] .live::l) 3 (.ptr 0 2)=some (.int .i64 s):=by simp[aJ,aY,a3,s3]
@[go_sem] theorem aAL (k s:Int) (n x:AV) (y:VObj) (l:List VObj):aJ C.P (y::.cells [.int .i64 k,n,.int .i64 s,x] .live::l) 3 (.ptr 1 0)=some (.int .i64 k):=by simp[aJ,aY,a3,s3]
@[go_sem] theorem aAK (k s:Int) (n x:AV) (y:VObj) (l:List VObj):aJ C.P (y::.cells [.int .i64 k,n,.int .i64 s,x] .live::l) 3 (.ptr 1 2)=some (.int .i64 s):=by simp[aJ,aY,a3,s3]
@[go_sem] theorem zv3:iV C.P 3=some (.int .i64 0):=k_
@[go_sem] theorem Uq (v:Int):(AV.int .i64 v).cells=[.int .i64 v]:=(rfl)
theorem LW(t:T) (hs:t.size<4000000):az C 118 [enc t]=some (.int .i64 (bA t)):=by
 refine bL func118 rfl λR b=>?_
 obtain⟨r,o,i,rfl,q,s,c,u,v,w,y,j⟩:=DV t [.cells (tc t) .live,.cells [.int .i64 0] .live,.cells [.int .i64 0] .live] 1 2 0 0 1 o_ rfl rfl o_ o_ o_ o_ o_ o_;have d:=(eT (f:=149) k_ rfl).trans i;have k:=Ph (_st:=.live) c.2.2.1;have l:=Ph (_st:=.live) c.2.2.2;have m:=ti t;simp only[tc]at d;have e:=λx:VObj=>Oz (h:=[x,.cells [.int .i64 0] .live,.cells [.int .i64 0] .live]) (p:=1) (x:=.int .i64 0) 0 rfl
 have g:=λx:VObj=>Oz (h:=[x,.cells [.int .i64 0] .live,.cells [.int .i64 0] .live]) (p:=2) (x:=.int .i64 0) 0 rfl
 simp only[List.set]at e g;simp +contextual [go_sem,terms,vD,d,e,g];refine Ife_iff.2 ⟨λa=>?_,λa=>?_⟩
 ·simp[go_sem];refine b ⟨_,rfl,?_⟩;simp[go_sem,bA,thn,a];exact aU rfl rfl
 simp only[Decidable.not_not]at a;have⟨z,A⟩:=j a;simp +contextual [go_sem,k,l];refine Ife_iff.2 ⟨λn=>?_,λn=>?_⟩
 ·simp[go_sem];refine b ⟨_,rfl,?_⟩;simp[go_sem,bA,thn,a,show 400<t.size\/40<t.depth by omega];exact aU rfl rfl
 simp[go_sem];refine b ⟨_,rfl,?_⟩;simp[go_sem,bA,thn,a,show ¬(400<t.size\/40<t.depth) by omega];exact aU rfl rfl
theorem um(t:T) (hs:t.size<4000000) (h:H):aj C h (.func 118 []) (some [enc t])=some (.int .i64 (bA t),h):=an (fv _) (by simp[bF]) s_ (LW t hs)
theorem G4{t:T}(h:bA t=0):t.kind=1\/t.kind=2\/t.kind=3:=by
 by_cases a:t.kind=1\/t.kind=2\/t.kind=3
 ·exact a
 have b:kz t=true:=(xL t).2 (.inl o_);have c:cz t=1:=by rw[fi];simp[gL,b,thn]
 simp[bA,c,thn]at h
def gm(a b:T):Bool:=decide (bA a=0)&&decide (bA b=0)&&decide (a.kind=1)&&(decide (a.sort=0)||(decide (b.kind≠3)&&decide (b.sort=a.sort)))
theorem P3(a b:T) (hs:a.size<4000000) (hb:b.size<4000000):az C 93 [enc a,enc b]=some (.bool (gm a b)):=by
 refine bL func93 rfl λR d=>?_
 have e:=um a hs;have f:=um b hb;simp +contextual [go_sem,terms,vD,Ia,e,f];refine Ife_iff.2 ⟨λc=>?_,λc=>?_⟩
 ·simp +contextual [go_sem];refine d ⟨_,rfl,?_⟩;have:gm a b=false:=by simp only[gm,Bool.and_eq_false_iff,decide_eq_false_iff_not];omega
  simp[go_sem,this];exact aU rfl rfl
 simp +contextual [go_sem];refine d ⟨_,rfl,?_⟩;simp[go_sem];have:gm a b=(decide (a.sort=0) || !decide (b.kind=3)&&decide (b.sort=a.sort)):=by simp only[not_or,Decidable.not_not]at c;simp[gm,c]
 rw[this];exact aU rfl rfl
theorem JO(a b:T) (hs:a.size<4000000) (hb:b.size<4000000) (h:H):aj C h (.func 93 []) (some [enc a,enc b])=some (.bool (gm a b),h):=an (fA _ _) (by simp[bF]) s_ (P3 a b hs hb)
theorem NZ(t:T) (n:Int):iT [enc t,.int .i64 n]=some [enc t,.int .i64 n]:=by rw[bV];rfl
theorem xZ(n:Int):short (.int .i64 n)=true:=rfl
theorem Pg(t:T) (n:Int):az C 177 [enc t,.int .i64 n]=some (.bool ((decide (t.kind=1)||decide (t.kind=2))&&decide (t.sort=n))):=by
 refine bL func177 rfl λR a=>?_
 simp +contextual [go_sem,dP,terms];refine a ⟨_,rfl,?_⟩;simp[go_sem];exact aU rfl rfl
theorem Qh(t:T) (n:Int) (h:H):aj C h (.func 177 []) (some [enc t,.int .i64 n])=some (.bool ((decide (t.kind=1)||decide (t.kind=2))&&decide (t.sort=n)),h):=an (NZ _ _) (by simp[bF,xZ]) s_ (Pg t n)
theorem P1(a b:T) (hs:a.size<4000000) (hb:b.size<4000000):az C 141 [enc a,enc b]=some (.bool (gm a b)):=by
 refine bL func141 rfl λR e=>?_
 have f:=oF a hs;have g:=oF b hb;simp +contextual [go_sem,terms,vD,Ia,f,g];refine Ife_iff.2 ⟨λc=>?_,λc=>?_⟩
 ·simp +contextual [go_sem];refine e ⟨_,rfl,?_⟩;have:gm a b=false:=by simp only[gm,Bool.and_eq_false_iff,decide_eq_false_iff_not];omega
  simp[go_sem,this];exact aU rfl rfl
 simp +contextual [go_sem,Ia,Qh];refine e ⟨_,rfl,?_⟩;simp[go_sem];have d:bA b=0:=o_;have h:=G4 d;have:gm a b=(decide (a.sort=0)||(decide (b.kind=1)||decide (b.kind=2))&&decide (b.sort=a.sort)):=by simp only[not_or,Decidable.not_not]at c;rcases h with k|k|k<;>simp[gm,c,k]
 rw[this];exact aU rfl rfl
theorem JG(a b:T) (hs:a.size<4000000) (hb:b.size<4000000) (h:H):aj C h (.func 141 []) (some [enc a,enc b])=some (.bool (gm a b),h):=an (fA _ _) (by simp[bF]) s_ (P1 a b hs hb)
theorem tC(l:Lq):short (terms l)=true:=rfl
def bT(b:T × T):AV:=.agg [.int .i64 b.1.kind,.str b.1.name,.int .i64 b.1.sort,terms b.1.kids,.int .i64 b.2.kind,.str b.2.name,.int .i64 b.2.sort,terms b.2.kids]
def binds(l:Lb):AV:=.isl (l.map bT) .unk
theorem u46:C.P.underlying 81=some (.slice 121):=underlying81
theorem s86:cw C.P 121=some 8:=k_
theorem s46:cw C.P 81=some 1:=k_
theorem a86:gW C.P 121=some true:=k_
theorem a46:gW C.P 81=some false:=k_
attribute [go_sem] u46 s86 s46 a86 a46
theorem HF(i:Nat):bp C.P 121 (.ptr i 0) 0=some (.ptr i 0):=k_
theorem TK(i:Nat):bp C.P 121 (.ptr i 0) 1=some (.ptr i 4):=k_
theorem oQ(e:AV):bp C.P 121 (.iptr e 0) 0=some (.iptr e 0):=k_
theorem ww(e:AV):bp C.P 121 (.iptr e 0) 1=some (.iptr e 4):=k_
attribute [go_sem] HF TK oQ ww
theorem YV:iV C.P 121=some (.agg [.int .i64 0,.str ⟨#[]⟩,.int .i64 0,.isl [] .full,.int .i64 0,.str ⟨#[]⟩,.int .i64 0,.isl [] .full]):=k_
attribute [go_sem] YV
theorem En(es:LA) (x:Ext):fG C.P 81 (.isl es x)=some (.int .i64 es.length):=by simp[fG,u46]
theorem yk(l:Lb) (k:Nat) (hk:k<l.length) (x:Ext):aZ C.P 81 (.isl (l.map bT) x) (.int .i64 k)=some (.iptr (bT l[k]) 0):=by simp[aZ,u46,s86,bT,am,hk]
theorem Mk(b:T × T) (h:H):aJ C.P h 121 (.iptr (bT b) 0)=some (bT b):=by simp[aJ,aY,a86,s86,bT,am]
theorem ki(b:T × T) (h:H):aJ C.P h 41 (.iptr (bT b) 0)=some (enc b.1):=by simp[aJ,aY,a25,s25,bT,am];rw[bV]
theorem nC(b:T × T) (h:H):aJ C.P h 41 (.iptr (bT b) 4)=some (enc b.2):=by simp[aJ,aY,a25,s25,bT,am];rw[bV]
theorem Ye(b:T × T) (c1 c2 c3 c4 c5 c6 c7 c8:AV) (h:H):ah C.P (h++[.cells [c1,c2,c3,c4,c5,c6,c7,c8] .live]) 121 (.ptr h.length 0) (bT b)=some (h++[.cells (bT b).cells .live]):=by simp[ah,s86,bT,am]
def small(l:Lb):Prop:=∀b∈l,b.1.size<4000000/\b.2.size<4000000
def later:Option T->T->Bool
 |none,_=>false
 |some q,v=>decide (0<=q.cmp v)
theorem el(l:Lb):short (binds l)=true:=rfl
theorem b25:jy C.P 41=some 56:=k_
theorem z25:ip C.P 41=true:=k_
@[go_sem] theorem aAY:ja C.P 32=some 41:=k_
theorem D0(l:Lq):iN 4 (l.map enc)=true:=by cases l<;>simp[iN,aq]
theorem jN{h:H}{v:AV}{xs ys:Lq}{x:Ext}(o:OwnR 41 h v (xs.map enc)) (hl:xs.length+ys.length<=100000000000) :
  ∃v' h',bi C.P false h 32 v (.isl (ys.map enc) x)=some (v',h')/\OwnR 41 h' v' ((xs++ys).map enc)/\Keep h h' (cG v)/\(cG v'=cG v\/cG v=none/\cG v'=some h.length):=by
 have:=mQ (x:=x) u23 s25 b25 z25 rfl o (D0 xs) (D0 ys) (by simp only[ax];omega);rwa[<-List.map_append]at this
theorem Kv(l:Lq):iT (l.map enc)=some (l.map enc):=by
 induction l with
 |nil=>rfl
 |cons a l b=>simp only[aM,iT,b,oh]
@[go_sem] theorem dZ (a:T):au (enc a)=true:=by rw[bV];rfl
theorem fO(h:H) (a:T):cQ C.P h 32 1 [(0,enc a)]=some (.isl [enc a] .full,h):=cY u23 s25 z25 rfl o_ rfl (Kv [a]) (by simp[bF]) s_ (by simp[uh,aq,dZ])
def dp:Lb->T->T
 |[],v=>v
 |b::l,v=>if b.1.cmp v=0 then b.2 else dp l v
theorem py(l:Lb) (t:T):iT [binds l,enc t]=some [binds l,enc t]:=by rw[bV];rfl
def zc:LA:=[.int .i64 0,.str ⟨#[]⟩,.int .i64 0,.isl [] .full]
def XT(l:Lb) (v:T) (m:Nat) (s:PT) (h:H):Prop:=∃k:Nat,m=l.length-k/\k<=l.length/\s.get 0=binds l/\s.get 3=.ptr 0 0/\s.get 4=.ptr 1 0/\s.get 5=.int .i64 k/\h=[.cells (tc v) .live,.cells zc .live]/\dp (l.drop k) v=dp l v
theorem H9(t:T) (a b c d:AV) (x:VObj):ah C.P [x,.cells [a,b,c,d] .live] 41 (.ptr 1 0) (enc t)=some [x,.cells (enc t).cells .live]:=by simp[ah,s25,aq];rw[bV];rfl
theorem TH(l:Lb) (v:T) (hs:small l) (hv:v.size<4000000) (hl:l.length<4000000):az C 116 [binds l,enc v]=some (enc (dp l v)):=by
 refine bL func116 rfl λR o=>?_
 simp[go_sem,terms];refine bX (XT l v) l.length ⟨0,rfl,aO _,g_,g_,g_,g_,rfl,rfl⟩ ?_;rintro m s h ⟨k,rfl,u,c,j,n,f,rfl,b⟩;simp only[binds]at c;have fin:∀(s:PT) (t:T) (x:VObj),s.get 4=.ptr 1 0->t=dp l v->R .ret s [x,.cells (enc t).cells .live]:=λs t x hs p=>by
  refine o ⟨enc t,?_,?_⟩
  ·simp[ag,cO,f116,hs,aJ,aY,a25,s25,aq];rw[bV]
  rw[<-p];exact aU (oh t) (bF t)
 by_cases a:k<l.length
 ·have d:(k:Int)<l.length:=o_;have e:=yk l k a .unk;have g:=hs _ (aG a);have q:=wS k o_;have r:=nH l[k].1 v g.1 hv;rw[aI a,dp]at b;simp[go_sem,c,j,f,En,d,e,ki,tc,zc,vD,r,-Int.natCast_add];refine Ife_iff.2 ⟨λi=>?_,λi=>?_⟩
  ·rw[if_pos i]at b;simp[go_sem,c,n,f,e,nC,H9];exact fin _ _ _ g_ b
  rw[if_neg i]at b;simp[go_sem,f,-Int.natCast_add,q];exact⟨l.length-(k+1),o_,k+1,rfl,a,by simp[go_sem,c,binds],g_,g_,g_,rfl,b⟩
 have:k=l.length:=o_;subst this;rw[bH,dp]at b;simp[go_sem,c,j,n,f,En,tc,zc,vD,H9];exact fin _ _ _ g_ b
theorem Q1(l:Lb) (v:T) (hs:small l) (hv:v.size<4000000) (hl:l.length<4000000) (h:H):aj C h (.func 116 []) (some [binds l,enc v])=some (enc (dp l v),h):=an (py _ _) (by simp[el,bF]) s_ (TH l v hs hv hl)
mutual
def cy(l:Lb):T->T
 |.mk k n s m=>if k=1 then dp l (.mk k n s m)else .mk k n s (II l m)
def II(l:Lb):Lq->Lq
 |[]=>[]
 |t::m=>cy l t::II l m
end
theorem Bo(l:Lb):∀m,II l m=m.map (cy l)
 |[]=>rfl
 |t::m=>by rw[II,Bo l m];rfl
theorem fh(l:Lb) (t:T):cy l t=if t.kind=1 then dp l t else .mk t.kind t.name t.sort (t.kids.map (cy l)):=by cases t;rw[cy,Bo];rfl
def Zk(l:Lb) (t:T) (m:Nat) (s:PT) (h:H):Prop:=∃k:Nat,∃v:AV,m=t.kids.length-k/\k<=t.kids.length/\s.get 0=binds l/\s.get 3=.ptr 0 0/\s.get 4=.ptr 1 0/\s.get 5=.ptr 2 0/\s.get 6=.int .i64 k/\h[0]?=some (.cells (tc t) .live)/\h[1]?=some (.cells zc .live)/\h[2]?=some (.cells [.int .i64 t.kind,.str t.name,.int .i64 t.sort,v] .live) /\
 OwnR 41 h v (((t.kids.take k).map (cy l)).map enc)
theorem H8(t:T) (a b c d:AV) (x y:VObj):ah C.P [x,y,.cells [a,b,c,d] .live] 41 (.ptr 2 0) (enc t)=some [x,y,.cells (enc t).cells .live]:=by simp[ah,s25,aq];rw[bV];rfl
theorem VQ(l:Lb) (t:T) (hs:small l) (hv:t.size<4000000) (hl:l.length<4000000) (hc:∀k∈t.kids,az C 72 [binds l,enc k]=some (enc (cy l k))):az C 72 [binds l,enc t]=some (enc (cy l t)):=by
 refine bL func72 rfl λR X=>?_
 have fin:∀(s:PT) (q:T) (h:H),s.get 4=.ptr 1 0->h[1]?=some (.cells (enc q).cells .live)->q=cy l t->R .ret s h:=λs q h hs hh ht=>by
  refine X ⟨enc q,?_,?_⟩
  ·simp[ag,cO,f72,hs,aJ,hh,aY,a25,s25,aq];rw[bV]
  rw[<-ht];exact aU (oh q) (bF q)
 have c1:=Q1 l t hs hv hl;have f:=fh l t;have q':=size_kids t;have Y:=len_sizes t.kids;simp[go_sem,terms];refine Ife_iff.2 ⟨λr=>?_,λr=>?_⟩
 ·rw[if_pos r]at f;simp[go_sem,vD,c1,H9];exact fin _ _ _ g_ s_ f.symm
 rw[if_neg r]at f;have q1:∀(x y:VObj) (a b c:AV),ah C.P [x,y,.cells [a,b,c,.isl (t.kids.map enc) .unk] .live] 32 (.ptr 2 3) (.isl [] .full)=some [x,y,.cells [a,b,c,.isl [] .full] .live]:=λx y a b c=>by simp[ah,s23]
 simp[go_sem,vD,H8,aq,terms,q1];refine bX (Zk l t) t.kids.length ⟨0,.isl [] .full,rfl,aO _,g_,g_,g_,g_,g_,rfl,rfl,rfl,.inl rfl⟩ ?_;rintro m s h ⟨k,v,rfl,hk,g0,F,Z,g5,G,I,E,w,u⟩;have J:aJ C.P h 32 (.ptr 0 3)=some (.isl (t.kids.map enc) .unk):=by simp[aJ,I,tc,aY,a23,s23]
 have l2:aJ C.P h 32 (.ptr 2 3)=some v:=by obtain⟨x,rfl⟩:=u.isl;simp[aJ,w,aY,a23,s23]
 by_cases g:k<t.kids.length
 ·have z:(k:Int)<t.kids.length:=o_;have K:=lu t.kids k g .unk;have w2:=wS k o_;have ck:∀h,aj C h (.func 72 []) (some [binds l,enc t.kids[k]])=some (enc (cy l t.kids[k]),h):=λh=>an (py _ _) (by simp[el,bF]) s_ (hc _ (aG g))
  have⟨A,L,ha,M,j,N⟩:=jN (ys:=[cy l t.kids[k]]) (x:=.full) u (by simp only[ax,bU,aL,bB];omega);have O:(t.kids.take k).map (cy l)++[cy l t.kids[k]]=(t.kids.take (k+1)).map (cy l):=by rw[<-aW g,List.map_append];rfl
  rw[O]at M;simp only[aM,bM]at ha;have d:∀i,cG v=some i->i≠0/\i≠1/\i≠2:=λi n=>by
   rcases u with rfl|⟨id,rfl,o⟩
   ·cases n
   simp only[cG,aA]at n;subst n;exact⟨λe=>by(rw[e,I]at o;cases o),λe=>by(rw[e,E]at o;cases o),λe=>by(rw[e,w]at o;cases o)⟩
  have Q:=j.get I (λe=>(d _ e).1 rfl);have S:=j.get E (λe=>(d _ e).2.1 rfl);have B:=j.get w (λe=>(d _ e).2.2 rfl);have U:ah C.P L 32 (.ptr 2 3) A=some (L.set 2 (.cells [.int .i64 t.kind,.str t.name,.int .i64 t.sort,A] .live)):=by obtain⟨x,rfl⟩:=M.isl;simp[ah,B,s23]
  have V:OwnR 41 (L.set 2 (.cells [.int .i64 t.kind,.str t.name,.int .i64 t.sort,A] .live)) A (((t.kids.take (k+1)).map (cy l)).map enc):=M.keep (Keep.set _ _ _) (λi n e=>by
   rcases N with r|⟨r,h2⟩
   ·exact(d i (r▸n)).2.2 (by simpa using e.symm)
   have:=(aB.1 w).1;rw[h2]at n;simp only[aA]at n e;omega)
  have p:=(aB.1 B).1;simp[go_sem,F,G,J,fq,z,-Int.natCast_add];refine eQ 8 _ (by simp[gM]) rfl ?_;simp[go_sem,g0,F,g5,G,J,l2,K,ee,ck,fO,ha,U,-Int.natCast_add,w2];refine⟨?_,t.kids.length-(k+1),o_,k+1,A,rfl,g,g_,g_,g_,g_,g_,?_,?_,?_,V⟩
  ·rcases u with rfl|⟨id,rfl,o⟩
   ·simp[go_sem,ff,fL,fP,iC,dy,cF]
   have:=d id rfl;simp[go_sem,ff,fL,fP,iC,dy,cF]
   (try omega)
  ·rw[aC o_];exact Q
  ·rw[aC o_];exact S
  rw[aD p]
 have:k=t.kids.length:=o_;subst this;rw[ak]at u;obtain⟨x,rfl⟩:=u.isl;have e5:aJ C.P h 41 (.ptr 2 0)=some (.agg [.int .i64 t.kind,.str t.name,.int .i64 t.sort,.isl ((t.kids.map (cy l)).map enc) x]):=by simp[aJ,w,aY,a25,s25]
 have e6:ah C.P h 41 (.ptr 1 0) (.agg [.int .i64 t.kind,.str t.name,.int .i64 t.sort,.isl ((t.kids.map (cy l)).map enc) x])=some (h.set 1 (.cells [.int .i64 t.kind,.str t.name,.int .i64 t.sort,.isl ((t.kids.map (cy l)).map enc) x] .live)):=by simp[ah,E,s25,zc]
 have e7:=(aB.1 E).1;generalize D:AV.agg [.int .i64 t.kind,.str t.name,.int .i64 t.sort,.isl ((t.kids.map (cy l)).map enc) x]=zz at e5 e6;simp[go_sem,F,Z,g5,G,J,fq,e5,e6];refine X ⟨zz,?_,?_⟩
 ·simp[ag,cO,f72,go_sem,Z,aJ,aD e7,aY,a25,s25,<-D]
 rw[f,bV,<-D];exact aU rfl rfl
theorem J2(l:Lb) (hs:small l) (hl:l.length<4000000) (t:T):t.size<4000000->az C 72 [binds l,enc t]=some (enc (cy l t)):=by
 induction t using T.ind with
 |_ t b=>exact λc=>VQ l t hs c hl (λk a=>b k a (by have:=kid_size a;omega))
theorem Nv(l:Lb) (t:T) (hs:small l) (hv:t.size<4000000) (hl:l.length<4000000) (h:H):aj C h (.func 72 []) (some [binds l,enc t])=some (enc (cy l t),h):=an (py _ _) (by simp[el,bF]) s_ (J2 l hs hl t hv)
def bZ(l:Lq):LA:=l.flatMap λt=>(enc t).cells
theorem jL(a:T) (l:Lq):bZ (a::l)=[.int .i64 a.kind,.str a.name,.int .i64 a.sort,terms a.kids]++bZ l:=by simp[bZ,aq]
theorem fU(l:Lq):(bZ l).length=4*l.length:=by
 induction l with
 |nil=>rfl
 |cons a l b=>rw[jL,List.length_append,b];simp;omega
theorem jo:∀ {a b a' b':LA},iT a=some a'->iT b=some b'->iT (a++b)=some (a'++b')
 |[],_,_,_,h1,h2=>by cases h1;exact h2
 |x::a,b,a',b',h1,h2=>by simp only[iT]at h1;cases hx:dat x<;>cases hy:iT a<;>simp only[hx,hy]at h1<;>cases h1;simp only[cV,iT,hx,jo hy h2]
theorem tj(l:Lq):iT (bZ l)=some (bZ l):=by
 induction l with
 |nil=>rfl
 |cons a l b=>rw[jL];exact jo rfl b
theorem rX(l:Lq):(bZ l).all short=true:=by
 induction l with
 |nil=>rfl
 |cons a l b=>rw[jL,eM,b];rfl
def Row(h:H) (v:AV) (l:Lq):Prop:=(l=[]/\v=.isl [] .full)\/∃id,v=.msl id 0 4 l.length none/\h[id]?=some (.cells (bZ l) .live)
theorem sS{l:Lq}{k:Nat}(hk:k<l.length):bZ l=bZ (l.take k)++(enc l[k]).cells++bZ (l.drop (k+1)):=by
 have e:l=l.take k++l[k]::l.drop (k+1):=by rw[<-aI hk,dx]
 have a:=congrArg bZ e;rw[a];unfold bZ;rw[fm,dt,List.append_assoc]
theorem tV{id n k:Nat}(hk:k<n):aZ C.P 32 (.msl id 0 4 n none) (.int .i64 k)=some (.ptr id (4*k)):=by simp[aZ,u23,s25,hk];omega
theorem ldq{h:H}{i:Nat}{a b c v:AV}(hi:h[i]?=some (.cells [a,b,c,v] .live)) (_hv:au v=true):aJ C.P h 32 (.ptr i 3)=some v:=by simp[aJ,hi,aY,a23,s23]
theorem stq{h:H}{i:Nat}{a b c v:AV}(w:AV) (hi:h[i]?=some (.cells [a,b,c,v] .live)) (hw:w=.isl [] .full\/∃id n,w=.msl id 0 4 n none):ah C.P h 32 (.ptr i 3) w=some (h.set i (.cells [a,b,c,w] .live)):=by rcases hw with rfl|⟨id,n,rfl⟩<;>simp[ah,hi,s23]
theorem Row.form{h:H}{v:AV}{l:Lq}(r:Row h v l):v=.isl [] .full\/∃id n,v=.msl id 0 4 n none:=by
 rcases r with⟨_,rfl⟩|⟨id,rfl,_⟩
 ·exact .inl rfl
 exact .inr ⟨_,_,rfl⟩
theorem Row.len{h:H}{v:AV}{l:Lq}(r:Row h v l):fG C.P 32 v=some (.int .i64 l.length):=by rcases r with⟨rfl,rfl⟩|⟨id,rfl,_⟩<;>simp[fG,u23]
theorem Row.keep{h h':H}{v:AV}{l:Lq}(r:Row h v l) (k:Keep h h' none):Row h' v l:=by
 rcases r with e|⟨id,rfl,a⟩
 ·exact .inl e
 exact .inr ⟨id,rfl,k.get a s_⟩
theorem qM(t:T) (h:H):ah C.P (h++[.cells [.int .i64 0,.str ⟨#[]⟩,.int .i64 0,.isl [] .full] .live]) 41 (.ptr h.length 0) (enc t)=some (h++[.cells (enc t).cells .live]):=by rw[Jh t _ _ _ _ h,aq]
theorem pk(t:T) (h:H):aJ C.P (h++[.cells (enc t).cells .live]) 41 (.ptr h.length 0)=some (enc t):=by rw[aq];exact B2 t h
theorem Vl(a b c:AV) (es:LA) (x:Ext) (l:List VObj):aJ C.P (.cells [a,b,c,.isl es x] .live::l) 32 (.ptr 0 3)=some (.isl es x):=ldq rfl rfl
theorem xB:∀l:Lq,io 4 l.length (bZ l)=l.map enc
 |[]=>rfl
 |a::l=>by have:=xB l;rw[jL];simp only[aL,io,cV,cN,lV,qF,lZ,eH,aM,this,bV]
theorem sk:∀ {h:H}{i:Nat}{cs:LA},h[i]?=some (.cells cs .live)->(bo h)[i]?=some (.cells cs .frozen)
 |[],_,_,e=>by simp at e
 |o::r,0,cs,e=>by simp at e;subst e;rfl
 |o::r,i+1,cs,e=>by
  have:=sk (h:=r) (i:=i) (cs:=cs) (by simpa using e);cases o with
  |cells c st=>cases st<;>simpa[bo]using this
  |_=>simpa[bo]using this
def Ng(P:Program) (a b:TypeId):AV->Option AV
 |.isl es _=>Iz P a b es
 |v=>Ap P a b v
@[go_sem] theorem Up (P:Program) (a b:TypeId) (k:IntKind) (x:Int):Ng P a b (.int k x)=Ap P a b (.int k x):=(rfl)
@[go_sem] theorem Ux {C:Cfg}{cf:FuncId}{ops:Array Oper}{d:Tmp}{ty:TypeId}{p:String}{af:Array Edge}{l:List Oper}{s:PT}{h:H}{K:PT->H->Prop}(a b:TypeId) (x:Operand) :
  OW C cf ops (⟨some d,.convert a b x,ty,p,af,none⟩::l) s h K↔bO (bi1 (ev s x) (Ng C.P a b)) λv=>OW C cf ops l (s.set d v) h K:=OWn (by simp only[opN,bi1,Ng];cases ev s x<;>first|rfl|(rename_i c;cases c<;>rfl)) rfl rfl
def idx(l:Lb) (t:T):Nat:=l.findIdx λb=>decide (0<=b.1.cmp t)
def hit(l:Lb) (t:T):Bool:=if h:idx l t<l.length then decide (l[idx l t].1.cmp t=0)else false
theorem GG(f:FuncId):short (.func f [])=true:=rfl
theorem du{h:H}{l l':LA}(hd:iT l=some l') (hs:l.all short=true) (hl:l.length<=1000):eW h cM (.tuple l)=some (.tuple l'):=by
 have e:=(dM (h:=h) hd hs 999999 o_).1;have:eW h cM (.tuple l)=(match fJ h 999999 l with
  |some l=>some (.tuple l)
  |none=>none):=rfl
 rw[this,e]
def Row2(h:H) (v:AV) (l:Lq):Prop:=(l=[]/\v=.isl [] .full)\/(v=.msl 2 0 4 l.length none/\h[2]?=some (.cells (bZ l) .live))
theorem Row2.row{h:H}{v:AV}{l:Lq}(r:Row2 h v l):Row h v l:=r.elim .inl λe=>.inr ⟨2,e⟩
theorem bg{t:T}(h:bA t=0):cz t=0/\t.size<=400/\t.depth<=40:=by
 unfold bA at h;have⟨b,a⟩:=thn_zero.1 h;split at a
 ·cases a
 exact⟨b,o_,o_⟩
theorem Ez:∀(l:Lb) (t:T),dp l t=t\/∃b∈l,dp l t=b.2
 |[],_=>.inl rfl
 |b::l,t=>by
  rw[dp];split
  ·exact .inr ⟨b,s_,rfl⟩
  rcases Ez l t with h|⟨c,hc,h⟩
  ·exact .inl h
  exact .inr ⟨c,by simp[hc],h⟩
theorem uS(l:Lb) (hl:∀b∈l,b.2.size<=400) (t:T):(cy l t).size<=400*t.size:=by
 induction t using T.ind with
 |_ t e=>
  have i:=size_kids t;rw[fh];split
  ·rcases Ez l t with h|⟨b,f,h⟩
   ·rw[h];omega
   rw[h];have:=hl b f;omega
  rw[size_kids];show sizes (t.kids.map (cy l))+1<=_;have:∀m:Lq,(∀k∈m,(cy l k).size<=400*k.size)->sizes (m.map (cy l))<=400*sizes m:=by
   intro m;induction m with
   |nil=>intro _;simp[sizes]
   |cons a m c=>
    intro d;have j:=d a s_;have n:=c λk g=>d k (by simp[g])
    rw[aM,sizes,sizes];omega
  have:=this t.kids e;omega
@[go_sem] theorem YP {C:Cfg}{cf:FuncId}{ops:Array Oper}{d:Tmp}{ty:TypeId}{p:String}{af:Array Edge}{l:List Oper}{s:PT}{h:H}{K:PT->H->Prop}(t:TypeId) (parts:List (Nat × Operand)) :
  OW C cf ops (⟨some d,.build t parts.toArray,ty,p,af,none⟩::l) s h K↔bO (bi1 (fT s parts) (fV C.P t)) λv=>OW C cf ops l (s.set d v) h K:=OWn (by simp only[opN,bi1];cases fT s parts<;>rfl) rfl rfl
abbrev su{H:Type}(d:DataW H):Nat:=YtbcnnpkfkopoeaaGreatDoor.Rows.uptoBulk d
abbrev xT{H:Type}(l:List (DataW H)):Nat:=YtbcnnpkfkopoeaaGreatDoor.Rows.uptoBulkAll l
theorem Is{α:Type}{p:Nat->α->Prop}:∀n,(∀i,i<n->∃a,p i a)->∃l:List α,l.length=n/\∀i a,l[i]?=some a->p i a
 |0,_=>⟨[],rfl,λi a h=>by simp at h⟩
 |n+1,h=>by
  have⟨l,h1,h2⟩:=Is n λi d=>h i o_
  have⟨a,e⟩:=h n o_;refine⟨l++[a],by simp[h1],λi b c=>?_⟩;by_cases d:i<n
  ·rw[aH o_]at c;exact h2 i b c
  rw[ap o_]at c;have:i=n:=by have:=(aB.1 c).1;simp at this;omega
  subst this;simp[h1]at c;subst c;exact e
theorem tl{w:World}{a:Addr}{n:Nat}{cs:List Value}(h:w.cells? 0 a n=some cs):cs.length=n/\∀j u,cs[j]?=some u->w.cell? (a.add j)=some u:=by
 unfold World.cells? at h;rw[if_pos (aO _)]at h;have c:cs.length=n:=by have:=mapM_some_length h;rwa[List.length_range]at this
 refine⟨c,λj u b=>?_⟩;have d:=(aB.1 b).1;have:=mapM_some_get h j j (by rw[eo o_]);rw[this];exact b
theorem zh{H α:Type}{sz:α->Nat}:∀(l:List α) (ds:List (DataW H)),l.length=ds.length->(∀(i:Nat) a d,l[i]?=some a->ds[i]?=some d->sz a<=su d)->(l.map sz).sum<=xT ds
 |[],_,_,_=>s_
 |a::l,[],h,_=>by simp at h
 |a::l,d::ds,h,hs=>by
  have:=zh l ds (by simpa using h) λi a d b c=>hs (i+1) a d (by simpa using b) (by simpa using c)
  have e:=hs 0 a d rfl rfl;simp only[aM,iS,xT,su,YtbcnnpkfkopoeaaGreatDoor.Rows.uptoBulkAll]at this e ⊢;omega
theorem CR{w:World}{b o i j:Nat}{u:Value}(h:w.cell? (Addr.add (Addr.add ⟨b,o,none⟩ i) j)=some u):w.cell? ⟨b,o+i+j,none⟩=some u:=by
 rw[<-h];congr 1
 unfold Addr.add;split<;>split<;>simp_all
theorem CQ{w:World}{b o:Nat}{z}{u:Value}(h:w.cell? (Addr.add (Addr.add ⟨b,o,z⟩ 0) 0)=some u):z=none:=by
 cases z with
 |none=>rfl
 |some z=>exfalso;simp[World.cell?,Addr.add]at h;split at h<;>cases h
theorem Kt{H:Type}{enc:TypeId × Value->H}{P:Program}{w:World}{α:Type}{toV:α->AV}{sz:α->Nat}{t e:TypeId}{k fuel:Nat}{v:Value}{x:DataW H × List MemPlace}
  (hu:P.underlying t=some (.slice e)) (hk:P.cellsOf e=k) (h0:0<k) (hl:∀a:α,(toV a).cells.length=k/\au (toV a)=true/\∀c∈(toV a).cells,c.one=true)
  (hd:∀n,n<fuel->∀cs y,cs.length=k->DataW.trod enc P w 0 (λ_=>true) true n e cs=some y->∃a:α,sz a<=su y.1/\∀(j:Nat) c u,(toV a).cells[j]?=some c->cs[j]?=some u->IRel (λ_ _=>True) w c u)
  (h:DataW.trod enc P w 0 (λ_=>true) true fuel t [v]=some x):∃l:List α,IRel (λ_ _=>True) w (.isl (l.map toV) .unk) v/\l.length+1<=su x.1/\(l.map sz).sum+1<=su x.1:=by
 rcases DataW.trod_slice hu h with⟨K,rfl⟩|⟨a,len,cap,f,U,n,rfl,K,rfl,_,Y,L,M,N,_,_⟩
 ·simp only[ct,and_true]at K;subst K;exact⟨[],.islNil,by simp[su,YtbcnnpkfkopoeaaGreatDoor.Rows.uptoBulk],by simp[su,YtbcnnpkfkopoeaaGreatDoor.Rows.uptoBulk]⟩
 simp only[ct,and_true]at K;subst K;rw[hk]at N;have⟨l,r,D⟩:=Is (p:=λi (g:α)=>∃cs y,w.cells? 0 (a.add (i*k)) k=some cs/\f[i]?=some y/\sz g<=su y.1/\∀(j:Nat) c u,(toV g).cells[j]?=some c->cs[j]?=some u->IRel (λ_ _=>True) w c u) len λi Z=>by have m:=N i Z;have s:f[i]?=some (f[i]' o_):=aF o_;rw[s]at m;have⟨cs,F,O⟩:=Option.bind_eq_some_iff.1 m;have⟨g,h5,h6⟩:=hd n o_ cs _ (tl F).1 O;exact⟨g,cs,_,F,s,h5,h6⟩
 have G:(l.map sz).sum<=xT (f.map (·.1)):=zh l _ (by simp[r,M]) λi g d m s=>by have⟨cs,y,_,F,O,_⟩:=D i g m;rw[cK,F]at s;simp only[cT,aA]at s;subst s;exact O
 have I:(l.map λ_=>1).sum<=xT (f.map (·.1)):=zh (sz:=λ_=>1) l _ (by simp[r,M]) λi g d m s=>by cases d<;>simp[su,YtbcnnpkfkopoeaaGreatDoor.Rows.uptoBulk]<;>(rename_i q;cases q<;>simp[YtbcnnpkfkopoeaaGreatDoor.Rows.uptoBulk])
 have V:(l.map λ_=>1).sum=l.length:=by
  clear I G D r;induction l with
  |nil=>rfl
  |cons a l ih=>simp only[aM,iS,ih,aL];omega
 refine⟨l,?_,by simp only[su,YtbcnnpkfkopoeaaGreatDoor.Rows.uptoBulk];simp only[xT]at I;omega,by simp only[su,YtbcnnpkfkopoeaaGreatDoor.Rows.uptoBulk];simp only[xT]at G;omega⟩;by_cases hz:len=0
 ·subst hz;have:l=[]:=iE.1 r;subst this;exact .islEmpty a cap L
 have⟨b,o,z⟩:=a;have S:z=none:=by have⟨cs,y,m,_⟩:=D 0 (l[0]' o_) (aF o_);have⟨s,F⟩:=tl m;have:=F 0 (cs[0]' o_) (aF o_);exact CQ (by simpa using this)
 subst S;have Q:∀(i j:Nat) E c,(l.map toV)[i]?=some E->E.cells[j]?=some c->∃u,w.cell? ⟨b,o+i*k+j,none⟩=some u/\IRel (λ_ _=>True) w c u:=λi j E c B J=>by
  rw[cK]at B;obtain⟨g,ha,rfl⟩:=cS.1 B;have⟨cs,y,m,_,_,O⟩:=D i g ha;have⟨s,F⟩:=tl m;have X:j<cs.length:=by have:=(aB.1 J).1;rw[(hl g).1]at this;omega
  have:=F j cs[j] (aF X);exact⟨cs[j],CR this,O j c _ J (aF X)⟩
 have:=IRel.isl (A:=λ_ _=>True) (w:=w) (es:=l.map toV) (sz:=k) (b:=b) (o:=o) (cap:=cap) (λi j=>(w.cell? ⟨b,o+i*k+j,none⟩).getD .nilIface) h0 (by simp;omega) L
  (λE B=>by obtain⟨g,_,rfl⟩:=ae.1 B;exact⟨(hl g).1,(hl g).2.1⟩)
  (λE B c J=>by obtain⟨g,_,rfl⟩:=ae.1 B;exact(hl g).2.2 c J)
  (λi j E c B J=>by have⟨u,m,_⟩:=Q i j E c B J;exact⟨trivial,by rw[m];rfl⟩)
  (λi j E c B J=>by have⟨u,m,s⟩:=Q i j E c B J;rw[m];exact s)
 rw[ax,r]at this;exact this
def smallT(l:Lq):Prop:=l.length<4000000/\∀t∈l,t.size<4000000
theorem s4:cw C.P 4=some 1:=k_
theorem a4:gW C.P 4=some false:=k_
attribute [go_sem] s4 a4
theorem b3:jy C.P 3=some 8:=k_
theorem b4:jy C.P 4=some 1:=k_
theorem z3:ip C.P 3=true:=k_
theorem c3:prog.cellsOf 3=1:=k_
theorem c9:prog.cellsOf 9=1:=k_
theorem c86:prog.cellsOf 121=8:=k_
section
variable {H:Type}{ec:TypeId × Value->H}{w:World}
noncomputable abbrev TR(ec:TypeId × Value->H) (w:World) (n:Nat) (t:TypeId) (cs:List Value):Option (DataW H × List MemPlace):=DataW.trod ec prog w 0 (λ_=>true) true n t cs
end
end Go.VZ
namespace Go.VZ
open Go Go.V Go.Proofs Tryz TL
def faC(f:Fa):LA:=[.int .i64 f.kind,.int .i64 f.goal,terms f.terms]
def aQ(f:Fa):AV:=.agg (faC f)
theorem s35:cw C.P 34=some 3:=k_
theorem a35:gW C.P 34=some true:=k_
theorem nI(f:Fa) (h:H):mg C.P h 34 (aQ f)=some (.ptr h.length 0,h++[.cells (faC f) .live]):=by simp[mg,aQ,s35,faC,au,am]
theorem TW(i o:Nat):bp C.P 34 (.ptr i o) 0=some (.ptr i o):=k_
theorem TV(i o:Nat):bp C.P 34 (.ptr i o) 1=some (.ptr i (o+1)):=k_
theorem TU(i o:Nat):bp C.P 34 (.ptr i o) 2=some (.ptr i (o+2)):=k_
attribute [go_sem] TW TV TU
theorem rK{h:H}{i:Nat}{f:Fa}(hi:h[i]?=some (.cells (faC f) .live)):aJ C.P h 3 (.ptr i 0)=some (.int .i64 f.kind):=by simp[aJ,hi,aY,a3,s3,faC]
theorem vC{h:H}{i:Nat}{f:Fa}(hi:h[i]?=some (.cells (faC f) .live)):aJ C.P h 3 (.ptr i 1)=some (.int .i64 f.goal):=by simp[aJ,hi,aY,a3,s3,faC]
theorem mY{h:H}{i:Nat}{f:Fa}(hi:h[i]?=some (.cells (faC f) .live)):aJ C.P h 32 (.ptr i 2)=some (terms f.terms):=by simp[aJ,hi,aY,a23,s23,faC,terms]
theorem dX(l:Lq):fG C.P 32 (terms l)=some (.int .i64 l.length):=by simp[terms,fq]
theorem dh(l:Lq) (k:Nat) (hk:k<l.length):aZ C.P 32 (terms l) (.int .i64 k)=some (.iptr (enc l[k]) 0):=lu l k hk .unk
theorem NY(f:Fa):iT [aQ f]=some [aQ f]:=rfl
theorem ED(f:Fa):short (aQ f)=true:=rfl
def iM:Lq->Int
 |[]=>0
 |t::l=>if bA t≠0 then bA t else iM l
def eZ(f:Fa):Int:=
 if(f.kind≠1/\f.kind≠2/\f.kind≠3)\/f.kind=1/\(f.terms.length≠1\/f.goal≠0)then 1
 else if f.goal<0\/7<f.goal then 7
 else if f.terms.length=0 then 8
 else if 8<f.terms.length then 3
 else iM f.terms
def zo(l:Lq):Prop:=∀t∈l,t.size<4000000
def Zo(f:Fa) (n:Nat) (st:PT) (h:H):Prop:=∃k:Nat,n=f.terms.length-k/\k<=f.terms.length/\h[0]?=some (.cells (faC f) .live)/\st.get 1=.ptr 0 0/\st.get 3=.int .i64 k/\iM f.terms=iM (f.terms.drop k)
theorem TI(f:Fa) (hs:zo f.terms) (hl:f.terms.length<4000000):az C 58 [aQ f]=some (.int .i64 (eZ f)):=by
 refine bL func58 rfl λR A=>?_
 have fin:∀(st:PT) (h:H) (e:Int),st.get 2=.int .i64 e->eZ f=e->R .ret st h:=λst h e j p=>A ⟨.int .i64 e,by simp[ag,cO,f58,j],by rw[p];exact aU rfl rfl⟩
 have u:([.cells (faC f) .live]:H)[0]?=some (.cells (faC f) .live):=rfl;have B:=rK u;have y:=vC u;have v:=mY u;have d:=dX f.terms;have F:([]:H)++[.cells (faC f) .live]=[.cells (faC f) .live]:=rfl;simp +contextual [go_sem,nI,B,y,v,d];refine Ife_iff.2 ⟨λq=>?_,λq=>?_⟩
 ·simp[go_sem];refine fin _ _ 1 g_ ?_;unfold eZ;rw[if_pos];rcases q with⟨⟨a,b⟩,c⟩|⟨a,b⟩
  ·exact .inl ⟨a,b,c⟩
  exact .inr ⟨a,b.imp (λe h=>e o_) id⟩
 have r:¬((f.kind≠1/\f.kind≠2/\f.kind≠3)\/f.kind=1/\(f.terms.length≠1\/f.goal≠0)):=by
  rintro(⟨a,b,c⟩|⟨a,b⟩)
  ·exact q (.inl ⟨⟨a,b⟩,c⟩)
  exact q (.inr ⟨a,b.imp (λe h=>e o_) id⟩)
 simp +contextual [go_sem,y];refine Ife_iff.2 ⟨λj=>?_,λj=>?_⟩
 ·simp[go_sem];exact fin _ _ 7 g_ (by unfold eZ;rw[if_neg r,if_pos j])
 simp +contextual [go_sem,v,d];refine Ife_iff.2 ⟨λs=>?_,λs=>?_⟩
 ·simp[go_sem];exact fin _ _ 8 g_ (by unfold eZ;rw[if_neg r,if_neg j,if_pos (by simpa using s)])
 simp +contextual [go_sem,v,d];refine Ife_iff.2 ⟨λD=>?_,λD=>?_⟩
 ·simp[go_sem];exact fin _ _ 3 g_ (by unfold eZ;rw[if_neg r,if_neg j,if_neg (by simpa using s),if_pos o_])
 have p:eZ f=iM f.terms:=by unfold eZ;rw[if_neg r,if_neg j,if_neg (by simpa using s),if_neg o_]
 simp[go_sem];refine bX (Zo f) f.terms.length ⟨0,rfl,aO _,rfl,g_,g_,rfl⟩ ?_;rintro n st h ⟨k,rfl,G,z,w,x,m⟩;have l:=mY z;by_cases g:k<f.terms.length
 ·have i:(k:Int)<f.terms.length:=o_;have o:=dh f.terms k g;have c86:=oF f.terms[k] (hs _ (aG g));have E:=wS k o_;rw[aI g,iM]at m;by_cases t:bA f.terms[k]=0
  ·simp[go_sem,w,x,l,d,i,o,ee,c86,t,-Int.natCast_add,E];exact⟨f.terms.length-(k+1),o_,k+1,rfl,g,z,g_,g_,by rw[m,if_neg (by simpa using t)]⟩
  simp[go_sem,w,x,l,d,i,o,ee,c86,t];exact fin _ _ (bA f.terms[k]) g_ (by rw[p,m,if_pos t])
 have:k=f.terms.length:=o_;subst this;rw[bH,iM]at m;simp[go_sem,w,x,l,d];exact fin _ _ 0 g_ (by rw[p,m])
theorem Nw(f:Fa) (hs:zo f.terms) (hl:f.terms.length<4000000) (h:H):aj C h (.func 58 []) (some [aQ f])=some (.int .i64 (eZ f),h):=an (NY f) (by simp[ED]) s_ (TI f hs hl)
def XD(f:Fa) (n:Nat) (st:PT) (_h:H):Prop:=∃k:Nat,n=f.terms.length-k/\k<=f.terms.length/\st.get 42=terms f.terms/\st.get 43=.int .i64 f.terms.length/\st.get 44=.int .i64 k/\iM f.terms=iM (f.terms.drop k)
theorem TJ(f:Fa) (hs:zo f.terms) (hl:f.terms.length<4000000):az C 78 [aQ f]=some (.int .i64 (eZ f)):=by
 refine bL func78 rfl λR I=>?_
 have fin:∀(st:PT) (h:H) (e:Int),st.get 2=.int .i64 e->eZ f=e->R .ret st h:=λst h e u r=>I ⟨.int .i64 e,by simp[ag,cO,f78,u],by rw[r];exact aU rfl rfl⟩
 have D:([.cells (faC f) .live]:H)[0]?=some (.cells (faC f) .live):=rfl;have E:=rK D;have G:=vC D;have w:=mY D;have m:=dX f.terms;by_cases v:f.kind=1
 ·simp +contextual [go_sem,nI,E,G,w,m,v];refine Ife_iff.2 ⟨λA=>?_,λA=>?_⟩
  ·simp[go_sem];exact fin _ _ 1 g_ (by unfold eZ;rw[if_pos (.inr ⟨v,A.imp (λe h=>e o_) id⟩)])
  have x:f.terms.length=1/\f.goal=0:=by
   constructor
   ·exact Decidable.byContradiction λe=>A (.inl o_)
   exact Decidable.byContradiction λe=>A (.inr e)
  have r:eZ f=iM f.terms:=by unfold eZ;rw[if_neg (by rintro(⟨a,_⟩|⟨_,b⟩);exact a v;omega),if_neg o_,if_neg o_,if_neg o_]
  revert r
  intro r;simp[go_sem,w,m];refine bX (XD f) f.terms.length ⟨0,rfl,aO _,g_,g_,g_,rfl⟩ ?_;rintro n st h ⟨k,rfl,J,o,j,l,p⟩;by_cases d:k<f.terms.length
  ·have g:(k:Int)<f.terms.length:=o_;have q:=dh f.terms k d;have i:=um f.terms[k] (hs _ (aG d));have y:=qM f.terms[k] h;have z:=pk f.terms[k] h;have F:=wS k o_;rw[aI d,iM]at p;by_cases s:bA f.terms[k]=0
   ·simp[go_sem,o,j,l,g,q,ee,y,z,i,s,-Int.natCast_add,F];exact⟨f.terms.length-(k+1),o_,k+1,rfl,d,g_,g_,g_,by rw[p,if_neg (by simpa using s)]⟩
   simp[go_sem,o,j,l,g,q,ee,y,z,i,s];exact fin _ _ (bA f.terms[k]) g_ (by rw[r,p,if_pos s])
  have:k=f.terms.length:=o_;subst this;rw[bH,iM]at p;simp[go_sem,j,l];exact fin _ _ 0 g_ (by rw[r,p])
 by_cases t:f.kind=2\/f.kind=3
 ·have x:¬((f.kind≠1/\f.kind≠2/\f.kind≠3)\/f.kind=1/\(f.terms.length≠1\/f.goal≠0)):=by
   rintro(⟨a,b,c⟩|⟨a,b⟩)
   ·rcases t with e|e
    ·exact b e
    exact c e
   exact v a
  rcases t with t|t;all_goals
   simp +contextual [go_sem,nI,E,G,t];refine Ife_iff.2 ⟨λu=>?_,λu=>?_⟩
   ·simp[go_sem];exact fin _ _ 7 g_ (by unfold eZ;rw[if_neg x,if_pos u])
   simp +contextual [go_sem,w,m];refine Ife_iff.2 ⟨λB=>?_,λB=>?_⟩
   ·simp[go_sem];exact fin _ _ 8 g_ (by unfold eZ;rw[if_neg x,if_neg u,if_pos (by simpa using B)])
   simp +contextual [go_sem,w,m];refine Ife_iff.2 ⟨λK=>?_,λK=>?_⟩
   ·simp[go_sem];exact fin _ _ 3 g_ (by unfold eZ;rw[if_neg x,if_neg u,if_neg (by simpa using B),if_pos o_])
   have r:eZ f=iM f.terms:=by unfold eZ;rw[if_neg x,if_neg u,if_neg (by simpa using B),if_neg o_]
   simp[go_sem,w,m];refine bX (XD f) f.terms.length ⟨0,rfl,aO _,g_,g_,g_,rfl⟩ ?_;rintro n st h ⟨k,rfl,J,o,j,l,p⟩;by_cases d:k<f.terms.length
   ·have g:(k:Int)<f.terms.length:=o_;have q:=dh f.terms k d;have i:=um f.terms[k] (hs _ (aG d));have y:=qM f.terms[k] h;have z:=pk f.terms[k] h;have F:=wS k o_;rw[aI d,iM]at p;by_cases s:bA f.terms[k]=0
    ·simp[go_sem,o,j,l,g,q,ee,y,z,i,s,-Int.natCast_add,F];exact⟨f.terms.length-(k+1),o_,k+1,rfl,d,g_,g_,g_,by rw[p,if_neg (by simpa using s)]⟩
    simp[go_sem,o,j,l,g,q,ee,y,z,i,s];exact fin _ _ (bA f.terms[k]) g_ (by rw[r,p,if_pos s])
   have:k=f.terms.length:=o_;subst this;rw[bH,iM]at p;simp[go_sem,j,l];exact fin _ _ 0 g_ (by rw[r,p])
 simp +contextual [go_sem,dP,nI,E,v,show f.kind≠2 from λe=>t (.inl e),show f.kind≠3 from λe=>t (.inr e)];exact fin _ _ 1 g_ (by unfold eZ;rw[if_pos (.inl ⟨v,λe=>t (.inl e),λe=>t (.inr e)⟩)])
theorem Tm(f:Fa) (hs:zo f.terms) (hl:f.terms.length<4000000) (h:H):aj C h (.func 78 []) (some [aQ f])=some (.int .i64 (eZ f),h):=an (NY f) (by simp[ED]) s_ (TJ f hs hl)
def bK(l:List Fa):AV:=.isl (l.map aQ) .unk
def clC(c:Cl):LA:=bK c.body::faC c.head
def ai(c:Cl):AV:=.agg (clC c)
def dO(l:List Fa):LA:=l.flatMap faC
theorem kr(a:Fa) (l:List Fa):dO (a::l)=[.int .i64 a.kind,.int .i64 a.goal,terms a.terms]++dO l:=rfl
theorem qA(l:List Fa):(dO l).length=3*l.length:=by
 induction l with
 |nil=>rfl
 |cons a l b=>rw[kr,List.length_append,b];simp;omega
theorem yp(l:List Fa):iT (dO l)=some (dO l):=by
 induction l with
 |nil=>rfl
 |cons a l b=>rw[kr];exact jo rfl b
theorem wL(l:List Fa):(dO l).all short=true:=by
 induction l with
 |nil=>rfl
 |cons a l b=>rw[kr,eM,b];rfl
theorem u33:C.P.underlying 29=some (.slice 34):=underlying29
theorem s33:cw C.P 29=some 1:=k_
theorem a33:gW C.P 29=some false:=k_
theorem s37:cw C.P 39=some 4:=k_
theorem a37:gW C.P 39=some true:=k_
theorem b35:jy C.P 34=some 40:=k_
theorem z35:ip C.P 34=true:=k_
theorem gS(l:List Fa):iN 3 (l.map aQ)=true:=by cases l<;>simp[iN,aQ,faC,am]
theorem ZE:ja C.P 29=some 34:=k_
attribute [go_sem] ZE
theorem Eo(es:LA) (x:Ext):fG C.P 29 (.isl es x)=some (.int .i64 es.length):=by simp[fG,u33]
theorem iu(l:List Fa):fG C.P 29 (bK l)=some (.int .i64 l.length):=by simp[bK,Eo]
theorem kD(l:List Fa) (k:Nat) (hk:k<l.length) (x:Ext):aZ C.P 29 (.isl (l.map aQ) x) (.int .i64 k)=some (.iptr (aQ l[k]) 0):=by simp[aZ,u33,s35,aQ,faC,am,hk]
theorem ll(f:Fa) (h:H):aJ C.P h 34 (.iptr (aQ f) 0)=some (aQ f):=by simp[aJ,aY,a35,s35,aQ,faC,am]
theorem TS(i:Nat):bp C.P 39 (.ptr i 0) 0=some (.ptr i 0):=k_
theorem TQ(i:Nat):bp C.P 39 (.ptr i 0) 1=some (.ptr i 1):=k_
attribute [go_sem] TS TQ
theorem fk(c:Cl) (h:H):mg C.P h 39 (ai c)=some (.ptr h.length 0,h++[.cells (clC c) .live]):=by simp[mg,ai,s37,clC,faC,au,am]
theorem jn{h:H}{i:Nat}{c:Cl}(hi:h[i]?=some (.cells (clC c) .live)):aJ C.P h 29 (.ptr i 0)=some (bK c.body):=by simp[aJ,hi,aY,a33,s33,clC,bK]
theorem lQ{h:H}{i:Nat}{c:Cl}(hi:h[i]?=some (.cells (clC c) .live)):aJ C.P h 34 (.ptr i 1)=some (aQ c.head):=by simp[aJ,hi,aY,a35,s35,clC,aQ,faC]
theorem jJ{h:H}{i:Nat}{c:Cl}(hi:h[i]?=some (.cells (clC c) .live)):aJ C.P h 39 (.ptr i 0)=some (ai c):=by simp[aJ,hi,aY,a37,s37,clC,ai,faC]
theorem oy(c:Cl):iT [ai c]=some [ai c]:=rfl
theorem jF(c:Cl):short (ai c)=true:=rfl
def ZU(h:H) (v:AV) (l:List Fa):Prop:=(l=[]/\v=.isl [] .full)\/∃id,v=.msl id 0 3 l.length none/\h[id]?=some (.cells (dO l) .live)
theorem QT(a:Fa) (l:List Fa) (hl:(a::l).length<=10000):Go.V.Call C 49 [bK (a::l)] []=some (.msl 0 0 3 (a::l).length none,[.cells (dO (a::l)) .live]):=by
 refine wD rfl func49 rfl k_ (by simp[f49]) λR c=>?_
 have b:=gS (a::l);have d:jU C.P .eql 29 (.tmp 3) (.const (.slice none 0 0)) (bK (a::l)) (.isl [] .full)=some (.bool false):=by simp[jU,bK,fI,cn,qS,yU,AX,Ms,u33,vm]
 have e:cQ C.P [] 29 0 []=some (.isl [] .full,[]):=cY u33 s35 z35 rfl o_ rfl rfl rfl s_ rfl;have f:bi C.P true [] 29 (.isl [] .full) (bK (a::l))=some (.msl 0 0 3 (a::l).length none,[.cells (dO (a::l)) .live]):=by
  have g:jh [] 3 (.isl ((a::l).map aQ) .unk)=some (dO (a::l),(a::l).length):=by simp only[jh,b,if_true,dO,oK,ax,aQ,am]
  simp only[bi,ey,dC,if_false,aT,de,u33,s35,b35,z35,bK,g];have h:0<(a::l).length:=s_;generalize (a::l).length=m at hl h;have i:¬m=0:=o_;have j:m*41<=35184372088832:=o_;simp[iN,i,j]
 simp[go_sem,dP,d,e,f];refine c _ _ _ (.inr rfl) ⟨.msl 0 0 3 (a::l).length none,by simp[ag,cO,f49,go_sem],rfl⟩
theorem FV{f:FuncId}{h:H}{args args':LA}(hb:dl C.P f=true) (hm:C.mode f=.ownM) (hd:iT args=some args') (hs:args.all short=true) (hl:args.length<90000)
  {id len sz:Nat}{h1:H}{cs:LA}(hsz:1<sz) (hc:Go.V.Call C f args' []=some (.msl id 0 sz len none,h1)) (hid:h1[id]?=some (.cells cs .live)) (hcs:iT cs=some cs) (hsh:cs.all short=true) (hcl:cs.length<=90000) (hlen:len*sz<=cs.length) :
  aj C h (.func f []) (some args)=some (.msl h.length 0 sz len none,h++[.cells cs .live]):=by
 have⟨a,b⟩:=dM (h:=h) hd hs cM (by unfold cM;omega);simp only[aj,hb,if_true,br];unfold dJ;rw[hm];dsimp only;rw[b];simp only[Go.V.freeze,a];rw[hc];dsimp only;unfold kS;dsimp only;have c:=(dM (h:=kJ h1 id) hcs hsh cM (by unfold cM;omega)).1;have d:iw C.P .ownM h1 h (.msl id 0 sz len none)=none:=by simp only[iw,nY,hid];rw[if_neg o_]
 rw[d];simp only[iy,kP,hid,c];rw[if_pos ⟨o_,o_⟩]
theorem RH{h:H}{v:AV}{l:List Fa}(f:Fa) (r:ZU h v l) (hl:l.length<=10000):∃id h',bi C.P true h 29 v (.isl [aQ f] .full)=some (.msl id 0 3 (l.length+1) none,h')/\h'[id]?=some (.cells (dO (l++[f])) .live)/\Keep h h' (cG v):=by
 have a:=gS [f];have d:jh h 3 (.isl [aQ f] .full)=some (faC f,1):=by simp only[aM,bM]at a;simp only[jh,a,if_true];simp[aQ,am]
 have b:dO (l++[f])=dO l++faC f:=by simp[dO]
 rcases r with⟨rfl,rfl⟩|⟨id,rfl,c⟩
 ·refine⟨h.length,h++[.cells (faC f) .live],?_,by rw[b];simp[dO],.append _ _ _⟩;simp only[bi,ey,dC,if_false,aT,de,u33,s35,b35,z35,d];simp[iN]
 have g:=qA l;refine⟨h.length,h.set id (.cells (dO l) .dead)++[.cells (dO l++faC f) .live],?_,by rw[b,ap s_];simp,?_⟩
 ·simp only[bi,ey,dC,if_false,aT,de,u33,s35,b35,z35,d,c];rw[if_neg s_];rw[if_neg s_,if_pos ⟨trivial,trivial,o_,o_⟩,bJ o_]
 exact⟨s_,λj i k=>by rw[aH (by simpa using i),aC (λe=>k (by simp[cG,e]))]⟩
theorem eI(h:H) (f:Fa):cQ C.P h 29 1 [(0,aQ f)]=some (.isl [aQ f] .full,h):=cY u33 s35 z35 rfl o_ rfl rfl rfl s_ rfl
theorem xC:∀l:List Fa,io 3 l.length (dO l)=l.map aQ
 |[]=>rfl
 |a::l=>by have:=xC l;rw[kr];simp only[aL,io,cV,cN,lV,qF,lZ,eH,aM,this,aQ,faC]
theorem nD{cs:LA}:∀(h:H) (i:Nat),h[i]?=some (.cells cs .live)->(bo h)[i]?=some (.cells cs .frozen)
 |[],i,e=>by cases e
 |o::r,0,e=>by
  have:o=.cells cs .live:=by simpa using e
  subst this;rfl
 |o::r,i+1,e=>by
  have a:r[i]?=some (.cells cs .live):=by simpa using e
  have:=nD r i a;cases o with
  |cells c st=>cases st<;>simpa[bo]using this
  |_=>simpa[bo]using this
theorem uK{h:H}{id:Nat}{l:List Fa}(hid:h[id]?=some (.cells (dO l) .live)) (hl:l.length<=20000):eW (bo h) cM (.msl id 0 3 l.length none)=some (bK l):=by have a:=qA l;have⟨b,_⟩:=dM (h:=bo h) (yp l) (wL l) 999999 o_;have c:(bo h)[id]?=some (.cells (dO l) .frozen):=nD h id hid;have:cM=999999+1:=rfl;rw[this];simp only[eW,c,b];rw[if_pos o_,eH,xC];rfl
def aN(c:Cl):List Fa:=c.body++[c.head]
theorem LG{C:Cfg}{cf:FuncId}{R:Ex->PT->H->Prop}{k:List It}{s s':PT}{h h':H}(id:Nat) (ops:Array Oper) (hm:C.mix cf id=true) (hx:xi C (Go.V.Call C) cf ops s h=some (s',h')) (hk:N C cf R k s' h'):W C cf R (.region id ops true) k s h:=
 ⟨.normal,s',h',by rw[Ra id ops hm,hx],hk⟩
end Go.VZ
namespace Go.V
open Go
def MX(C:Cfg) (cf:FuncId) (ops:Array Oper) (base:Nat) (K:PT->H->List FP->Prop):Nat->List Oper->PT->H->List FP->Prop
 |_,[],s,h,F=>K s h F
 |i,o::l,s,h,F=>∃v h2 f,gz C (Call C) cf ops base i o s h=some (v,h2,f)/\MX C cf ops base K (i+1) l (kU s o.dst v) h2 (F++[f])
theorem R7{C:Cfg}{cf:FuncId}{ops:Array Oper}{base:Nat}{K:PT->H->List FP->Prop}{s0:PT}{h0:H}:∀(l:List Oper) (i:Nat) (s:PT) (h:H) (F:List FP),i+l.length=ops.size->ops.toList.drop i=l ->
  pC C (Call C) cf ops base i s0 h0=some (s,h,F)->MX C cf ops base K i l s h F->∃s' h' F',pC C (Call C) cf ops base ops.size s0 h0=some (s',h',F')/\K s' h' F'
 |[],i,s,h,F,hi,_,hs,hm=>⟨s,h,F,by rw[<-hi];exact hs,hm⟩
 |o::l,i,s,h,F,hi,hd,hs,⟨v,h2,f,e,hm⟩=>by
  have hlt:i<ops.size:=by simp only[aL]at hi;omega
  have a:ops[i]?=some o:=by have:=congrArg (λl=>l[0]?) hd;simpa using this
  refine R7 l (i+1) _ _ _ (by simp only[aL]at hi;omega) (by rw[<-List.tail_drop,hd];rfl) ?_ hm;simp only[pC,hs,a,e]
def it:AV->List Nat
 |.ptr id _=>[id]
 |_=>[]
section
variable {C:Cfg}{cf:FuncId}{ops:Array Oper}{base:Nat}{K:PT->H->List FP->Prop}{i:Nat}{l:List Oper}{s:PT}{h:H}{F:List FP}
theorem Kf{o:Oper}(ha:eP o=false) (hl:nx o=false):lT C s h o=some ([],false):=by
 unfold lT;rw[if_neg (by rw[ha];simp)];unfold nx at hl;split
 ·rename_i e;rw[e]at hl;cases hl
 rfl
theorem OT{o:Oper}(v:AV) (hg:o.guard=none) (ha:eP o=false) (hl:nx o=false) (hp:dE h[base+i]?=true) (hv:opN C.P s o=some v) (hm:v.mv h.length (base+i)=v)
  (hk:MX C cf ops base K (i+1) l (kU s o.dst v) h (F++[([],[])])):MX C cf ops base K i (o::l) s h F:=by
 refine⟨v,h,([],[]),?_,hk⟩;unfold gz;rw[if_pos (by simp[Region.wanted,hg]),Kf ha hl,wU ha hl,hv];dsimp only;rw[if_pos ⟨o_,rfl,hp⟩,hm];rfl
theorem bE{d:Tmp}{op:Op}{ty:TypeId}{p:String}{af:Array Edge}(v:AV) (ha:eP ⟨some d,op,ty,p,af,none⟩=false) (hl:nx ⟨some d,op,ty,p,af,none⟩=false) (hp:dE h[base+i]?=true) (hv:opN C.P s ⟨some d,op,ty,p,af,none⟩=some v) (hm:v.mv h.length (base+i)=v)
  (hk:MX C cf ops base K (i+1) l (s.set d v) h (F++[([],[])])):MX C cf ops base K i (⟨some d,op,ty,p,af,none⟩::l) s h F:=OT v rfl ha hl hp hv hm hk
theorem cR{d:Tmp}{t ty:TypeId}{x:Operand}{p:String}{af:Array Edge}(a v:AV) (hx:ev s x=some a) (hv:aJ C.P h t a=some v) (hn:(it a).contains (base+i)=false) (hp:dE h[base+i]?=true) (hm:v.mv h.length (base+i)=v)
  (hk:MX C cf ops base K (i+1) l (s.set d v) h (F++[(it a,[])])):MX C cf ops base K i (⟨some d,.load t x,ty,p,af,none⟩::l) s h F:=by
 refine⟨v,h,(it a,[]),?_,hk⟩;have b:lT C s h ⟨some d,.load t x,ty,p,af,none⟩=some (it a,false):=by simp only[lT,eP,aT,if_false,hx];cases a<;>rfl
 unfold gz;rw[if_pos (by simp[Region.wanted]),b,AI rfl];simp only[hx,hv];rw[if_pos ⟨o_,hn,hp⟩,hm];rfl
theorem og(p:Nat) (h:H):fin p [] h h=h:=by apply dB;intro j;rw[oP];simp
theorem jK{p:Nat}{h:H}{y:VObj}(hp:p<h.length):fin p [] h (h++[y])=h.set p (y.mv h.length p):=by
 apply dB;intro j;rw[oP,fz];by_cases e:p=j
 ·subst e;simp[hp]
 simp[e,show ¬j=p from λh=>e h.symm]
theorem oD{p id:Nat}{h:H}{z:VObj}(hp:id≠p):fin p [id] h (h.set id z)=h.set id (z.mv h.length p):=by
 apply dB;intro j;rw[oP];by_cases e:id=j
 ·subst e;by_cases b:id<h.length
  ·simp[b,hp]
  simp[b]
 by_cases c:j=p
 ·subst c;have d:(h.set id z)[h.length]?=none:=s_;rw[d,aC e (a:=z.mv h.length j)];simp
 simp[e,c,show ¬j=id from λh=>e h.symm]
theorem KW{h:H}{p:Nat}(hp:dE h[p]?=true):p<h.length:=by
 cases e:h[p]? with
 |none=>rw[e]at hp;cases hp
 |some x=>exact(aB.1 e).1
theorem qc{d:Tmp}{ty:TypeId}{p:String}{af:Array Edge}{f:FuncId}{args:List Operand}{at_:Array TypeId}(al:LA) (v:AV) (hb:dl C.P f=true) (hmd:C.mode f=.strip) (hx:evs s args=some al) (hr:cP h cM al=[])
  (hc:aj C h (.func f []) (some al)=some (v,h)) (hp:dE h[base+i]?=true) (hm:v.mv h.length (base+i)=v)
  (hk:MX C cf ops base K (i+1) l (s.set d v) h (F++[([base+i],[base+i])])):MX C cf ops base K i (⟨some d,.call {callee:=.value (.func f),args:=args.toArray,argTypes:=at_},ty,p,af,none⟩::l) s h F:=by
 refine⟨v,h,([base+i],[base+i]),?_,hk⟩;have a:lT C s h ⟨some d,.call {callee:=.value (.func f),args:=args.toArray,argTypes:=at_},ty,p,af,none⟩=some ([],true):=by simp only[lT,eP,if_true,hx,ev,hb,hmd,br,hr]
 have b:opV C (Call C) cf s h ⟨some d,.call {callee:=.value (.func f),args:=args.toArray,argTypes:=at_},ty,p,af,none⟩=some (v,h):=by rw[jr rfl,<-hc];simp only[opA,hx,ev,aj]
 unfold gz;rw[if_pos (by simp[Region.wanted]),a,b];dsimp only;rw[if_pos ⟨o_,rfl,hp⟩,hm,if_pos rfl,if_pos rfl,og]
theorem BA{o:Oper}(v:AV) (y:VObj) (hg:o.guard=none) (hf:lT C s h o=some ([],true)) (ho:opV C (Call C) cf s h o=some (v,h++[y])) (hp:dE h[base+i]?=true)
  (hk:MX C cf ops base K (i+1) l (kU s o.dst (v.mv h.length (base+i))) (h.set (base+i) (y.mv h.length (base+i))) (F++[([base+i],[base+i])])):MX C cf ops base K i (o::l) s h F:=by
 refine⟨v.mv h.length (base+i),h.set (base+i) (y.mv h.length (base+i)),([base+i],[base+i]),?_,hk⟩;unfold gz;rw[if_pos (by simp[Region.wanted,hg]),hf,ho];dsimp only;rw[if_pos ⟨s_,rfl,hp⟩,if_pos rfl,if_pos rfl,jK (KW hp)]
theorem je{d:Tmp}{t ty:TypeId}{p:String}{af:Array Edge}(z:AV) (hz:iV C.P t=some z) (hp:dE h[base+i]?=true)
  (hk:MX C cf ops base K (i+1) l (s.set d (.ptr (base+i) 0)) (h.set (base+i) ((VObj.cells z.cells .live).mv h.length (base+i))) (F++[([base+i],[base+i])])):MX C cf ops base K i (⟨some d,.alloc t,ty,p,af,none⟩::l) s h F:=by
 refine BA (.ptr h.length 0) (.cells z.cells .live) rfl rfl ?_ hp ?_
 ·rw[jr rfl];simp only[opA,hz]
 have:(AV.ptr h.length 0).mv h.length (base+i)=.ptr (base+i) 0:=by simp[AV.mv]
 rw[this];exact hk
theorem iA{t ty:TypeId}{a x:Operand}{p:String}{af:Array Edge}(id off:Nat) (v:AV) (z:VObj) (hx:ev s a=some (.ptr id off)) (hv:ev s x=some v) (hs:ah C.P h t (.ptr id off) v=some (h.set id z)) (hn:id≠base+i) (hp:dE h[base+i]?=true)
  (hk:MX C cf ops base K (i+1) l (s) (h.set id (z.mv h.length (base+i))) (F++[([base+i,id],[base+i,id])])):MX C cf ops base K i (⟨none,.store t a x,ty,p,af,none⟩::l) s h F:=by
 refine⟨AV.undef,h.set id (z.mv h.length (base+i)),([base+i,id],[base+i,id]),?_,hk⟩;have b:lT C s h ⟨none,.store t a x,ty,p,af,none⟩=some ([id],true):=by simp only[lT,eP,if_true,hx]
 have c:opV C (Call C) cf s h ⟨none,.store t a x,ty,p,af,none⟩=some (AV.undef,h.set id z):=by rw[jr rfl];simp only[opA,hx,hv,hs]
 unfold gz;rw[if_pos (by simp[Region.wanted]),b,c];dsimp only;rw[if_pos ⟨s_,by simpa using λe=>hn e.symm,hp⟩,if_pos rfl,if_pos rfl,oD hn];rfl
end
end Go.V
namespace Go.VZ
open Go Go.V Go.Proofs Tryz TL
theorem xQ{C:Cfg}{cf:FuncId}{R:Ex->PT->H->Prop}{k:List It}{s:PT}{h:H}(id:Nat) (ops:Array Oper) (hm:C.mix cf id=true) (ht:zY ops=true)
  (hx:MX C cf ops h.length (λs' h' F=>sq ops F=true/\N C cf R k s' h') 0 ops.toList s (h++List.replicate ops.size .void) []):W C cf R (.region id ops true) k s h:=by
 have⟨s',h',F,e,a,b⟩:=R7 ops.toList 0 s _ [] s_ rfl rfl hx;exact LG id ops hm (by simp only[xi,ht,if_true,e,a]) b
end Go.VZ
namespace Go.VZ
open Go Go.V Go.Proofs Tryz TL
theorem eN(i k:Nat) (t:T):(enc t).mv i k=enc t:=by cases t;simp only[enc,AV.mv,AV.mvs]
theorem pR(i k:Nat) (t:T):VObj.mv i k (.cells (enc t).cells .live)=.cells (enc t).cells .live:=by rw[aq];rfl
structure Pl (h H0:H) (n:Nat):Prop where
 len:H0.length=h.length+n
 old:∀j,j<h.length->H0[j]?=h[j]?
 void:∀i,i<n->H0[h.length+i]?=some .void
theorem Pl.mk'(h:H) (n:Nat):Pl h (h++List.replicate n .void) n:=⟨s_,λj a=>aH a,λi b=>by rw[ap o_];simp[b]⟩
theorem Pl.isV{h H0:H}{n:Nat}(p:Pl h H0 n){i:Nat}(hi:i<n):dE H0[h.length+i]?=true:=by rw[p.void i hi];rfl
theorem Pl.get{h H0:H}{n:Nat}(p:Pl h H0 n){j:Nat}{o:VObj}(hj:h[j]?=some o):H0[j]?=some o:=by rw[p.old j (aB.1 hj).1];exact hj
theorem xa{i j o n k:Nat}(h:i<j) (hn:j<=n):(AV.ptr i o).mv n k=.ptr i o:=by simp[AV.mv];omega
theorem dg{H0:H}{a b:Nat}{y:VObj}(hb:dE H0[b]?=true) (h:a≠b):dE (H0.set a y)[b]?=true:=by rw[aC h];exact hb
theorem sg{h:H}{i:Nat}(t:T) (hi:h[i]?=some (.cells (enc t).cells .live)):aJ C.P h 41 (.ptr i 0)=some (enc t):=by rw[aq]at hi;simp[aJ,hi,aY,a25,s25];rw[bV]
theorem dW{i o k:Nat}(h:i≠k):(it (.ptr i o)).contains k=false:=by simpa[it]using λe=>h e.symm
end Go.VZ
namespace Go.V
open Go
section
variable {C:Cfg}{cf:FuncId}{ops:Array Oper}{base:Nat}{K:PT->H->List FP->Prop}{i:Nat}{l:List Oper}{s:PT}{h:H}{F:List FP}
theorem OU{o:Oper}(T:List Nat) (v:AV) (h' g:H) (hg:o.guard=none) (hf:lT C s h o=some (T,true)) (ho:opV C (Call C) cf s h o=some (v,h')) (hl:h'.length<=h.length+1) (hT:T.contains (base+i)=false) (hp:dE h[base+i]?=true)
  (hfin:fin (base+i) T h h'=g) (hk:MX C cf ops base K (i+1) l (kU s o.dst (v.mv h.length (base+i))) g (F++[((base+i)::T,(base+i)::T)])):MX C cf ops base K i (o::l) s h F:=by
 refine⟨v.mv h.length (base+i),g,((base+i)::T,(base+i)::T),?_,hk⟩;unfold gz;rw[if_pos (by simp[Region.wanted,hg]),hf,ho];dsimp only;rw[if_pos ⟨hl,hT,hp⟩,if_pos rfl,if_pos rfl,hfin]
theorem B4{d:Tmp}{ty:TypeId}{p:String}{af:Array Edge}{f:FuncId}{args:List Operand}{at_:Array TypeId}{al:LA}(hb:dl C.P f=true) (hmd:C.mode f=.strip\/C.mode f=.ownM) (hx:evs s args=some al) (hr:cP h cM al=[]) :
  lT C s h ⟨some d,.call {callee:=.value (.func f),args:=args.toArray,argTypes:=at_},ty,p,af,none⟩=some ([],true):=by
 rcases hmd with e|e<;>simp only[lT,eP,if_true,hx,ev,hb,e,br,hr]
theorem EZ{d:Tmp}{ty:TypeId}{p:String}{af:Array Edge}{f:FuncId}{args:List Operand}{at_:Array TypeId}{al:LA}{v:AV}{h':H}(hx:evs s args=some al) (hc:aj C h (.func f []) (some al)=some (v,h')) :
  opV C (Call C) cf s h ⟨some d,.call {callee:=.value (.func f),args:=args.toArray,argTypes:=at_},ty,p,af,none⟩=some (v,h'):=by
 rw[jr rfl,<-hc];simp only[opA,hx,ev,aj]
theorem BB{d:Tmp}{ty:TypeId}{p:String}{af:Array Edge}{f:FuncId}{args:List Operand}{at_:Array TypeId}(al:LA) (v:AV) (y:VObj) (hb:dl C.P f=true) (hmd:C.mode f=.strip\/C.mode f=.ownM) (hx:evs s args=some al) (hr:cP h cM al=[])
  (hc:aj C h (.func f []) (some al)=some (v,h++[y])) (hp:dE h[base+i]?=true)
  (hk:MX C cf ops base K (i+1) l (s.set d (v.mv h.length (base+i))) (h.set (base+i) (y.mv h.length (base+i))) (F++[([base+i],[base+i])])):MX C cf ops base K i (⟨some d,.call {callee:=.value (.func f),args:=args.toArray,argTypes:=at_},ty,p,af,none⟩::l) s h F:=
 BA v y rfl (B4 hb hmd hx hr) (EZ hx hc) hp hk
theorem uG{d:Tmp}{ty:TypeId}{p:String}{af:Array Edge}{f:FuncId}{args:List Operand}{at_:Array TypeId}(al:LA) (v:AV) (hb:dl C.P f=true) (hmd:C.mode f=.strip\/C.mode f=.ownM) (hx:evs s args=some al) (hr:cP h cM al=[])
  (hc:aj C h (.func f []) (some al)=some (v,h)) (hp:dE h[base+i]?=true)
  (hk:MX C cf ops base K (i+1) l (s.set d (v.mv h.length (base+i))) h (F++[([base+i],[base+i])])):MX C cf ops base K i (⟨some d,.call {callee:=.value (.func f),args:=args.toArray,argTypes:=at_},ty,p,af,none⟩::l) s h F:=
 OU [] v h h rfl (B4 hb hmd hx hr) (EZ hx hc) o_ rfl hp (og _ _) hk
theorem gH{d:Tmp}{t ty:TypeId}{len:Nat}{parts:List (Nat × Operand)}{p:String}{af:Array Edge}(ps:List (Nat × AV)) (v:AV) (hx:fT s parts=some ps) (hr:cP h cM (ps.map (·.2))=[])
  (hc:cQ C.P h t len ps=some (v,h)) (hp:dE h[base+i]?=true)
  (hk:MX C cf ops base K (i+1) l (s.set d (v.mv h.length (base+i))) h (F++[([base+i],[base+i])])):MX C cf ops base K i (⟨some d,.buildSlice t len parts.toArray,ty,p,af,none⟩::l) s h F:=by
 refine OU [] v h h rfl ?_ ?_ o_ rfl hp (og _ _) hk
 ·simp only[lT,eP,if_true,hx,hr]
 rw[jr rfl];simp only[opA,hx,hc]
theorem dq{d:Tmp}{ty t:TypeId}{a b:Operand}{p:String}{af:Array Edge}(va vb v:AV) (h' g:H) (hx:ev s a=some va) (hy:ev s b=some vb) (hc:bi C.P (C.wr cf d) h t va vb=some (v,h')) (hl:h'.length<=h.length+1)
  (hT:(cF va++gZ va++cF vb).contains (base+i)=false) (hp:dE h[base+i]?=true) (hfin:fin (base+i) (cF va++gZ va++cF vb) h h'=g)
  (hk:MX C cf ops base K (i+1) l (s.set d (v.mv h.length (base+i))) g (F++[((base+i)::(cF va++gZ va++cF vb),(base+i)::(cF va++gZ va++cF vb))])):MX C cf ops base K i (⟨some d,.call {callee:=.builtin .append,args:=#[a,b],argTypes:=#[t,t]},ty,p,af,none⟩::l) s h F:=by
 refine OU _ v h' g rfl ?_ ?_ hl hT hp hfin hk
 ·simp only[lT,eP,if_true,hx,hy]
 rw[jr rfl];simp only[opA,hx,hy,wrO,hc,if_true]
theorem td{p id:Nat}{h:H}{z y:VObj}(hp:p<h.length) (hn:id≠p):fin p [id] h (h.set id z++[y])=(h.set id (z.mv h.length p)).set p (y.mv h.length p):=by
 apply dB;intro j;rw[oP,fz,fz];by_cases e:p=j
 ·subst e;simp[hp]
 by_cases a:id=j
 ·subst a;by_cases b:id<h.length
  ·simp[e,b,hn,aH]
  simp[e,b,hn]
 simp[e,a,show ¬j=p from λh=>e h.symm,show ¬j=id from λh=>a h.symm]
end
end Go.V
namespace Go.VZ
open Go Go.V Go.Proofs Tryz TL
theorem wb(l:LA) (h:∀a∈l,∀i k,a.mv i k=a) (i k:Nat):AV.mvs i k l=l:=tN λ_j a b=>h a (bQ b) i k
theorem Gq(l:List Fa) (i k:Nat):AV.mvs i k (dO l)=dO l:=wb _ (by
 intro a b i k;simp only[dO,bR]at b;have⟨f,_,b⟩:=b;simp only[faC,aV,dN,or_false]at b;rcases b with rfl|rfl|rfl<;>rfl) i k
theorem lI(l:List Fa) (i k:Nat):VObj.mv i k (.cells (dO l) .live)=.cells (dO l) .live:=by simp[VObj.mv,Gq]
theorem I3(h:H):aj C h (.func 49 []) (some [bK []])=some (.isl [] .full,h):=by
 have b:=(dM (h:=h) (l:=[bK []]) (l':=[.isl [] .unk]) rfl rfl cM (by simp[cM]))
 have a:dl C.P 49=true:=k_;simp only[aj,a,if_true,br];unfold dJ;rw[show C.mode 49=.ownM from rfl];dsimp only;rw[b.2];simp only[Go.V.freeze,b.1];have c:C.prim 49 [.isl [] .unk] []=some (.isl [] .full,[]):=by simp[C,prim,lG,cloneIds]
 have d:Go.V.Call C 49 [.isl [] .unk] []=some (.isl [] .full,[]):=kK (C:=C) (fn:=f49) func49 c;rw[d];rfl
theorem I4(a:Fa) (l:List Fa) (h:H) (hl:(a::l).length<=10000):aj C h (.func 49 []) (some [bK (a::l)])=some (.msl h.length 0 3 (a::l).length none,h++[.cells (dO (a::l)) .live]):=by have b:=qA (a::l);exact FV k_ rfl (args':=[bK (a::l)]) rfl rfl s_ o_ (QT a l hl) rfl (yp _) (wL _) o_ o_
theorem mN{s:PT}{x:Operand}{v:AV}(h:ev s x=some v) (hn:au v=true):fT s [(0,x)]=some [(0,v)]:=by simp[fT,h,hn]
theorem kH(h:H) (f:Fa):cP h cM [aQ f]=[]:=(dM (h:=h) (l:=[aQ f]) (l':=[aQ f]) rfl rfl cM (by simp[cM])).2
theorem pJ(h:H) (l:List Fa):cP h cM [bK l]=[]:=(dM (h:=h) (l:=[bK l]) (l':=[bK l]) rfl rfl cM (by simp[cM])).2
theorem OC(h:H) (f:Fa):bi C.P true h 29 (.isl [] .full) (.isl [aQ f] .full)=some (.msl h.length 0 3 1 none,h++[.cells (dO [f]) .live]):=by
 have⟨id,c,e,_⟩:=RH (h:=h) (v:=.isl [] .full) (l:=[]) f (.inl ⟨rfl,rfl⟩) s_;have a:=gS [f];have b:jh h 3 (.isl [aQ f] .full)=some (faC f,1):=by simp only[aM,bM]at a;simp only[jh,a,if_true];simp[aQ,am]
 simp only[bi,ey,dC,if_false,aT,de,u33,s35,b35,z35,b];simp[iN,dO]
theorem OB{h:H}{id:Nat}{l:List Fa}(f:Fa) (hid:h[id]?=some (.cells (dO l) .live)) (hl:l.length<=10000):bi C.P true h 29 (.msl id 0 3 l.length none) (.isl [aQ f] .full)=some (.msl h.length 0 3 (l.length+1) none,h.set id (.cells (dO l) .dead)++[.cells (dO (l++[f])) .live]):=by
 have a:=gS [f];have c:jh h 3 (.isl [aQ f] .full)=some (faC f,1):=by simp only[aM,bM]at a;simp only[jh,a,if_true];simp[aQ,am]
 have d:=qA l;have b:dO (l++[f])=dO l++faC f:=by simp[dO]
 simp only[bi,ey,dC,if_false,aT,de,u33,s35,b35,z35,c,hid];rw[if_neg s_,if_neg s_,if_pos ⟨trivial,trivial,o_,o_⟩,bJ o_,b]
theorem Kj(c:Cl) (hl:c.body.length<=10000):az C 77 [ai c]=some (bK (aN c)):=by
 refine bL func77 rfl λR r=>?_
 simp[go_sem,fk];refine xQ 1 _ (by rw[gM];decide) k_ ?_;show MX C 77 _ 1 _ 0 _ _ _ _;generalize k:[VObj.cells (clC c) .live]++List.replicate _ VObj.void=H0;have d:Pl [.cells (clC c) .live] H0 8:=k▸Pl.mk' _ 8;have b:=d.len;clear k;have o:H0[0]?=some (.cells (clC c) .live):=d.get rfl;have s:=jn o;have t:=lQ o;simp only[aL,bB,bu]at b d;refine bE (.ptr 0 0) rfl rfl (d.isV (i:=0) d_) (by simp[opN,go_sem]) (xa o_ (aP _)) ?_;refine cR (.ptr 0 0) (bK c.body) g_ s (dW s_) (d.isV (i:=1) d_) rfl ?_;rcases c with⟨body,head⟩
 cases body with
 |nil=>
  refine uG (args:=[.tmp 4]) [bK []] (.isl [] .full) k_ (.inr rfl) g_ (pJ _ _) (I3 _) (d.isV (i:=2) d_) ?_;refine bE (.ptr 0 1) rfl rfl (d.isV (i:=3) d_) (by simp[opN,go_sem]) (xa o_ (aP _)) ?_;refine cR (.ptr 0 1) (aQ head) g_ t (dW s_) (d.isV (i:=4) d_) rfl ?_;refine gH (parts:=[(0,.tmp 7)]) [(0,aQ head)] (.isl [aQ head] .full) (mN g_ rfl) (kH _ _) (eI _ _) (d.isV (i:=5) d_) ?_;refine dq (.isl [] .full) (.isl [aQ head] .full) _ _ _ (by simp[go_sem];rfl) (by simp[go_sem];rfl) (by rw[wrC];exact OC _ _) s_ rfl (d.isV (i:=6) d_) (jK o_) ?_;refine bE (.msl 7 0 3 1 none) rfl rfl ?_ (by simp[opN,go_sem,AV.mv]) (by simp[AV.mv,b]) ?_
  ·rw[aC s_];exact d.isV (i:=7) d_
  refine⟨k_,?_⟩;simp[go_sem];refine r ⟨.msl 7 0 3 1 none,by simp[ag,cO,f77,go_sem],?_⟩;rw[lI];exact uK (l:=[head]) (by simp[b]) s_
 |cons a l=>
  have u:=I4 a l H0 hl;refine BB (args:=[.tmp 4]) [bK (a::l)] _ _ k_ (.inr rfl) g_ (pJ _ _) u (d.isV (i:=2) d_) ?_;rw[lI,show(AV.msl H0.length 0 3 (a::l).length none).mv H0.length (1+2)=.msl 3 0 3 (a::l).length none by simp[AV.mv]];obtain⟨j,e⟩:∃g,g=H0.set (1+2) (.cells (dO (a::l)) .live):=⟨_,rfl⟩
  have p:j[3]?=some (.cells (dO (a::l)) .live):=by rw[e];simp[b]
  have f:j.length=9:=by rw[e];simp[b]
  have m:∀i,i<8->i≠2->dE j[1+i]?=true:=λi v x=>by rw[e];exact dg (d.isV v) o_
  have w:j[0]?=some (.cells (clC ⟨a::l,head⟩) .live):=by rw[e,aC s_];exact o
  have q:=lQ w;rw[<-e];refine bE (.ptr 0 1) rfl rfl (m 3 d_ d_) (by simp[opN,go_sem]) (xa (n:=j.length) o_ (aP _)) ?_;refine cR (.ptr 0 1) (aQ head) g_ q (dW s_) (m 4 d_ d_) rfl ?_;refine gH (parts:=[(0,.tmp 7)]) [(0,aQ head)] (.isl [aQ head] .full) (mN g_ rfl) (kH _ _) (eI _ _) (m 5 d_ d_) ?_;refine dq (.msl 3 0 3 (a::l).length none) (.isl [aQ head] .full) _ _ _ g_ (by simp[go_sem];rfl) (by rw[wrC];exact OB _ p hl) s_ (by simp[cF,gZ]) (m 6 d_ d_) (td o_ s_) ?_;refine bE (.msl 7 0 3 (l.length+2) none) rfl rfl ?_ (by simp[opN,go_sem,AV.mv]) (by simp[AV.mv,f]) ?_
  ·rw[aC s_,aC s_];exact m 7 d_ d_
  refine⟨by simp[it,cF,gZ];kernel_rfl,?_⟩;simp[go_sem];refine r ⟨.msl 7 0 3 (l.length+2) none,by simp[ag,cO,f77,go_sem],?_⟩;rw[lI];have:=uK (h:=(j.set 3 (VObj.mv j.length (1+6) (.cells (dO (a::l)) .dead))).set (1+6) (.cells (dO (a::l++[head])) .live)) (id:=7) (l:=a::l++[head]) (by simp[f]) (by simp at hl ⊢;omega);simpa[aN]using this
theorem Tn(c:Cl) (hl:c.body.length<=10000) (h:H):aj C h (.func 77 []) (some [ai c])=some (bK (aN c),h):=an (oy c) (by simp[jF]) s_ (Kj c hl)
theorem Kk(c:Cl) (hl:c.body.length<=10000):az C 25 [ai c]=some (bK (aN c)):=by
 refine bL func25 rfl λR r=>?_
 simp[go_sem,fk];refine xQ 1 _ (by rw[gM];decide) k_ ?_;show MX C 25 _ 1 _ 0 _ _ _ _;generalize k:[VObj.cells (clC c) .live]++List.replicate _ VObj.void=H0;have d:Pl [.cells (clC c) .live] H0 8:=k▸Pl.mk' _ 8;have b:=d.len;clear k;have o:H0[0]?=some (.cells (clC c) .live):=d.get rfl;have s:=jn o;have t:=lQ o;simp only[aL,bB,bu]at b d;refine bE (.ptr 0 0) rfl rfl (d.isV (i:=0) d_) (by simp[opN,go_sem]) (xa o_ (aP _)) ?_;refine cR (.ptr 0 0) (bK c.body) g_ s (dW s_) (d.isV (i:=1) d_) rfl ?_;rcases c with⟨body,head⟩
 cases body with
 |nil=>
  refine uG (args:=[.tmp 4]) [bK []] (.isl [] .full) k_ (.inr rfl) g_ (pJ _ _) (I3 _) (d.isV (i:=2) d_) ?_;refine bE (.ptr 0 1) rfl rfl (d.isV (i:=3) d_) (by simp[opN,go_sem]) (xa o_ (aP _)) ?_;refine cR (.ptr 0 1) (aQ head) g_ t (dW s_) (d.isV (i:=4) d_) rfl ?_;refine gH (parts:=[(0,.tmp 7)]) [(0,aQ head)] (.isl [aQ head] .full) (mN g_ rfl) (kH _ _) (eI _ _) (d.isV (i:=5) d_) ?_;refine dq (.isl [] .full) (.isl [aQ head] .full) _ _ _ (by simp[go_sem];rfl) (by simp[go_sem];rfl) (by rw[wrC];exact OC _ _) s_ rfl (d.isV (i:=6) d_) (jK o_) ?_;refine bE (.msl 7 0 3 1 none) rfl rfl ?_ (by simp[opN,go_sem,AV.mv]) (by simp[AV.mv,b]) ?_
  ·rw[aC s_];exact d.isV (i:=7) d_
  refine⟨k_,?_⟩;simp[go_sem];refine r ⟨.msl 7 0 3 1 none,by simp[ag,cO,f25,go_sem],?_⟩;rw[lI];exact uK (l:=[head]) (by simp[b]) s_
 |cons a l=>
  have u:=I4 a l H0 hl;refine BB (args:=[.tmp 4]) [bK (a::l)] _ _ k_ (.inr rfl) g_ (pJ _ _) u (d.isV (i:=2) d_) ?_;rw[lI,show(AV.msl H0.length 0 3 (a::l).length none).mv H0.length (1+2)=.msl 3 0 3 (a::l).length none by simp[AV.mv]];obtain⟨j,e⟩:∃g,g=H0.set (1+2) (.cells (dO (a::l)) .live):=⟨_,rfl⟩
  have p:j[3]?=some (.cells (dO (a::l)) .live):=by rw[e];simp[b]
  have f:j.length=9:=by rw[e];simp[b]
  have m:∀i,i<8->i≠2->dE j[1+i]?=true:=λi v x=>by rw[e];exact dg (d.isV v) o_
  have w:j[0]?=some (.cells (clC ⟨a::l,head⟩) .live):=by rw[e,aC s_];exact o
  have q:=lQ w;rw[<-e];refine bE (.ptr 0 1) rfl rfl (m 3 d_ d_) (by simp[opN,go_sem]) (xa (n:=j.length) o_ (aP _)) ?_;refine cR (.ptr 0 1) (aQ head) g_ q (dW s_) (m 4 d_ d_) rfl ?_;refine gH (parts:=[(0,.tmp 7)]) [(0,aQ head)] (.isl [aQ head] .full) (mN g_ rfl) (kH _ _) (eI _ _) (m 5 d_ d_) ?_;refine dq (.msl 3 0 3 (a::l).length none) (.isl [aQ head] .full) _ _ _ g_ (by simp[go_sem];rfl) (by rw[wrC];exact OB _ p hl) s_ (by simp[cF,gZ]) (m 6 d_ d_) (td o_ s_) ?_;refine bE (.msl 7 0 3 (l.length+2) none) rfl rfl ?_ (by simp[opN,go_sem,AV.mv]) (by simp[AV.mv,f]) ?_
  ·rw[aC s_,aC s_];exact m 7 d_ d_
  refine⟨by simp[it,cF,gZ];kernel_rfl,?_⟩;simp[go_sem];refine r ⟨.msl 7 0 3 (l.length+2) none,by simp[ag,cO,f25,go_sem],?_⟩;rw[lI];have:=uK (h:=(j.set 3 (VObj.mv j.length (1+6) (.cells (dO (a::l)) .dead))).set (1+6) (.cells (dO (a::l++[head])) .live)) (id:=7) (l:=a::l++[head]) (by simp[f]) (by simp at hl ⊢;omega);simpa[aN]using this
theorem Tq(c:Cl) (hl:c.body.length<=10000) (h:H):aj C h (.func 25 []) (some [ai c])=some (bK (aN c),h):=an (oy c) (by simp[jF]) s_ (Kk c hl)
end Go.VZ
