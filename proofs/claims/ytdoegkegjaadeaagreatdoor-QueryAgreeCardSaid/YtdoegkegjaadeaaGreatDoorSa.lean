/- The value machine at the program of this seat: its ways of calling, facts on its types, terms as values. -/
import Derived.Test.YtdoegkegjaadeaaGreatDoorV25
import Derived.Test.YtdoegkegjaadeaaGreatDoorProg
import Derived.Test.YtdoegkegjaadeaaGreatDoorD0
import Derived.Test.YtdoegkegjaadeaaGreatDoorV34
namespace Go.VZ
open Go Go.V Go.Proofs TL
def md:FuncId→Go.V.Mode:=fun f=>if f=170∨f=85∨f=89∨f=93∨f=151∨f=152∨f=153∨f=154∨f=174∨f=217∨f=218∨f=158∨f=281∨f=282∨f=283∨f=321∨f=323∨f=347 then .openH else if f=11∨f=43∨f=193∨f=94∨f=96∨f=349 then .ownM else if f=348 then .openF else .strip
def wrt:FuncId→Tmp→Bool:=fun f _t=>decide (f=11)||decide (f=30)||decide (f=43)||decide (f=193)||decide (f=94)||decide (f=96)||decide (f=57)||decide (f=50)||decide (f=153)||decide (f=174)||decide (f=226)||decide (f=281)||decide (f=282)||decide (f=323)||decide (f=349)
def extL:List Value→Option Value
 | [.string a,.string b]=>some (.int .i64 (Lib.compareBytes a.data.toList b.data.toList))
 | _=>none
def ext:FuncId→Array Value→Option Value:=fun f vs=>if f=287 then extL vs.toList else none
theorem ext_ok (f:FuncId) (vs:Array Value) (v:Value) (w:World) (h:ext f vs=some v):(callFunc f vs).run Tryz.prog w=.ok (.value v) w:=by
 obtain ⟨l⟩:=vs
 unfold ext at h
 split at h
 ·rename_i e;subst e
  simp only at h
  unfold extL at h
  split at h<;>first | (cases h;done) | skip
  rename_i a b
  simp only[Option.some.injEq] at h;subst h
  rw[run_callFunc_extern Tryz.func287 (by kernel_rfl) (by kernel_rfl) (by kernel_rfl) (e:=Extern.BytealgCompare.compare) (by kernel_rfl)]
  rw[show (⟨[.string a,.string b]⟩:Array Value) = #[.string a,.string b] from rfl,Lib.run_compareString]
  rfl
 ·cases h
def mixL:List (Nat × Nat):=[(20,2),(24,10),(27,12),(30,3),(33,4),(34,3),(50,1),(51,17),(57,1),(103,1),(108,10),(129,1),(153,1),(157,1),(167,3),(169,3),(174,2),(230,4),(230,9),(230,10),(230,12),(230,14),(230,15),(231,6),(231,17),(263,2),(282,1),(323,1),(331,4),(400,2),(451,19),(451,32)]
def cloneIds:List Nat:=[11,18,23,43,96,193,349,361,435,460]
def primClone:FuncId→List AV→H→Option (AV × H):=fun f args h=>if cloneIds.contains f then (match args with | [.isl [] _]=>some (.isl [] .full,h) | _=>none) else none
mutual
def enc:T→AV
 | .mk k n s l=>.agg [.int .i64 k,.str n,.int .i64 s,.isl (encs l) .unk]
def encs:List T→List AV
 | []=>[]
 | t::l=>enc t::encs l
end
open Classical in
noncomputable def primSort (args:List AV) (h:H):Option (AV × H):=match args with
 | [.isl [] _,.func 112 []]=>some (.tuple [],h)
 | [.msl id 0 4 n none,.func 112 []]=>if e:∃l:List T,n=l.length∧l.length<1000000000∧(∀t∈l,t.size<4000000)∧h[id]?=some (.cells (l.flatMap fun t=>(enc t).cells) .live) then some (.tuple [],h.set id (.cells ((srt e.choose).flatMap fun t=>(enc t).cells) .live)) else none
 | _=>none
def srtB (l:List (T × T)):List (T × T):=l.mergeSort fun x y=>!decide (y.1.cmp x.1<0)
def cellsB (l:List (T × T)):List AV:=l.flatMap fun b=>(enc b.1).cells++(enc b.2).cells
open Classical in
noncomputable def primSortB (args:List AV) (h:H):Option (AV × H):=match args with
 | [.isl [] _,.func 324 []]=>some (.tuple [],h)
 | [.msl id 0 8 n none,.func 324 []]=>if e:∃l:List (T × T),n=l.length∧l.length<1000000000∧(∀b∈l,b.1.size<4000000∧b.2.size<4000000)∧l.Pairwise (fun a b=>a.1≠b.1)∧h[id]?=some (.cells (cellsB l) .live) then some (.tuple [],h.set id (.cells (cellsB (srtB e.choose)) .live)) else none
 | _=>none
def dec3 (n:Nat):List UInt8:=if n<10 then [UInt8.ofNat (48+n)] else if n<100 then [UInt8.ofNat (48+n/10),UInt8.ofNat (48+n%10)] else [UInt8.ofNat (48+n/100),UInt8.ofNat (48+n/10%10),UInt8.ofNat (48+n%10)]
def primItoa (args:List AV) (h:H):Option (AV × H):=match args with
 | [.int .i64 n]=>if 0≤n∧n<1000 then some (.str ⟨(dec3 n.toNat).toArray⟩,h) else none
 | _=>none
noncomputable def prim:FuncId→List AV→H→Option (AV × H):=fun f args h=>if f=20 then (match args with | []=>some (.bool true,h) | _=>none) else if f=7 then (match args with | []=>some (.bool true,h) | _=>none) else if f=217 then primSort args h else if f=158 then primSortB args h else if f=223 then primItoa args h else primClone f args h
noncomputable def C:Cfg:={P:=Tryz.prog,mode:=md,wr:=wrt,prim:=prim,ext:=ext,extOk:=ext_ok,mix:=fun f i=>decide ((f,i)∈mixL)}
@[go_sem] theorem wrC (f:FuncId) (t:Tmp):C.wr f t=(decide (f=11)||decide (f=30)||decide (f=43)||decide (f=193)||decide (f=94)||decide (f=96)||decide (f=57)||decide (f=50)||decide (f=153)||decide (f=174)||decide (f=226)||decide (f=281)||decide (f=282)||decide (f=323)||decide (f=349)):=(rfl)
@[go_sem] theorem mixC (f:FuncId) (i:Nat):C.mix f i=decide ((f,i)∈[(20,2),(24,10),(27,12),(30,3),(33,4),(34,3),(50,1),(51,17),(57,1),(103,1),(108,10),(129,1),(153,1),(157,1),(167,3),(169,3),(174,2),(230,4),(230,9),(230,10),(230,12),(230,14),(230,15),(231,6),(231,17),(263,2),(282,1),(323,1),(331,4),(400,2),(451,19),(451,32)]):=(rfl)
theorem u23:C.P.underlying 23=some (.slice 25):=Tryz.underlying23
theorem s3:sizeV C.P 3=some 1:=by kernel_rfl
theorem s9:sizeV C.P 9=some 1:=by kernel_rfl
theorem s23:sizeV C.P 23=some 1:=by kernel_rfl
theorem s25:sizeV C.P 25=some 4:=by kernel_rfl
theorem a3:isAggB C.P 3=some false:=by kernel_rfl
theorem a9:isAggB C.P 9=some false:=by kernel_rfl
theorem a23:isAggB C.P 23=some false:=by kernel_rfl
theorem a25:isAggB C.P 25=some true:=by kernel_rfl
attribute [go_sem] u23 s3 s9 s23 s25 a3 a9 a23 a25
theorem encs_map:∀l,encs l=l.map enc
 | []=>rfl
 | t::l=>by rw[encs,encs_map l];rfl
def terms (l:List T):AV:=.isl (l.map enc) .unk
theorem enc_eq (t:T):enc t=.agg [.int .i64 t.kind,.str t.name,.int .i64 t.sort,terms t.kids]:=by
 cases t;rw[enc,encs_map];rfl
theorem enc_cells (t:T):(enc t).cells=[.int .i64 t.kind,.str t.name,.int .i64 t.sort,terms t.kids]:=by rw[enc_eq];rfl
@[go_sem] theorem cells_agg (l:List AV):(AV.agg l).cells=l:=rfl
theorem len23 (es:List AV) (x:Ext):lenV C.P 23 (.isl es x)=some (.int .i64 es.length):=by simp[lenV,u23]
theorem idx23 (l:List T) (k:Nat) (hk:k<l.length) (x:Ext):indexAddrV C.P 23 (.isl (l.map enc) x) (.int .i64 k)=some (.iptr (enc l[k]) 0):=by
 simp[indexAddrV,u23,s25,enc_cells,hk]
theorem ld25 (t:T) (h:H):loadV C.P h 25 (.iptr (enc t) 0)=some (enc t):=by
 simp[loadV,cellsAt,a25,s25,enc_cells];rw[enc_eq]
end Go.VZ

/- Sizes: the program's and the document's. -/
namespace Go.VZ
open Go Go.V Go.Proofs TL
theorem fa25_0 (i:Nat):fieldAddrV C.P 25 (.ptr i 0) 0=some (.ptr i 0):=by kernel_rfl
theorem fa25_1 (i:Nat):fieldAddrV C.P 25 (.ptr i 0) 1=some (.ptr i 1):=by kernel_rfl
theorem fa25_2 (i:Nat):fieldAddrV C.P 25 (.ptr i 0) 2=some (.ptr i 2):=by kernel_rfl
theorem fa25_3 (i:Nat):fieldAddrV C.P 25 (.ptr i 0) 3=some (.ptr i 3):=by kernel_rfl
attribute [go_sem] fa25_0 fa25_1 fa25_2 fa25_3
theorem callV_strip {f:FuncId}{args args':List AV}{v:AV}{h:H}(hb:hasBody C.P f=true) (hm:C.mode f=.strip) (hd:dats args=some args') (hs:args.all short=true) (hl:args.length<90000)
  (hc:CallP C f args'=some v):callV C h (.func f []) (some args)=some (v,h):=by
 simp only[callV,hb,if_true,List.append_nil]
 rw[applyCall_strip hm hd hs hl,hc]
theorem dat_enc (t:T):dats [enc t]=some [enc t]:=by rw[enc_eq];rfl
theorem short_enc (t:T):short (enc t)=true:=by rw[enc_eq];rfl
theorem box25 (t:T) (h:H):boxV C.P h 25 (enc t)=some (.ptr h.length 0,h++[.cells [.int .i64 t.kind,.str t.name,.int .i64 t.sort,terms t.kids] .live]):=by
 simp[boxV,s25,enc_cells];rw[enc_eq];rfl
attribute [go_sem] box25
def NI144 (t:T) (n:Nat) (s:PT) (h:H):Prop:=∃k:Nat,n=t.kids.length-k∧k≤t.kids.length∧h=[.cells [.int .i64 t.kind,.str t.name,.int .i64 t.sort,terms t.kids] .live]∧s.get 1=.ptr 0 0∧s.get 3=.int .i64 (sizes (t.kids.take k)+1:Nat)∧s.get 4=.int .i64 k
theorem ld23 (t:T):loadV C.P [.cells [.int .i64 t.kind,.str t.name,.int .i64 t.sort,terms t.kids] .live] 23 (.ptr 0 3)=some (terms t.kids):=by
 simp[loadV,cellsAt,a23,s23]
set_option maxHeartbeats 1000000 in
theorem size144 (t:T) (hc:∀k∈t.kids,CallP C 144 [enc k]=some (.int .i64 k.size)) (hs:t.size<4000000):CallP C 144 [enc t]=some (.int .i64 t.size):=by
 refine CallP_W rfl Tryz.func144 rfl (by kernel_rfl) (by simp[Tryz.f144]) fun R hR=>?_
 have hsz:t.size=sizes t.kids+1:=by cases t;rfl
 simp[go_sem]
 refine W_loop (NI144 t) t.kids.length ⟨0,by simp[go_sem,sizes]⟩ ?_
 rintro n s h ⟨k,rfl,hk,rfl,g1,g3,g4⟩
 have g25:=ld23 t
 by_cases hlt:k<t.kids.length
 ·have hlt':(k:Int)<t.kids.length:=by omega
  have hix:=idx23 t.kids k hlt .unk
  have hck:∀h,callV C h (.func 144 []) (some [enc t.kids[k]])=some (.int .i64 t.kids[k].size,h):=fun h=>callV_strip (by kernel_rfl) rfl (dat_enc _) (by simp[short_enc]) (by simp) (hc _ (List.getElem_mem hlt))
  have e1:=take_sizes hlt
  have e2:=take_sizes_le t.kids (k+1)
  have e3:=len_sizes t.kids
  have w1:IntKind.i64.wrap ((sizes (t.kids.take k)+1:Nat)+(t.kids[k].size:Int))=(sizes (t.kids.take (k+1))+1:Nat):=by rw[wrap_in (by omega)];omega
  have w2:IntKind.i64.wrap ((k:Int)+1)=((k+1:Nat):Int):=by rw[wrap_in (by omega)];omega
  generalize hz:sizes (t.kids.take k)+1=z at *
  simp only[terms] at g25
  simp[go_sem,g1,g3,g4,g25,terms,len23,hlt',hix,ld25,hck,-Int.natCast_add,w1,w2]
  refine ⟨t.kids.length-(k+1),by omega,k+1,rfl,hlt,?_⟩
  simp[go_sem,g1,terms]
 ·have:k=t.kids.length:=by omega
  subst this
  rw[List.take_length,←hsz] at g3
  generalize t.size=z at *
  simp only[terms] at g25
  simp[go_sem,g1,g3,g4,g25,terms,len23]
  refine hR _ _ _ (.inr rfl) ⟨_,rfl,?_⟩
  simp[go_sem,hsz]
  exact snap_dat rfl rfl
theorem size144_all (t:T):t.size<4000000→CallP C 144 [enc t]=some (.int .i64 t.size):=by
 induction t using T.ind with
 | _ t ih=>exact fun hs=>size144 t (fun k hk=>ih k hk (by have:=kid_size hk;omega)) hs
def NI172 (t:T) (n:Nat) (s:PT) (_h:H):Prop:=∃k:Nat,n=t.kids.length-k∧k≤t.kids.length∧s.get 7=terms t.kids∧s.get 8=.int .i64 t.kids.length∧s.get 3=.int .i64 (sizes (t.kids.take k)+1:Nat)∧s.get 9=.int .i64 k
theorem zv25:zeroV C.P 25=some (.agg [.int .i64 0,.str ⟨#[]⟩,.int .i64 0,.isl [] .full]):=by kernel_rfl
attribute [go_sem] zv25
theorem st25 (t:T) (a b c d:AV) (h:H):storeV C.P (h++[.cells [a,b,c,d] .live]) 25 (.ptr h.length 0) (enc t)=some (h++[.cells [.int .i64 t.kind,.str t.name,.int .i64 t.sort,terms t.kids] .live]):=by
 simp[storeV,s25];rw[enc_eq];rfl
theorem ldb25 (t:T) (h:H):loadV C.P (h++[.cells [.int .i64 t.kind,.str t.name,.int .i64 t.sort,terms t.kids] .live]) 25 (.ptr h.length 0)=some (enc t):=by
 simp[loadV,cellsAt,a25,s25];rw[enc_eq]
set_option maxHeartbeats 1000000 in
theorem size172 (t:T) (hc:∀k∈t.kids,CallP C 172 [enc k]=some (.int .i64 k.size)) (hs:t.size<4000000):CallP C 172 [enc t]=some (.int .i64 t.size):=by
 refine CallP_W rfl Tryz.func172 rfl (by kernel_rfl) (by simp[Tryz.f172]) fun R hR=>?_
 have hsz:t.size=sizes t.kids+1:=size_kids t
 have g25:=ld23 t
 simp only[terms] at g25
 simp[go_sem,g25,terms,len23]
 refine W_loop (NI172 t) t.kids.length ⟨0,by simp[go_sem,sizes,terms]⟩ ?_
 rintro n s h ⟨k,rfl,hk,g7,g8,g3,g9⟩
 by_cases hlt:k<t.kids.length
 ·have hlt':(k:Int)<t.kids.length:=by omega
  have hix:=idx23 t.kids k hlt .unk
  have hck:∀h,callV C h (.func 172 []) (some [enc t.kids[k]])=some (.int .i64 t.kids[k].size,h):=fun h=>callV_strip (by kernel_rfl) rfl (dat_enc _) (by simp[short_enc]) (by simp) (hc _ (List.getElem_mem hlt))
  have e1:=take_sizes hlt
  have e2:=take_sizes_le t.kids (k+1)
  have e3:=len_sizes t.kids
  have w1:IntKind.i64.wrap ((sizes (t.kids.take k)+1:Nat)+(t.kids[k].size:Int))=(sizes (t.kids.take (k+1))+1:Nat):=by rw[wrap_in (by omega)];omega
  have w2:IntKind.i64.wrap ((k:Int)+1)=((k+1:Nat):Int):=by rw[wrap_in (by omega)];omega
  generalize hz:sizes (t.kids.take k)+1=z at *
  simp only[terms] at g7
  simp[go_sem,g7,g8,g3,g9,hlt',hix,ld25,st25,ldb25,hck,-Int.natCast_add,w1,w2]
  refine ⟨t.kids.length-(k+1),by omega,k+1,rfl,hlt,?_⟩
  simp[go_sem,g7,g8,terms]
 ·have:k=t.kids.length:=by omega
  subst this
  rw[List.take_length,←hsz] at g3
  generalize t.size=z at *
  simp[go_sem,g8,g3,g9]
  refine hR _ _ _ (.inr rfl) ⟨_,rfl,?_⟩
  simp[go_sem]
  exact snap_dat rfl rfl
theorem size172_all (t:T):t.size<4000000→CallP C 172 [enc t]=some (.int .i64 t.size):=by
 induction t using T.ind with
 | _ t ih=>exact fun hs=>size172 t (fun k hk=>ih k hk (by have:=kid_size hk;omega)) hs
end Go.VZ

/- Numbers and names compared. -/
namespace Go.VZ
open Go Go.V Go.Proofs TL
theorem sign_call (a b:Int):CallP C 171 [.int .i64 a,.int .i64 b]=some (.int .i64 (sgn a b)):=by
 refine CallP_W rfl Tryz.func171 rfl (by kernel_rfl) (by simp[Tryz.f171]) fun R hR=>?_
 by_cases h1:a<b
 ·simp[go_sem,h1]
  refine hR _ _ _ (.inr rfl) ⟨_,rfl,?_⟩
  simp[go_sem,sgn,h1];exact snap_dat rfl rfl
 ·by_cases h2:b<a
  ·simp[go_sem,h1,h2]
   refine hR _ _ _ (.inr rfl) ⟨_,rfl,?_⟩
   simp[go_sem,sgn,h1,h2];exact snap_dat rfl rfl
  ·simp[go_sem,h1,h2]
   refine hR _ _ _ (.inr rfl) ⟨_,rfl,?_⟩
   simp[go_sem,sgn,h1,h2];exact snap_dat rfl rfl
theorem number_call (a b:Int):CallP C 176 [.int .i64 a,.int .i64 b]=some (.int .i64 (sgn a b)):=by
 refine CallP_W rfl Tryz.func176 rfl (by kernel_rfl) (by simp[Tryz.f176]) fun R hR=>?_
 by_cases h1:a<b
 ·simp[go_sem,h1]
  refine hR _ _ _ (.inr rfl) ⟨_,rfl,?_⟩
  simp[go_sem,sgn,h1];exact snap_dat rfl rfl
 ·by_cases h2:b<a
  ·simp[go_sem,h1,h2]
   refine hR _ _ _ (.inr rfl) ⟨_,rfl,?_⟩
   simp[go_sem,sgn,h1,h2];exact snap_dat rfl rfl
  ·simp[go_sem,h1,h2]
   refine hR _ _ _ (.inr rfl) ⟨_,rfl,?_⟩
   simp[go_sem,sgn,h1,h2];exact snap_dat rfl rfl
theorem call171 (a b:Int) (h:H):callV C h (.func 171 []) (some [.int .i64 a,.int .i64 b])=some (.int .i64 (sgn a b),h):=callV_strip (by kernel_rfl) rfl rfl rfl (by simp) (sign_call a b)
theorem call176 (a b:Int) (h:H):callV C h (.func 176 []) (some [.int .i64 a,.int .i64 b])=some (.int .i64 (sgn a b),h):=callV_strip (by kernel_rfl) rfl rfl rfl (by simp) (number_call a b)
theorem call287 (a b:ByteArray) (h:H):callV C h (.func 287 []) (some [.str a,.str b])=some (.int .i64 (Lib.compareBytes a.data.toList b.data.toList),h):=by
 have hb:hasBody C.P 287=false:=by kernel_rfl
 simp only[callV,hb]
 rfl
theorem cmpstring_call (a b:ByteArray):CallP C 233 [.str a,.str b]=some (.int .i64 (Lib.compareBytes a.data.toList b.data.toList)):=by
 refine CallP_W rfl Tryz.func233 rfl (by kernel_rfl) (by simp[Tryz.f233]) fun R hR=>?_
 simp[go_sem,call287]
 refine hR _ _ _ (.inr rfl) ⟨_,rfl,?_⟩
 simp[go_sem];exact snap_dat rfl rfl
theorem call233 (a b:ByteArray) (h:H):callV C h (.func 233 []) (some [.str a,.str b])=some (.int .i64 (Lib.compareBytes a.data.toList b.data.toList),h):=callV_strip (by kernel_rfl) rfl rfl rfl (by simp) (cmpstring_call a b)
theorem compare_call (a b:ByteArray):CallP C 173 [.str a,.str b]=some (.int .i64 (Lib.compareBytes a.data.toList b.data.toList)):=by
 refine CallP_W rfl Tryz.func173 rfl (by kernel_rfl) (by simp[Tryz.f173]) fun R hR=>?_
 simp[go_sem,call233]
 refine hR _ _ _ (.inr rfl) ⟨_,rfl,?_⟩
 simp[go_sem];exact snap_dat rfl rfl
theorem call173 (a b:ByteArray) (h:H):callV C h (.func 173 []) (some [.str a,.str b])=some (.int .i64 (Lib.compareBytes a.data.toList b.data.toList),h):=callV_strip (by kernel_rfl) rfl rfl rfl (by simp) (compare_call a b)
theorem call144 (t:T) (hs:t.size<4000000) (h:H):callV C h (.func 144 []) (some [enc t])=some (.int .i64 t.size,h):=callV_strip (by kernel_rfl) rfl (dat_enc _) (by simp[short_enc]) (by simp) (size144_all t hs)
theorem call172 (t:T) (hs:t.size<4000000) (h:H):callV C h (.func 172 []) (some [enc t])=some (.int .i64 t.size,h):=callV_strip (by kernel_rfl) rfl (dat_enc _) (by simp[short_enc]) (by simp) (size172_all t hs)
theorem less_cb (a b:ByteArray):Op.bytesLess a.toList b.toList=decide (Lib.compareBytes a.data.toList b.data.toList = -1):=by
 rw[Lib.toList_data,Lib.toList_data]
 generalize a.data.toList=x
 generalize b.data.toList=y
 induction x generalizing y with
 | nil=>cases y<;>simp[Op.bytesLess,Lib.compareBytes]
 | cons c x ih=>
  cases y with
  | nil=>simp[Op.bytesLess,Lib.compareBytes]
  | cons d y=>
   rw[Op.bytesLess,Lib.compareBytes,ih]
   by_cases h1:c<d
   ·simp[h1]
   ·by_cases h2:d<c
    ·have:c≠d:=fun e=>by subst e;exact h1 h2
     simp[h1,h2,this]
    ·have:c=d:=by
      simp only[UInt8.lt_iff_toNat_lt] at h1 h2
      exact UInt8.toNat_inj.mp (by omega)
     subst this
     simp[h1]
theorem eq_cb (a b:ByteArray):(a.toList==b.toList)=decide (Lib.compareBytes a.data.toList b.data.toList=0):=by
 rw[Lib.toList_data,Lib.toList_data]
 simp only[cb_zero]
 by_cases h:a.data.toList=b.data.toList
 ·rw[decide_eq_true h,h];simp
 ·rw[decide_eq_false h];exact beq_eq_false_iff_ne.mpr h
def ncmp (a b:ByteArray):Int:=Lib.compareBytes a.data.toList b.data.toList
theorem lss_str (x y:Operand) (a b:ByteArray):binV C.P .lss 9 x y (.str a) (.str b)=some (.bool (decide (ncmp a b = -1))):=by
 have e:pureVal C.P (do eqGuard BinOp.lss 9 x y (.string a) (.string b);binOp .lss 9 (.string a) (.string b))=some (.bool (Op.bytesLess a.toList b.toList)):=by
  simp[eqGuard,binOp,Op.stringOp]
  try rfl
 simp only[binV,toVal,toScalar,e,ofConst,ofScalar,less_cb,ncmp]
 congr
theorem gtr_str (x y:Operand) (a b:ByteArray):binV C.P .gtr 9 x y (.str a) (.str b)=some (.bool (decide (ncmp a b=1))):=by
 have e:pureVal C.P (do eqGuard BinOp.gtr 9 x y (.string a) (.string b);binOp .gtr 9 (.string a) (.string b))=some (.bool (!(Op.bytesLess a.toList b.toList||a.toList==b.toList))):=by
  simp[eqGuard,binOp,Op.stringOp]
  try rfl
 simp only[binV,toVal,toScalar,e,ofConst,ofScalar,less_cb,eq_cb,ncmp]
 rcases cb_range a.data.toList b.data.toList with h | h | h<;>simp[h]
end Go.VZ

/- Terms compared: the document's way. -/
namespace Go.VZ
open Go Go.V Go.Proofs TL
def two (a b:T):H:=[.cells [.int .i64 a.kind,.str a.name,.int .i64 a.sort,terms a.kids] .live,.cells [.int .i64 b.kind,.str b.name,.int .i64 b.sort,terms b.kids] .live]
theorem two_a (a b:T):loadV C.P (two a b) 25 (.ptr 0 0)=some (enc a):=by simp[two,loadV,cellsAt,a25,s25];rw[enc_eq]
theorem two_b (a b:T):loadV C.P (two a b) 25 (.ptr 1 0)=some (enc b):=by simp[two,loadV,cellsAt,a25,s25];rw[enc_eq]
theorem two_a0 (a b:T):loadV C.P (two a b) 3 (.ptr 0 0)=some (.int .i64 a.kind):=by simp[two,loadV,cellsAt,a3,s3]
theorem two_b0 (a b:T):loadV C.P (two a b) 3 (.ptr 1 0)=some (.int .i64 b.kind):=by simp[two,loadV,cellsAt,a3,s3]
theorem two_a1 (a b:T):loadV C.P (two a b) 9 (.ptr 0 1)=some (.str a.name):=by simp[two,loadV,cellsAt,a9,s9]
theorem two_b1 (a b:T):loadV C.P (two a b) 9 (.ptr 1 1)=some (.str b.name):=by simp[two,loadV,cellsAt,a9,s9]
theorem two_a2 (a b:T):loadV C.P (two a b) 3 (.ptr 0 2)=some (.int .i64 a.sort):=by simp[two,loadV,cellsAt,a3,s3]
theorem two_b2 (a b:T):loadV C.P (two a b) 3 (.ptr 1 2)=some (.int .i64 b.sort):=by simp[two,loadV,cellsAt,a3,s3]
theorem two_a3 (a b:T):loadV C.P (two a b) 23 (.ptr 0 3)=some (.isl (a.kids.map enc) .unk):=by simp[two,loadV,cellsAt,a23,s23,terms]
theorem two_b3 (a b:T):loadV C.P (two a b) 23 (.ptr 1 3)=some (.isl (b.kids.map enc) .unk):=by simp[two,loadV,cellsAt,a23,s23,terms]
theorem box2 (a b:T):boxV C.P [.cells [.int .i64 a.kind,.str a.name,.int .i64 a.sort,terms a.kids] .live] 25 (enc b)=some (.ptr 1 0,two a b):=by rw[box25];rfl
theorem cmp_eq (a b:T):a.cmp b=thn (sgn a.size b.size) (thn (sgn a.kind b.kind) (thn (Lib.compareBytes a.name.data.toList b.name.data.toList) (thn (sgn a.sort b.sort) (thn (sgn a.kids.length b.kids.length) (cmps a.kids b.kids))))):=by
 cases a;cases b;rw[T.cmp];rfl
theorem dat_enc2 (a b:T):dats [enc a,enc b]=some [enc a,enc b]:=by rw[enc_eq a,enc_eq b];rfl
def NI118 (a b:T) (n:Nat) (s:PT) (h:H):Prop:=∃k:Nat,n=a.kids.length-k∧k≤a.kids.length∧h=two a b∧s.get 2=.ptr 0 0∧s.get 3=.ptr 1 0∧s.get 9=.int .i64 k∧cmps (a.kids.drop k) (b.kids.drop k)=cmps a.kids b.kids
set_option maxHeartbeats 2000000 in
theorem cmp118 (a b:T) (hs:a.size<4000000) (hs2:b.size<4000000) (hc:∀k∈a.kids,∀m∈b.kids,CallP C 118 [enc k,enc m]=some (.int .i64 (k.cmp m))):CallP C 118 [enc a,enc b]=some (.int .i64 (a.cmp b)):=by
 refine CallP_W rfl Tryz.func118 rfl (by kernel_rfl) (by simp[Tryz.f118]) fun R hR=>?_
 have hq:=cmp_eq a b
 have q1:=call144 a hs
 have q2:=call144 b hs2
 by_cases h1:sgn a.size b.size≠0
 ·simp[go_sem,box2,two_a,two_b,q1,q2,call176,h1]
  refine hR _ _ _ (.inr rfl) ⟨_,rfl,?_⟩
  simp[go_sem,hq,thn,h1];exact snap_dat rfl rfl
 replace h1:=Decidable.not_not.mp h1
 by_cases h2:sgn a.kind b.kind≠0
 ·simp[go_sem,box2,two_a,two_b,two_a0,two_b0,q1,q2,call176,h1,h2]
  refine hR _ _ _ (.inr rfl) ⟨_,rfl,?_⟩
  simp[go_sem,hq,thn,h1,h2];exact snap_dat rfl rfl
 replace h2:=Decidable.not_not.mp h2
 by_cases h3:ncmp a.name b.name = -1
 ·simp[go_sem,box2,two_a,two_b,two_a0,two_b0,two_a1,two_b1,q1,q2,call176,h1,h2,lss_str,h3]
  refine hR _ _ _ (.inr rfl) ⟨_,rfl,?_⟩
  simp only[ncmp] at h3
  simp[go_sem,hq,thn,h1,h2,h3];exact snap_dat rfl rfl
 by_cases h4:ncmp a.name b.name=1
 ·simp[go_sem,box2,two_a,two_b,two_a0,two_b0,two_a1,two_b1,q1,q2,call176,h1,h2,lss_str,gtr_str,h4]
  refine hR _ _ _ (.inr rfl) ⟨_,rfl,?_⟩
  simp only[ncmp] at h4
  simp[go_sem,hq,thn,h1,h2,h4];exact snap_dat rfl rfl
 have h0:Lib.compareBytes a.name.data.toList b.name.data.toList=0:=by
  rcases cb_range a.name.data.toList b.name.data.toList with e | e | e
  ·exact absurd e h3
  ·exact e
  ·exact absurd e h4
 by_cases h5:sgn a.sort b.sort≠0
 ·simp[go_sem,box2,two_a,two_b,two_a0,two_b0,two_a1,two_b1,two_a2,two_b2,q1,q2,call176,h1,h2,lss_str,gtr_str,h3,h4,h5]
  refine hR _ _ _ (.inr rfl) ⟨_,rfl,?_⟩
  simp[go_sem,hq,thn,h1,h2,h0,h5];exact snap_dat rfl rfl
 replace h5:=Decidable.not_not.mp h5
 by_cases h6:sgn a.kids.length b.kids.length≠0
 ·simp[go_sem,box2,two_a,two_b,two_a0,two_b0,two_a1,two_b1,two_a2,two_b2,two_a3,two_b3,len23,q1,q2,call176,h1,h2,lss_str,gtr_str,h3,h4,h5,h6]
  refine hR _ _ _ (.inr rfl) ⟨_,rfl,?_⟩
  simp[go_sem,hq,thn,h1,h2,h0,h5,h6];exact snap_dat rfl rfl
 replace h6:=Decidable.not_not.mp h6
 have hl:a.kids.length=b.kids.length:=by have:=sgn_zero.mp h6;omega
 have hq':a.cmp b=cmps a.kids b.kids:=by rw[hq,h1,h2,h0,h5,h6];rfl
 simp[go_sem,box2,two_a,two_b,two_a0,two_b0,two_a1,two_b1,two_a2,two_b2,two_a3,two_b3,len23,q1,q2,call176,h1,h2,lss_str,gtr_str,h3,h4,h5,h6]
 refine W_loop (NI118 a b) a.kids.length ⟨0,by simp[go_sem]⟩ ?_
 rintro n s h ⟨k,rfl,hk,rfl,g2,g3,g9,hd⟩
 by_cases hlt:k<a.kids.length
 ·have hlt':(k:Int)<a.kids.length:=by omega
  have hltb:k<b.kids.length:=by omega
  have hix:=idx23 a.kids k hlt .unk
  have hiy:=idx23 b.kids k hltb .unk
  have hck:∀h,callV C h (.func 118 []) (some [enc a.kids[k],enc b.kids[k]])=some (.int .i64 (a.kids[k].cmp b.kids[k]),h):=fun h=>callV_strip (by kernel_rfl) rfl (dat_enc2 _ _) (by simp[short_enc]) (by simp) (hc _ (List.getElem_mem hlt) _ (List.getElem_mem hltb))
  have e3:=len_sizes a.kids
  have e4:=size_kids a
  have w2:IntKind.i64.wrap ((k:Int)+1)=((k+1:Nat):Int):=by rw[wrap_in (by omega)];omega
  rw[List.drop_eq_getElem_cons hlt,List.drop_eq_getElem_cons hltb,cmps] at hd
  by_cases hz:a.kids[k].cmp b.kids[k]≠0
  ·simp[go_sem,g2,g3,g9,two_a3,two_b3,len23,hlt',hix,hiy,ld25,hck,hz]
   refine hR _ _ _ (.inr rfl) ⟨_,rfl,?_⟩
   rw[thn,if_neg hz] at hd
   simp[go_sem,hq',←hd];exact snap_dat rfl rfl
  ·replace hz:=Decidable.not_not.mp hz
   rw[hz,thn,if_pos rfl] at hd
   simp[go_sem,g2,g3,g9,two_a3,two_b3,len23,hlt',hix,hiy,ld25,hck,hz,-Int.natCast_add,w2]
   refine ⟨a.kids.length-(k+1),by omega,k+1,rfl,hlt,rfl,?_,?_,?_,hd⟩<;>simp[go_sem,g2,g3]
 ·have:k=a.kids.length:=by omega
  subst this
  rw[List.drop_length,hl,List.drop_length] at hd
  simp[go_sem,g2,g9,two_a3,len23]
  refine hR _ _ _ (.inr rfl) ⟨_,rfl,?_⟩
  simp[go_sem,hq',←hd,cmps];exact snap_dat rfl rfl
theorem cmp118_all (a:T):∀b:T,a.size<4000000→b.size<4000000→CallP C 118 [enc a,enc b]=some (.int .i64 (a.cmp b)):=by
 induction a using T.ind with
 | _ a ih=>exact fun b hs hs2=>cmp118 a b hs hs2 fun k hk m hm=>ih k hk m (by have:=kid_size hk;omega) (by have:=kid_size hm;omega)
theorem call118 (a b:T) (hs:a.size<4000000) (hs2:b.size<4000000) (h:H):callV C h (.func 118 []) (some [enc a,enc b])=some (.int .i64 (a.cmp b),h):=callV_strip (by kernel_rfl) rfl (dat_enc2 _ _) (by simp[short_enc]) (by simp) (cmp118_all a b hs hs2)
end Go.VZ

/- Terms compared: the program's way. -/
namespace Go.VZ
open Go Go.V Go.Proofs TL
def head (a b:T):Int:=thn (sgn a.size b.size) (thn (sgn a.kind b.kind) (thn (ncmp a.name b.name) (thn (sgn a.sort b.sort) (sgn a.kids.length b.kids.length))))
theorem thn_assoc (a b c:Int):thn (thn a b) c=thn a (thn b c):=by unfold thn;split<;>simp_all
theorem cmp_head (a b:T):a.cmp b=thn (head a b) (cmps a.kids b.kids):=by
 rw[cmp_eq,head];simp only[thn_assoc,ncmp]
def NI112 (a b:T) (n:Nat) (s:PT) (h:H):Prop:=∃k:Nat,∃c:Int,n=a.kids.length-k∧k≤a.kids.length∧h=two a b∧s.get 2=.ptr 0 0∧s.get 3=.ptr 1 0∧s.get 6=.int .i64 k∧s.get 5=.int .i64 c ∧
 (c=0→a.kids.length=b.kids.length)∧thn c (cmps (a.kids.drop k) (b.kids.drop k))=a.cmp b
set_option maxHeartbeats 4000000 in
theorem cmp112 (a b:T) (hs:a.size<4000000) (hs2:b.size<4000000) (hc:∀k∈a.kids,∀m∈b.kids,CallP C 112 [enc k,enc m]=some (.int .i64 (k.cmp m))):CallP C 112 [enc a,enc b]=some (.int .i64 (a.cmp b)):=by
 refine CallP_W rfl Tryz.func112 rfl (by kernel_rfl) (by simp[Tryz.f112]) fun R hR=>?_
 have q1:=call172 a hs
 have q2:=call172 b hs2
 have hn:ncmp a.name b.name=Lib.compareBytes a.name.data.toList b.name.data.toList:=rfl
 have hl:head a b=0→a.kids.length=b.kids.length:=fun h=>by
  rw[head,thn_zero,thn_zero,thn_zero,thn_zero] at h
  have:=sgn_zero.mp h.2.2.2.2;omega
 by_cases h1:sgn a.size b.size=0<;>by_cases h2:sgn a.kind b.kind=0<;>by_cases h3:ncmp a.name b.name=0<;>by_cases h4:sgn a.sort b.sort=0
 all_goals
  simp[go_sem,box2,two_a,two_b,two_a0,two_b0,two_a1,two_b1,two_a2,two_b2,two_a3,two_b3,len23,q1,q2,call171,call173,←hn,h1,h2,h3,h4]
  refine W_loop (NI112 a b) a.kids.length ⟨0,head a b,rfl,Nat.zero_le _,rfl,by simp[go_sem],by simp[go_sem],by simp[go_sem],by simp[go_sem,head,thn,h1,h2,h3,h4],hl,by simp[cmp_head]⟩ ?_
  rintro n s h ⟨k,c,rfl,hk,rfl,g2,g3,g6,g5,hz,hd⟩
  by_cases hc0:c=0
  ·subst hc0
   by_cases hlt:k<a.kids.length
   ·have hlt':(k:Int)<a.kids.length:=by omega
    have hltb:k<b.kids.length:=by have:=hz rfl;omega
    have hix:=idx23 a.kids k hlt .unk
    have hiy:=idx23 b.kids k hltb .unk
    have hck:∀h,callV C h (.func 112 []) (some [enc a.kids[k],enc b.kids[k]])=some (.int .i64 (a.kids[k].cmp b.kids[k]),h):=fun h=>callV_strip (by kernel_rfl) rfl (dat_enc2 _ _) (by simp[short_enc]) (by simp) (hc _ (List.getElem_mem hlt) _ (List.getElem_mem hltb))
    have e3:=len_sizes a.kids
    have e4:=size_kids a
    have w2:IntKind.i64.wrap ((k:Int)+1)=((k+1:Nat):Int):=by rw[wrap_in (by omega)];omega
    rw[List.drop_eq_getElem_cons hlt,List.drop_eq_getElem_cons hltb,cmps,thn,if_pos rfl] at hd
    simp[go_sem,g2,g3,g5,g6,two_a3,two_b3,len23,hlt',hix,hiy,ld25,hck,-Int.natCast_add,w2]
    exact ⟨a.kids.length-(k+1),by omega,k+1,a.kids[k].cmp b.kids[k],by simp[go_sem,g2,g3,hd];exact ⟨by omega,fun _=>hz rfl⟩⟩
   ·have:k=a.kids.length:=by omega
    subst this
    rw[List.drop_length,hz rfl,List.drop_length] at hd
    simp[go_sem,g2,g5,g6,two_a3,len23]
    refine hR _ _ _ (.inr rfl) ⟨_,rfl,?_⟩
    simp[go_sem,←hd,cmps,thn];exact snap_dat rfl rfl
  ·rw[thn,if_neg hc0] at hd
   simp[go_sem,g5,hc0]
   refine hR _ _ _ (.inr rfl) ⟨_,rfl,?_⟩
   simp[go_sem,←hd];exact snap_dat rfl rfl
theorem cmp112_all (a:T):∀b:T,a.size<4000000→b.size<4000000→CallP C 112 [enc a,enc b]=some (.int .i64 (a.cmp b)):=by
 induction a using T.ind with
 | _ a ih=>exact fun b hs hs2=>cmp112 a b hs hs2 fun k hk m hm=>ih k hk m (by have:=kid_size hk;omega) (by have:=kid_size hm;omega)
theorem call112 (a b:T) (hs:a.size<4000000) (hs2:b.size<4000000) (h:H):callV C h (.func 112 []) (some [enc a,enc b])=some (.int .i64 (a.cmp b),h):=callV_strip (by kernel_rfl) rfl (dat_enc2 _ _) (by simp[short_enc]) (by simp) (cmp112_all a b hs hs2)
end Go.VZ

/- Terms equal, lists of terms equal. -/
namespace Go.VZ
open Go Go.V Go.Proofs TL
theorem same69 (a b:T) (hs:a.size<4000000) (hs2:b.size<4000000):CallP C 69 [enc a,enc b]=some (.bool (decide (a.cmp b=0))):=by
 refine CallP_W rfl Tryz.func69 rfl (by kernel_rfl) (by simp[Tryz.f69]) fun R hR=>?_
 have q:=call118 a b hs hs2
 simp[go_sem,box2,two_a,two_b,q]
 refine hR _ _ _ (.inr rfl) ⟨_,rfl,?_⟩
 simp[go_sem];exact snap_dat rfl rfl
theorem call69 (a b:T) (hs:a.size<4000000) (hs2:b.size<4000000) (h:H):callV C h (.func 69 []) (some [enc a,enc b])=some (.bool (decide (a.cmp b=0)),h):=callV_strip (by kernel_rfl) rfl (dat_enc2 _ _) (by simp[short_enc]) (by simp) (same69 a b hs hs2)
def NI110 (l m:List T) (n:Nat) (s:PT) (h:H):Prop:=∃k:Nat,n=l.length-k∧k≤l.length∧h=[]∧s.get 0=.isl (l.map enc) .unk∧s.get 1=.isl (m.map enc) .unk∧s.get 5=.int .i64 k∧(l.drop k=m.drop k↔l=m)
set_option maxHeartbeats 1000000 in
theorem lists110 (l m:List T) (hl:∀t∈l,t.size<4000000) (hm:∀t∈m,t.size<4000000) (hn:l.length<4000000):CallP C 110 [terms l,terms m]=some (.bool (decide (l=m))):=by
 refine CallP_W rfl Tryz.func110 rfl (by kernel_rfl) (by simp[Tryz.f110]) fun R hR=>?_
 by_cases he:l.length=m.length
 ·have he':(l.length:Int)=m.length:=by omega
  simp[go_sem,terms,len23,he']
  refine W_loop (NI110 l m) l.length ⟨0,rfl,Nat.zero_le _,rfl,by simp[go_sem,terms],by simp[go_sem,terms],by simp[go_sem],by simp⟩ ?_
  rintro n s h ⟨k,rfl,hk,rfl,g0,g1,g5,hd⟩
  by_cases hlt:k<l.length
  ·have hlt':(k:Int)<l.length:=by omega
   have hltb:k<m.length:=by omega
   have hix:=idx23 l k hlt .unk
   have hiy:=idx23 m k hltb .unk
   have hck:=call69 l[k] m[k] (hl _ (List.getElem_mem hlt)) (hm _ (List.getElem_mem hltb))
   have w2:IntKind.i64.wrap ((k:Int)+1)=((k+1:Nat):Int):=by rw[wrap_in (by omega)];omega
   rw[List.drop_eq_getElem_cons hlt,List.drop_eq_getElem_cons hltb,List.cons.injEq] at hd
   by_cases hz:l[k].cmp m[k]=0
   ·simp[go_sem,g0,g1,g5,len23,hlt',hix,hiy,ld25,hck,hz,-Int.natCast_add,w2]
    rw[cmp_zero] at hz
    exact ⟨l.length-(k+1),by omega,k+1,rfl,hlt,rfl,by simp[go_sem,g0],by simp[go_sem,g1],by simp[go_sem],by rw[←hd];exact ⟨fun e=>⟨hz,e⟩,fun e=>e.2⟩⟩
   ·simp[go_sem,g0,g1,g5,len23,hlt',hix,hiy,ld25,hck,hz]
    refine hR _ _ _ (.inr rfl) ⟨_,rfl,?_⟩
    have hne:l≠m:=fun e=>hz (cmp_zero.mpr (hd.mpr e).1)
    simp[go_sem,hne];exact snap_dat rfl rfl
  ·have:k=l.length:=by omega
   subst this
   rw[List.drop_length,he,List.drop_length] at hd
   have e:=hd.mp rfl
   simp[go_sem,g0,g5,len23]
   refine hR _ _ _ (.inr rfl) ⟨_,rfl,?_⟩
   simp[go_sem,e];exact snap_dat rfl rfl
 ·have he':¬(l.length:Int)=m.length:=by omega
  simp[go_sem,initS,terms,len23,he']
  refine hR _ _ _ (.inr rfl) ⟨_,rfl,?_⟩
  have hne:l≠m:=fun e=>he (by rw[e])
  simp[go_sem,hne];exact snap_dat rfl rfl
end Go.VZ

/- The bytes of a name. -/
namespace Go.VZ
open Go Go.V Go.Proofs TL
def letB (c:Nat):Bool:=(decide (97≤c)&&decide (c≤122))||(decide (65≤c)&&decide (c≤90))
def digB (c:Nat):Bool:=decide (48≤c)&&decide (c≤57)
def partB (c:Nat):Bool:=letB c||digB c||c==95||c==35
def isB (b:Bool):Option (AV × H)→Bool
 | some (.bool x,_)=>x==b
 | _=>false
theorem isB_CallP {n:Nat}{f:FuncId}{args:List AV}{b:Bool}(h:isB b (callR C n f args [])=true):CallP C f args=some (.bool b):=by
 cases hx:callR C n f args [] with
 | none=>rw[hx] at h;cases h
 | some x=>
  obtain ⟨r,h1⟩:=x
  rw[hx] at h
  unfold isB at h
  split at h<;>first | (cases h;done) | skip
  rename_i e
  simp only[Option.some.injEq,Prod.mk.injEq] at e
  obtain ⟨rfl,rfl⟩:=e
  have:=eq_of_beq h
  subst this
  unfold CallP
  rw[Call_of n hx]
  exact snap_dat rfl rfl
theorem part_all:(List.range 256).all (fun c=>isB (partB c) (callR C 100 286 [.int .u8 c] []))=true:=by kernel_rfl
theorem letter_all:(List.range 256).all (fun c=>isB (letB c) (callR C 100 301 [.int .u8 c] []))=true:=by kernel_rfl
theorem digit_all:(List.range 256).all (fun c=>isB (digB c) (callR C 100 302 [.int .u8 c] []))=true:=by kernel_rfl
theorem part_call (c:Nat) (hc:c<256):CallP C 286 [.int .u8 c]=some (.bool (partB c)):=isB_CallP (n:=100) (List.all_eq_true.mp part_all c (List.mem_range.mpr hc))
theorem letter_call (c:Nat) (hc:c<256):CallP C 301 [.int .u8 c]=some (.bool (letB c)):=isB_CallP (n:=100) (List.all_eq_true.mp letter_all c (List.mem_range.mpr hc))
theorem digit_call (c:Nat) (hc:c<256):CallP C 302 [.int .u8 c]=some (.bool (digB c)):=isB_CallP (n:=100) (List.all_eq_true.mp digit_all c (List.mem_range.mpr hc))
theorem call286 (c:Nat) (hc:c<256) (h:H):callV C h (.func 286 []) (some [.int .u8 c])=some (.bool (partB c),h):=callV_strip (by kernel_rfl) rfl rfl rfl (by simp) (part_call c hc)
theorem call301 (c:Nat) (hc:c<256) (h:H):callV C h (.func 301 []) (some [.int .u8 c])=some (.bool (letB c),h):=callV_strip (by kernel_rfl) rfl rfl rfl (by simp) (letter_call c hc)
theorem call302 (c:Nat) (hc:c<256) (h:H):callV C h (.func 302 []) (some [.int .u8 c])=some (.bool (digB c),h):=callV_strip (by kernel_rfl) rfl rfl rfl (by simp) (digit_call c hc)
end Go.VZ

/- A byte of a string. -/
namespace Go.VZ
open Go Go.V Go.Proofs TL
theorem u9:C.P.underlying 9=some .string:=Tryz.underlying9
theorem index9 (s:ByteArray) (k:Nat) (hk:k<s.size):indexV C.P 9 (.str s) (.int .i64 k)=some (.int .u8 (s[k]).toNat):=by
 have e:pureVal C.P (Instr.index 9 (.string s) (.int .i64 k))=some (.int .u8 (s[k]).toNat):=by
  have hu:pureVal C.P (underlying 9)=some .string:=by kernel_rfl
  have hg:s[k]?=some s[k]:=by simp[hk]
  simp only[Instr.index,pureVal_bind,asIntOf,pureVal_pure,Option.bind_some,hu]
  simp[hg,pureVal_pure]
 simp only[indexV,e,ofConst,ofScalar]
@[go_sem] theorem OWindex {C:Cfg}{cf:FuncId}{ops:Array Oper}{d:Tmp}{ty:TypeId}{p:String}{af:Array Edge}{l:List Oper}{s:PT}{h:H}{K:PT→H→Prop}(t:TypeId) (x i:Operand) :
  OW C cf ops (⟨some d,.index t x i,ty,p,af,none⟩::l) s h K↔bO (bi2 (ev s x) (ev s i) (indexV C.P t)) fun v=>OW C cf ops l (s.set d v) h K:=OWn (by simp only[opN,bi2];cases ev s x<;>cases ev s i<;>rfl) rfl rfl
end Go.VZ

/- Names: the document's way. -/
namespace Go.VZ
open Go Go.V Go.Proofs TL
def byteAt (s:ByteArray) (k:Nat):Nat:=if h:k<s.size then (s[k]).toNat else 0
theorem byteAt_lt (s:ByteArray) (k:Nat):byteAt s k<256:=by
 unfold byteAt;split
 ·exact UInt8.toNat_lt _
 ·omega
theorem index9b (s:ByteArray) (k:Nat) (hk:k<s.size):indexV C.P 9 (.str s) (.int .i64 k)=some (.int .u8 (byteAt s k)):=by
 rw[index9 s k hk];simp[byteAt,hk]
def tailB (s:ByteArray):Nat→Nat→Bool
 | _,0=>true
 | k,n+1=>partB (byteAt s k)&&tailB s (k+1) n
def nameB (s:ByteArray):Bool:=decide (s.size≠0)&&decide (s.size≤24)&&letB (byteAt s 0)&&tailB s 0 s.size
theorem len9 (s:ByteArray):lenV C.P 9 (.str s)=some (.int .i64 s.size):=by simp[lenV,u9]
def NI261 (s:ByteArray) (z n:Nat) (t:PT) (h:H):Prop:=∃k:Nat,n=z-k∧k≤z∧h=[]∧t.get 0=.str s∧t.get 3=.int .i64 k∧tailB s k (z-k)=nameB s
set_option maxHeartbeats 1000000 in
theorem isName261 (s:ByteArray):CallP C 261 [.str s]=some (.bool (nameB s)):=by
 refine CallP_W rfl Tryz.func261 rfl (by kernel_rfl) (by simp[Tryz.f261]) fun R hR=>?_
 have len9:=len9 s
 have hn:nameB s=(decide (s.size≠0)&&decide (s.size≤24)&&letB (byteAt s 0)&&tailB s 0 s.size):=rfl
 have hix:=index9b s
 generalize s.size=z at len9 hn hix
 by_cases h0:z=0
 ·have h0':(z:Int)=0:=by omega
  simp[go_sem,len9,h0']
  refine hR _ _ _ (.inr rfl) ⟨_,rfl,?_⟩
  have:nameB s=false:=by simp[hn,h0]
  simp[go_sem,this];exact snap_dat rfl rfl
 have h0':¬(z:Int)=0:=by omega
 by_cases h24:24<z
 ·have h24':(24:Int)<z:=by omega
  simp[go_sem,len9,h0,h24']
  refine hR _ _ _ (.inr rfl) ⟨_,rfl,?_⟩
  have:nameB s=false:=by rw[hn,decide_eq_false (show ¬z≤24 by omega)];simp
  simp[go_sem,this];exact snap_dat rfl rfl
 have h24':¬(24:Int)<z:=by omega
 have hi0:=hix 0 (by omega)
 have hc0:=call301 (byteAt s 0) (byteAt_lt s 0)
 simp only[show ((0:Nat):Int)=0 from rfl] at hi0
 by_cases hl:letB (byteAt s 0)=false
 ·simp[go_sem,len9,h0,h24',hi0,hc0,hl]
  refine hR _ _ _ (.inr rfl) ⟨_,rfl,?_⟩
  have:nameB s=false:=by simp[hn,hl]
  simp[go_sem,this];exact snap_dat rfl rfl
 replace hl:letB (byteAt s 0)=true:=by simpa using hl
 have hn':nameB s=tailB s 0 z:=by rw[hn,hl,decide_eq_true h0,decide_eq_true (show z≤24 by omega)];simp
 simp[go_sem,len9,h0,h24',hi0,hc0,hl]
 refine W_loop (NI261 s z) z ⟨0,rfl,Nat.zero_le _,rfl,by simp[go_sem],by simp[go_sem],by rw[hn'];rfl⟩ ?_
 rintro n t h ⟨k,rfl,hk,rfl,g0,g3,hd⟩
 by_cases hlt:k<z
 ·have hlt':(k:Int)<z:=by omega
  have hi:=hix k hlt
  have c1:=call301 (byteAt s k) (byteAt_lt s k)
  have c2:=call302 (byteAt s k) (byteAt_lt s k)
  have w2:IntKind.i64.wrap ((k:Int)+1)=((k+1:Nat):Int):=by rw[wrap_in (by omega)];omega
  rw[show z-k=(z-(k+1))+1 by omega,tailB,partB] at hd
  by_cases d1:letB (byteAt s k)=true<;>by_cases d2:digB (byteAt s k)=true<;>by_cases d3:(byteAt s k:Int)=95<;>by_cases d4:(byteAt s k:Int)=35
  all_goals
   have d3':(byteAt s k==95)=decide ((byteAt s k:Int)=95):=by rw[Bool.eq_iff_iff];simp;omega
   have d4':(byteAt s k==35)=decide ((byteAt s k:Int)=35):=by rw[Bool.eq_iff_iff];simp;omega
   rw[d3',d4'] at hd
   simp[d1,d2,d3,d4] at hd
   try rw[d3] at hi c1 c2
   try rw[d4] at hi c1 c2
   simp[go_sem,len9,g0,g3,hlt',hi,c1,c2,d1,d2,d3,d4,-Int.natCast_add,w2]
   first
    | (exfalso;omega)
    | exact ⟨z-(k+1),by omega,k+1,rfl,hlt,rfl,by simp[go_sem,g0],by simp[go_sem],hd⟩
    | (refine hR _ _ _ (.inr rfl) ⟨_,rfl,?_⟩;simp[go_sem,hd];exact snap_dat rfl rfl)
 ·have:k=z:=by omega
  subst this
  simp[go_sem,len9,g0,g3]
  refine hR _ _ _ (.inr rfl) ⟨_,rfl,?_⟩
  rw[Nat.sub_self,tailB] at hd
  simp[go_sem,←hd];exact snap_dat rfl rfl
end Go.VZ

/- Names: the program's way; a node of a term: the document's way. -/
namespace Go.VZ
open Go Go.V Go.Proofs TL
theorem eql_str (x y:Operand) (a b:ByteArray):binV C.P .eql 9 x y (.str a) (.str b)=some (.bool (decide (a=b))):=by
 have e:pureVal C.P (do eqGuard BinOp.eql 9 x y (.string a) (.string b);binOp .eql 9 (.string a) (.string b))=some (.bool (a.toList==b.toList)):=by
  simp[eqGuard,binOp,Op.stringOp]
  try rfl
 simp only[binV,toVal,toScalar,e,ofConst,ofScalar]
 congr 2
 have:a.toList=b.toList↔a=b:=by
  have ha:a.toList=a.data.toList:=ByteArray.toList_eq a
  have hb:b.toList=b.data.toList:=ByteArray.toList_eq b
  rw[ha,hb];exact name_inj
 by_cases h:a=b
 ·subst h;simp
 ·have h':¬a.toList=b.toList:=fun e=>h (this.1 e)
  simp[h,h']
def badN (t:T):Bool:=(decide (t.kind≠1)&&decide (t.kind≠2)&&decide (t.kind≠3))||decide (t.sort<0)||decide (5<t.sort)||(decide (t.kind≠1)&&decide (t.kind≠2)&&decide (t.sort≠0))||((decide (t.kind=1)||decide (t.kind=2))&&decide (0<t.kids.length))
def nodeE (t:T):Int:=if badN t=true then 1 else if nameB t.name=false then 2 else if 8<t.kids.length then 3 else 0
theorem ld3k (k s:Int) (n:ByteArray) (q:AV):loadV C.P [.cells [.int .i64 k,.str n,.int .i64 s,q] .live] 3 (.ptr 0 0)=some (.int .i64 k):=by simp[loadV,cellsAt,a3,s3]
theorem ld9n (k s:Int) (n:ByteArray) (q:AV):loadV C.P [.cells [.int .i64 k,.str n,.int .i64 s,q] .live] 9 (.ptr 0 1)=some (.str n):=by simp[loadV,cellsAt,a9,s9]
theorem ld3s (k s:Int) (n:ByteArray) (q:AV):loadV C.P [.cells [.int .i64 k,.str n,.int .i64 s,q] .live] 3 (.ptr 0 2)=some (.int .i64 s):=by simp[loadV,cellsAt,a3,s3]
theorem ld23q (k s:Int) (n:ByteArray) (es:List AV) (x:Ext):loadV C.P [.cells [.int .i64 k,.str n,.int .i64 s,.isl es x] .live] 23 (.ptr 0 3)=some (.isl es x):=by simp[loadV,cellsAt,a23,s23]
theorem callV261 (s:ByteArray) (h:H):callV C h (.func 261 []) (some [.str s])=some (.bool (nameB s),h):=callV_strip (by kernel_rfl) rfl rfl rfl (by simp) (isName261 s)
set_option maxHeartbeats 2000000 in
theorem node213 (t:T):CallP C 213 [enc t]=some (.int .i64 (nodeE t)):=by
 refine CallP_W rfl Tryz.func213 rfl (by kernel_rfl) (by simp[Tryz.f213]) fun R hR=>?_
 have c1:=callV261 t.name
 simp +contextual [go_sem,terms,ld3k,ld3s,ld23q,len23]
 refine Ife_iff.2 ⟨fun h1=>?_,fun h1=>?_⟩
 ·have hb:badN t=true:=by simpa [badN] using h1
  simp[go_sem]
  refine hR _ _ _ (.inr rfl) ⟨_,rfl,?_⟩
  simp[go_sem,nodeE,hb];exact snap_dat rfl rfl
 have hb:badN t=false:=by simpa [badN] using h1
 simp +contextual [go_sem,ld9n,c1]
 refine Ife_iff.2 ⟨fun h2=>?_,fun h2=>?_⟩
 ·simp[go_sem]
  refine hR _ _ _ (.inr rfl) ⟨_,rfl,?_⟩
  simp[go_sem,nodeE,hb,h2];exact snap_dat rfl rfl
 simp at h2
 simp +contextual [go_sem,ld23q,len23]
 refine Ife_iff.2 ⟨fun h3=>?_,fun h3=>?_⟩
 ·simp[go_sem]
  refine hR _ _ _ (.inr rfl) ⟨_,rfl,?_⟩
  simp[go_sem,nodeE,hb,h2,show 8<t.kids.length by omega];exact snap_dat rfl rfl
 ·simp[go_sem]
  refine hR _ _ _ (.inr rfl) ⟨_,rfl,?_⟩
  simp[go_sem,nodeE,hb,h2,show ¬8<t.kids.length by omega];exact snap_dat rfl rfl
end Go.VZ

/- Names: the program's way. -/
namespace Go.VZ
open Go Go.V Go.Proofs TL
theorem first_all:(List.range 256).all (fun c=>(partB c && !(decide (48≤c)&&decide (c≤57)) && !(decide (c=95)) && !(decide (c=35)))==letB c)=true:=by kernel_rfl
theorem first_part (c:Nat) (hc:c<256):(partB c && !(decide (48≤c)&&decide (c≤57)) && !(decide (c=95)) && !(decide (c=35)))=letB c:=eq_of_beq (List.all_eq_true.mp first_all c (List.mem_range.mpr hc))
def NI232 (s:ByteArray) (z n:Nat) (t:PT) (h:H):Prop:=∃k:Nat,n=z-k∧k≤z∧h=[]∧t.get 0=.str s∧t.get 38=.int .i64 z∧t.get 39=.int .i64 k∧tailB s k (z-k)=nameB s
set_option maxHeartbeats 1000000 in
theorem isName232 (s:ByteArray):CallP C 232 [.str s]=some (.bool (nameB s)):=by
 refine CallP_W rfl Tryz.func232 rfl (by kernel_rfl) (by simp[Tryz.f232]) fun R hR=>?_
 have hn:nameB s=(decide (s.size≠0)&&decide (s.size≤24)&&letB (byteAt s 0)&&tailB s 0 s.size):=rfl
 have len9:=len9 s
 have hix:=index9b s
 have he:(s=⟨#[]⟩)↔s.size=0:=⟨fun e=>by subst e;rfl,fun e=>by cases s;simp[ByteArray.size] at e;simp[e]⟩
 by_cases h0:s.size=0
 ·have h0':=he.2 h0
  simp +contextual [go_sem,eql_str,h0']
  refine hR _ _ _ (.inr rfl) ⟨_,rfl,?_⟩
  have:nameB s=false:=by simp[hn,h0]
  simp[go_sem,this];exact snap_dat rfl rfl
 have h0':¬s=⟨#[]⟩:=fun e=>h0 (he.1 e)
 have hi0:=hix 0 (by omega)
 have hc0:=call286 (byteAt s 0) (byteAt_lt s 0)
 have hlt:=byteAt_lt s 0
 simp only[show ((0:Nat):Int)=0 from rfl] at hi0
 have hfp:=first_part (byteAt s 0) hlt
 generalize s.size=z at len9 hn hix h0
 by_cases h24:24<z
 ·have h24':(24:Int)<z:=by omega
  simp +contextual [go_sem,eql_str,len9,h0',h24']
  refine hR _ _ _ (.inr rfl) ⟨_,rfl,?_⟩
  have:nameB s=false:=by rw[hn,decide_eq_false (show ¬z≤24 by omega)];simp
  simp[go_sem,this];exact snap_dat rfl rfl
 have h24':¬(24:Int)<z:=by omega
 simp +contextual [go_sem,eql_str,len9,h0',h24',hi0,hc0]
 refine Ife_iff.2 ⟨fun h1=>?_,fun h1=>?_⟩
 ·have hl:letB (byteAt s 0)=false:=by
   cases hlb:letB (byteAt s 0) with
   | false=>rfl
   | true=>
    rw[hlb] at hfp
    simp at hfp
    rw[hfp.1.1.1] at h1
    simp at h1
    omega
  simp[go_sem]
  refine hR _ _ _ (.inr rfl) ⟨_,rfl,?_⟩
  have:nameB s=false:=by rw[hn,hl];simp
  simp[go_sem,this];exact snap_dat rfl rfl
 have hl:letB (byteAt s 0)=true:=by
  rw[←hfp]
  simp only[not_or] at h1
  have p1:partB (byteAt s 0)=true:=by simpa using h1.1.1.1
  have p2:=h1.1.1.2
  have p3:=h1.1.2
  have p4:=h1.2
  rw[p1,decide_eq_false (show ¬byteAt s 0=95 by omega),decide_eq_false (show ¬byteAt s 0=35 by omega)]
  by_cases q:48≤byteAt s 0
  ·rw[decide_eq_false (show ¬byteAt s 0≤57 by omega)];simp
  ·rw[decide_eq_false q];simp
 have hn':nameB s=tailB s 0 z:=by rw[hn,hl,decide_eq_true h0,decide_eq_true (show z≤24 by omega)];simp
 simp +contextual [go_sem,len9]
 refine W_loop (NI232 s z) z ⟨0,rfl,Nat.zero_le _,rfl,by simp[go_sem],by simp[go_sem],by simp[go_sem],by rw[hn'];rfl⟩ ?_
 rintro n t h ⟨k,rfl,hk,rfl,g0,g38,g39,hd⟩
 by_cases hlt:k<z
 ·have hlt':(k:Int)<z:=by omega
  have hi:=hix k hlt
  have c1:=call286 (byteAt s k) (byteAt_lt s k)
  have w2:IntKind.i64.wrap ((k:Int)+1)=((k+1:Nat):Int):=by rw[wrap_in (by omega)];omega
  rw[show z-k=(z-(k+1))+1 by omega,tailB] at hd
  cases hp:partB (byteAt s k) with
  | true=>
   rw[hp,Bool.true_and] at hd
   simp[go_sem,g0,g38,g39,hlt',hi,c1,hp,-Int.natCast_add,w2]
   exact ⟨z-(k+1),by omega,k+1,rfl,hlt,rfl,by simp[go_sem,g0],by simp[go_sem,g38],by simp[go_sem],hd⟩
  | false=>
   rw[hp,Bool.false_and] at hd
   simp[go_sem,g0,g38,g39,hlt',hi,c1,hp]
   refine hR _ _ _ (.inr rfl) ⟨_,rfl,?_⟩
   simp[go_sem,←hd];exact snap_dat rfl rfl
 ·have:k=z:=by omega
  subst this
  simp[go_sem,g38,g39]
  refine hR _ _ _ (.inr rfl) ⟨_,rfl,?_⟩
  rw[Nat.sub_self,tailB] at hd
  simp[go_sem,←hd];exact snap_dat rfl rfl
theorem call232 (s:ByteArray) (h:H):callV C h (.func 232 []) (some [.str s])=some (.bool (nameB s),h):=callV_strip (by kernel_rfl) rfl rfl rfl (by simp) (isName232 s)
end Go.VZ

/- Validity of terms: the document's way. -/
namespace Go.VZ
open Go Go.V Go.Proofs TL
mutual
def nodesE:T→Int
 | .mk k n s l=>thn (nodeE (.mk k n s l)) (nodesEs l)
def nodesEs:List T→Int
 | []=>0
 | t::l=>thn (nodesE t) (nodesEs l)
end
theorem nodesE_eq (t:T):nodesE t=thn (nodeE t) (nodesEs t.kids):=by cases t;rw[nodesE];rfl
def validE (t:T):Int:=thn (nodesE t) (if 400<t.size∨40<t.depth then 3 else 0)
theorem depth_eq (t:T):t.depth=depths t.kids+1:=by cases t;rw[T.depth];rfl
def tc (t:T):List AV:=[.int .i64 t.kind,.str t.name,.int .i64 t.sort,.isl (t.kids.map enc) .unk]
theorem ld25t (t:T):loadV C.P [.cells [.int .i64 t.kind,.str t.name,.int .i64 t.sort,.isl (t.kids.map enc) .unk] .live] 25 (.ptr 0 0)=some (enc t):=by
 simp[loadV,cellsAt,a25,s25];rw[enc_eq];rfl
theorem call213 (t:T) (h:H):callV C h (.func 213 []) (some [enc t])=some (.int .i64 (nodeE t),h):=callV_strip (by kernel_rfl) rfl (dat_enc _) (by simp[short_enc]) (by simp) (node213 t)
def NI143 (t:T) (n:Nat) (s:PT) (h:H):Prop:=∃k:Nat,n=t.kids.length-k∧k≤t.kids.length∧h=[.cells (tc t) .live]∧s.get 1=.ptr 0 0∧s.get 4=.int .i64 k∧nodesEs (t.kids.drop k)=nodesE t
set_option maxHeartbeats 1000000 in
theorem nodes143 (t:T) (hs:t.size<4000000) (hc:∀k∈t.kids,CallP C 143 [enc k]=some (.int .i64 (nodesE k))):CallP C 143 [enc t]=some (.int .i64 (nodesE t)):=by
 refine CallP_W rfl Tryz.func143 rfl (by kernel_rfl) (by simp[Tryz.f143]) fun R hR=>?_
 have c1:=call213 t
 have hq:=nodesE_eq t
 by_cases h1:nodeE t=0
 ·simp +contextual [go_sem,terms,ld25t,c1,h1]
  refine W_loop (NI143 t) t.kids.length ⟨0,rfl,Nat.zero_le _,rfl,by simp[go_sem],by simp[go_sem],by rw[hq,h1];rfl⟩ ?_
  rintro n s h ⟨k,rfl,hk,rfl,g1,g4,hd⟩
  have hlen:=len_sizes t.kids
  have hsz:=size_kids t
  by_cases hlt:k<t.kids.length
  ·have hlt':(k:Int)<t.kids.length:=by omega
   have hix:=idx23 t.kids k hlt .unk
   have ck:∀h,callV C h (.func 143 []) (some [enc t.kids[k]])=some (.int .i64 (nodesE t.kids[k]),h):=fun h=>callV_strip (by kernel_rfl) rfl (dat_enc _) (by simp[short_enc]) (by simp) (hc _ (List.getElem_mem hlt))
   have w1:IntKind.i64.wrap ((k:Int)+1)=((k+1:Nat):Int):=by rw[wrap_in (by omega)];omega
   rw[List.drop_eq_getElem_cons hlt,nodesEs] at hd
   by_cases h2:nodesE t.kids[k]=0
   ·rw[h2] at hd
    simp[go_sem,tc,ld23q,len23,g1,g4,hlt',hix,ld25,ck,h2,-Int.natCast_add,w1]
    exact ⟨t.kids.length-(k+1),by omega,k+1,rfl,hlt,rfl,by simp[go_sem,g1],by simp[go_sem],hd⟩
   ·simp[go_sem,tc,ld23q,len23,g1,g4,hlt',hix,ld25,ck,h2]
    refine hR _ _ _ (.inr rfl) ⟨_,rfl,?_⟩
    simp[go_sem,←hd,thn,h2];exact snap_dat rfl rfl
  ·have:k=t.kids.length:=by omega
   subst this
   simp[go_sem,tc,ld23q,len23,g1,g4]
   refine hR _ _ _ (.inr rfl) ⟨_,rfl,?_⟩
   rw[List.drop_length,nodesEs] at hd
   simp[go_sem,←hd];exact snap_dat rfl rfl
 ·simp +contextual [go_sem,initS,terms,ld25t,c1,h1]
  refine hR _ _ _ (.inr rfl) ⟨_,rfl,?_⟩
  simp[go_sem,hq,thn,h1];exact snap_dat rfl rfl
theorem nodes143_all (t:T):t.size<4000000→CallP C 143 [enc t]=some (.int .i64 (nodesE t)):=by
 induction t using T.ind with
 | _ t ih=>exact fun hs=>nodes143 t hs (fun k hk=>ih k hk (by have:=kid_size hk;omega))
theorem call143 (t:T) (hs:t.size<4000000) (h:H):callV C h (.func 143 []) (some [enc t])=some (.int .i64 (nodesE t),h):=callV_strip (by kernel_rfl) rfl (dat_enc _) (by simp[short_enc]) (by simp) (nodes143_all t hs)
theorem depth_le (t:T):t.depth≤t.size∧0<t.depth:=by
 induction t using T.ind with
 | _ t ih=>
  rw[depth_eq,size_kids]
  have:depths t.kids≤sizes t.kids:=by
   generalize t.kids=l at ih
   induction l with
   | nil=>simp[depths,sizes]
   | cons a l ihl=>
    have h1:=ih a (by simp)
    have h2:=ihl (fun k hk=>ih k (by simp[hk]))
    rw[depths,sizes];omega
  omega
def NI145 (t:T) (n:Nat) (s:PT) (h:H):Prop:=∃k c:Nat,n=t.kids.length-k∧k≤t.kids.length∧h=[.cells (tc t) .live]∧s.get 1=.ptr 0 0∧s.get 3=.int .i64 c∧s.get 4=.int .i64 k∧max c (depths (t.kids.drop k))=depths t.kids
theorem max_int (P:Program) (a b:Int):minmaxV P true [.int .i64 a,.int .i64 b]=some (.int .i64 (max a b)):=by
 simp only[minmaxV,toList,toScalar]
 have e:pureVal P (Builtin.max_ #[] 0 [Value.int .i64 a,.int .i64 b].toArray)=some (.int .i64 (max a b)):=by
  simp only[Builtin.max_,List.foldlM,Builtin.max2,pureVal_bind,pureVal_pure,Option.bind_some]
  congr 2
  split<;>omega
 simp[e,ofConst,ofScalar]
set_option maxHeartbeats 1000000 in
theorem depth145 (t:T) (hs:t.size<4000000) (hc:∀k∈t.kids,CallP C 145 [enc k]=some (.int .i64 k.depth)):CallP C 145 [enc t]=some (.int .i64 t.depth):=by
 refine CallP_W rfl Tryz.func145 rfl (by kernel_rfl) (by simp[Tryz.f145]) fun R hR=>?_
 simp +contextual [go_sem,terms]
 refine W_loop (NI145 t) t.kids.length ⟨0,0,rfl,Nat.zero_le _,rfl,by simp[go_sem],by simp[go_sem],by simp[go_sem],by simp⟩ ?_
 rintro n s h ⟨k,c,rfl,hk,rfl,g1,g3,g4,hd⟩
 have hlen:=len_sizes t.kids
 have hsz:=size_kids t
 have hde:=depth_eq t
 have hdl:=(depth_le t).1
 by_cases hlt:k<t.kids.length
 ·have hlt':(k:Int)<t.kids.length:=by omega
  have hix:=idx23 t.kids k hlt .unk
  have ck:∀h,callV C h (.func 145 []) (some [enc t.kids[k]])=some (.int .i64 (t.kids[k].depth:Nat),h):=fun h=>callV_strip (by kernel_rfl) rfl (dat_enc _) (by simp[short_enc]) (by simp) (hc _ (List.getElem_mem hlt))
  have w1:IntKind.i64.wrap ((k:Int)+1)=((k+1:Nat):Int):=by rw[wrap_in (by omega)];omega
  rw[List.drop_eq_getElem_cons hlt,depths,←Nat.max_assoc] at hd
  simp[go_sem,tc,ld23q,len23,g1,g3,g4,hlt',hix,ld25,ck,max_int,-Int.natCast_add,w1]
  refine ⟨t.kids.length-(k+1),by omega,k+1,max c t.kids[k].depth,rfl,hlt,rfl,by simp[go_sem,g1],?_,by simp[go_sem],hd⟩
  simp[go_sem];omega
 ·have:k=t.kids.length:=by omega
  subst this
  rw[List.drop_length,depths] at hd
  have hc0:c=depths t.kids:=by omega
  have w1:IntKind.i64.wrap ((c:Int)+1)=(t.depth:Nat):=by rw[wrap_in (by omega)];omega
  simp[go_sem,tc,ld23q,len23,g1,g3,g4,w1]
  refine hR _ _ _ (.inr rfl) ⟨_,rfl,?_⟩
  simp[go_sem];exact snap_dat rfl rfl
theorem depth145_all (t:T):t.size<4000000→CallP C 145 [enc t]=some (.int .i64 t.depth):=by
 induction t using T.ind with
 | _ t ih=>exact fun hs=>depth145 t hs (fun k hk=>ih k hk (by have:=kid_size hk;omega))
theorem call145 (t:T) (hs:t.size<4000000) (h:H):callV C h (.func 145 []) (some [enc t])=some (.int .i64 t.depth,h):=callV_strip (by kernel_rfl) rfl (dat_enc _) (by simp[short_enc]) (by simp) (depth145_all t hs)
theorem callS144 (t:T) (hs:t.size<4000000) (h:H):callV C h (.func 144 []) (some [enc t])=some (.int .i64 t.size,h):=callV_strip (by kernel_rfl) rfl (dat_enc _) (by simp[short_enc]) (by simp) (size144_all t hs)
set_option maxHeartbeats 1000000 in
theorem valid86 (t:T) (hs:t.size<4000000):CallP C 86 [enc t]=some (.int .i64 (validE t)):=by
 refine CallP_W rfl Tryz.func86 rfl (by kernel_rfl) (by simp[Tryz.f86]) fun R hR=>?_
 have c1:=call143 t hs
 have c2:=callS144 t hs
 have c3:=call145 t hs
 simp +contextual [go_sem,terms,ld25t,c1]
 refine Ife_iff.2 ⟨fun h1=>?_,fun h1=>?_⟩
 ·simp[go_sem]
  refine hR _ _ _ (.inr rfl) ⟨_,rfl,?_⟩
  simp[go_sem,validE,thn,h1];exact snap_dat rfl rfl
 simp only[Decidable.not_not] at h1
 simp +contextual [go_sem,ld25t,c2,c3]
 refine Ife_iff.2 ⟨fun h2=>?_,fun h2=>?_⟩
 ·simp[go_sem]
  refine hR _ _ _ (.inr rfl) ⟨_,rfl,?_⟩
  simp[go_sem,validE,thn,h1,show 400<t.size∨40<t.depth by omega];exact snap_dat rfl rfl
 ·simp[go_sem]
  refine hR _ _ _ (.inr rfl) ⟨_,rfl,?_⟩
  simp[go_sem,validE,thn,h1,show ¬(400<t.size∨40<t.depth) by omega];exact snap_dat rfl rfl
theorem dat_enc' (t:T):dat (enc t)=some (enc t):=by rw[enc_eq];rfl
theorem call86 (t:T) (hs:t.size<4000000) (h:H):callV C h (.func 86 []) (some [enc t])=some (.int .i64 (validE t),h):=callV_strip (by kernel_rfl) rfl (dat_enc _) (by simp[short_enc]) (by simp) (valid86 t hs)
end Go.VZ

/- Validity of terms: the program's way. -/
namespace Go.VZ
open Go Go.V Go.Proofs TL
theorem callV_open {f:FuncId}{args:List AV}{h:H}(hb:hasBody C.P f=true) (hm:C.mode f=.openH):callV C h (.func f []) (some args)=Go.V.Call C f args h:=by
 simp only[callV,hb,if_true,List.append_nil]
 unfold applyCall
 rw[hm]
theorem ldp3 {h:H}{p:Nat}{x:AV}{_st:OSt}(hp:h[p]?=some (.cells [x] .live)):loadV C.P h 3 (.ptr p 0)=some x:=by simp[loadV,hp,cellsAt,a3,s3]
theorem stp3 {h:H}{p:Nat}{x:AV}(v:Int) (hp:h[p]?=some (.cells [x] .live)):storeV C.P h 3 (.ptr p 0) (.int .i64 v)=some (h.set p (.cells [.int .i64 v] .live)):=by simp[storeV,hp,s3]
def Two (h h':H) (p q:Nat) (n d:Int):Prop:=h.length≤h'.length∧(∀i,i<h.length→i≠p→i≠q→h'[i]?=h[i]?)∧h'[p]?=some (.cells [.int .i64 n] .live)∧h'[q]?=some (.cells [.int .i64 d] .live)
theorem Two.trans {h h1 h2:H}{p q:Nat}{n d n' d':Int}(_hp:p<h.length) (_hq:q<h.length) (a:Two h h1 p q n d) (b:Two h1 h2 p q n' d'):Two h h2 p q n' d':=
 ⟨Nat.le_trans a.1 b.1,fun i hi h1 h2=>(b.2.1 i (Nat.lt_of_lt_of_le hi a.1) h1 h2).trans (a.2.1 i hi h1 h2),b.2.2.1,b.2.2.2⟩
theorem Two.push {h h1:H}{p q:Nat}{n d:Int}(a:Two h h1 p q n d) (hp:p<h.length) (hq:q<h.length) (x:List VObj):Two h (h1++x) p q n d:=by
 obtain ⟨a1,a2,a3,a4⟩:=a
 refine ⟨by simp;omega,fun i hi h1' h2'=>?_,?_,?_⟩
 ·rw[List.getElem?_append_left (by omega)];exact a2 i hi h1' h2'
 ·rw[List.getElem?_append_left (by omega)];exact a3
 ·rw[List.getElem?_append_left (by omega)];exact a4
theorem ldtc {h:H}{b:Nat}{t:T}(hb:h[b]?=some (.cells (tc t) .live)):loadV C.P h 3 (.ptr b 0)=some (.int .i64 t.kind)∧loadV C.P h 9 (.ptr b 1)=some (.str t.name)∧loadV C.P h 3 (.ptr b 2)=some (.int .i64 t.sort)∧loadV C.P h 23 (.ptr b 3)=some (.isl (t.kids.map enc) .unk)∧loadV C.P h 25 (.ptr b 0)=some (enc t):=by
 refine ⟨?_,?_,?_,?_,?_⟩
 ·simp[loadV,hb,cellsAt,a3,s3,tc]
 ·simp[loadV,hb,cellsAt,a9,s9,tc]
 ·simp[loadV,hb,cellsAt,a3,s3,tc]
 ·simp[loadV,hb,cellsAt,a23,s23,tc]
 ·simp[loadV,hb,cellsAt,a25,s25,tc];rw[enc_eq];rfl
def nilV:AV→Option AV
 | .ptr i n=>some (.ptr i n)
 | .iptr e n=>some (.iptr e n)
 | .func f c=>some (.func f c)
 | _=>none
@[go_sem] theorem nilV_ptr (i n:Nat):nilV (.ptr i n)=some (.ptr i n):=(rfl)
@[go_sem] theorem OWnilCheck {C:Cfg}{cf:FuncId}{ops:Array Oper}{d:Tmp}{ty:TypeId}{p:String}{af:Array Edge}{l:List Oper}{s:PT}{h:H}{K:PT→H→Prop}(x:Operand) :
  OW C cf ops (⟨some d,.nilCheck x,ty,p,af,none⟩::l) s h K↔bO (bi1 (ev s x) nilV) fun v=>OW C cf ops l (s.set d v) h K:=OWn (by simp only[opN,bi1,nilV];cases ev s x<;>first | rfl | (rename_i c;cases c<;>rfl)) rfl rfl
theorem badN_iff (t:T):badN t=true↔(t.kind≠1∧t.kind≠2∧t.kind≠3)∨t.sort<0∨5<t.sort∨(t.kind≠1∧t.kind≠2∧t.sort≠0)∨((t.kind=1∨t.kind=2)∧0<t.kids.length):=by
 simp only[badN,Bool.or_eq_true,Bool.and_eq_true,decide_eq_true_eq,or_assoc,and_assoc]
theorem bad_false {t:T}(h:¬badN t=true):badN t=false:=by simpa using h
def NI170 (t:T) (h0:H) (p q:Nat) (n d lvl:Int) (m:Nat) (s:PT) (h:H):Prop:=∃k:Nat,∃cur:Int,m=t.kids.length-k∧k≤t.kids.length∧Two h0 h p q (n+1+sizes (t.kids.take k)) cur ∧
 s.get 1=.int .i64 lvl∧s.get 2=.ptr p 0∧s.get 3=.ptr q 0∧s.get 57=.isl (t.kids.map enc) .unk∧s.get 58=.int .i64 t.kids.length∧s.get 59=.int .i64 k∧nodesEs (t.kids.drop k)=nodesE t ∧
 lvl≤cur∧max cur (lvl+depths (t.kids.drop k))=max d (lvl+depths t.kids)
def Chk (t:T):Prop:=∀(h:H) (p q:Nat) (n d lvl:Int),p≠q→h[p]?=some (.cells [.int .i64 n] .live)→h[q]?=some (.cells [.int .i64 d] .live)→0≤n→n+t.size<1000000000→0≤d→d<1000000000→0≤lvl→lvl+t.size<1000000000 →
 ∃r h',Go.V.Call C 170 [enc t,.int .i64 lvl,.ptr p 0,.ptr q 0] h=some (r,h')∧r=.int .i64 (nodesE t)∧∃n' d',Two h h' p q n' d'∧0≤n'∧n'≤n+t.size∧0≤d'∧d'<1000000000∧(nodesE t=0→n'=n+t.size∧d'=max d (lvl+t.depth-1))
set_option maxHeartbeats 4000000 in
theorem check170 (t:T) (hc:∀k∈t.kids,Chk k):Chk t:=by
 intro h p q n d lvl hpq hp hq hn0 hn1 hd0 hd1 hl0 hl1
 refine Call_WQ (Q:=fun r h'=>r=.int .i64 (nodesE t)∧∃n' d',Two h h' p q n' d'∧0≤n'∧n'≤n+t.size∧0≤d'∧d'<1000000000∧(nodesE t=0→n'=n+t.size∧d'=max d (lvl+t.depth-1))) rfl Tryz.func170 rfl (by kernel_rfl) (by simp[Tryz.f170]) fun R hR=>?_
 have hpl:=(List.getElem?_eq_some_iff.1 hp).1
 have hql:=(List.getElem?_eq_some_iff.1 hq).1
 have hsz:=size_kids t
 have hlen:=len_sizes t.kids
 have hde:=depth_eq t
 have hdl:=(depth_le t).1
 have hne:=nodesE_eq t
 have T0:Two h (h++[.cells (tc t) .live]) p q n d:=Two.push ⟨Nat.le_refl _,fun i _ _ _=>rfl,hp,hq⟩ hpl hql _
 have hb0:(h++[.cells (tc t) .live])[h.length]?=some (.cells (tc t) .live):=by simp
 obtain ⟨g0,hg0⟩:∃g,g=h++[.cells (tc t) .live]:=⟨_,rfl⟩
 have bx:boxV C.P h 25 (enc t)=some (.ptr h.length 0,g0):=by rw[box25,hg0];rfl
 rw[←hg0] at T0 hb0
 have w1:IntKind.i64.wrap (n+1)=n+1:=wrap_in (by omega)
 have T1:Two h (g0.set p (.cells [.int .i64 (n+1)] .live)) p q (n+1) d:=by
  obtain ⟨a1,a2,a3,a4⟩:=T0
  exact ⟨by simpa using a1,fun i hi h1 h2=>by rw[List.getElem?_set_ne (fun e=>h1 e.symm)];exact a2 i hi h1 h2,List.getElem?_set_self (by omega),by rw[List.getElem?_set_ne hpq];exact a4⟩
 have hb1:(g0.set p (.cells [.int .i64 (n+1)] .live))[h.length]?=some (.cells (tc t) .live):=by rw[List.getElem?_set_ne (by omega)];exact hb0
 have e1:=ldp3 (_st:=.live) T0.2.2.1
 have e2:=stp3 (n+1) T0.2.2.1
 obtain ⟨g1,hg1⟩:∃g,g=g0.set p (.cells [.int .i64 (n+1)] .live):=⟨_,rfl⟩
 rw[←hg1] at T1 hb1 e2
 have e3:=ldp3 (_st:=.live) T1.2.2.2
 have e4:=stp3 (max d lvl) T1.2.2.2
 have T2:Two h (g1.set q (.cells [.int .i64 (max d lvl)] .live)) p q (n+1) (max d lvl):=by
  obtain ⟨a1,a2,a3,a4⟩:=T1
  exact ⟨by simpa using a1,fun i hi h1 h2=>by rw[List.getElem?_set_ne (fun e=>h2 e.symm)];exact a2 i hi h1 h2,by rw[List.getElem?_set_ne (fun e=>hpq e.symm)];exact a3,List.getElem?_set_self (by omega)⟩
 have hb2:(g1.set q (.cells [.int .i64 (max d lvl)] .live))[h.length]?=some (.cells (tc t) .live):=by rw[List.getElem?_set_ne (by omega)];exact hb1
 obtain ⟨g2,hg2⟩:∃g,g=g1.set q (.cells [.int .i64 (max d lvl)] .live):=⟨_,rfl⟩
 rw[←hg2] at T2 hb2 e4
 obtain ⟨l1,l2,l3,l4,_⟩:=ldtc hb2
 have c1:=call232 t.name
 have fin:∀e,nodeE t=e→e≠0→nodesE t=e:=fun e h1 h2=>by rw[hne,h1];simp[thn,h2]
 have out:∀(s:PT),(s.get 8=.int .i64 (nodesE t))→nodesE t≠0→R .ret s g2:=fun s hs hz=>by
  refine hR _ _ _ (.inr rfl) ⟨.int .i64 (nodesE t),by simp[resultV,resV,Tryz.f170,hs],rfl,n+1,max d lvl,T2,by omega,by omega,by omega,by omega,fun e=>absurd e hz⟩
 have kk:t.kind=1∨t.kind=2∨t.kind=3∨(t.kind≠1∧t.kind≠2∧t.kind≠3):=by omega
 have bad1:badN t=true→nodesE t=1:=fun hb=>fin 1 (by simp[nodeE,hb]) (by simp)
 rcases kk with hk | hk | hk | ⟨hk1,hk2,hk3⟩
 rotate_left 3
 ·have hb:=bad1 ((badN_iff t).2 (.inl ⟨hk1,hk2,hk3⟩))
  simp +contextual [go_sem,bx,e1,e2,e3,e4,w1,max_int,l1,hk1,hk2,hk3]
  exact out _ (by simp[go_sem,hb]) (by rw[hb];simp)
 all_goals
  simp +contextual [go_sem,bx,e1,e2,e3,e4,w1,max_int,l1,l3,l4,len23,hk]
  refine Ife_iff.2 ⟨fun h1=>?_,fun h1=>?_⟩
  ·have hb:=bad1 ((badN_iff t).2 (by omega))
   simp[go_sem]
   exact out _ (by simp[go_sem,hb]) (by rw[hb];simp)
  have hnb:=bad_false (t:=t) (fun hb=>by have:=(badN_iff t).1 hb;omega)
  simp +contextual [go_sem,l2,c1]
  refine Ife_iff.2 ⟨fun h2=>?_,fun h2=>?_⟩
  ·have hb:=fin 2 (by simp[nodeE,hnb,h2]) (by simp)
   simp[go_sem]
   exact out _ (by simp[go_sem,hb]) (by rw[hb];simp)
  simp at h2
  simp +contextual [go_sem,l4,len23]
  refine Ife_iff.2 ⟨fun h3=>?_,fun h3=>?_⟩
  ·have hb:=fin 3 (by simp[nodeE,hnb,h2,show 8<t.kids.length by omega]) (by simp)
   simp[go_sem]
   exact out _ (by simp[go_sem,hb]) (by rw[hb];simp)
  have hn0':nodeE t=0:=by simp[nodeE,hnb,h2,show ¬8<t.kids.length by omega]
  simp +contextual [go_sem,l4,len23]
  refine W_loop (NI170 t h p q n d lvl) t.kids.length ⟨0,max d lvl,rfl,Nat.zero_le _,by simpa [sizes] using T2,by simp[go_sem],by simp[go_sem],by simp[go_sem],by simp[go_sem],by simp[go_sem],by simp[go_sem],by rw[hne,hn0'];rfl,by omega,by simp only[List.drop_zero];omega⟩ ?_
  rintro m s hh ⟨k,cur,rfl,hkl,TT,g1',g2',g3',g57,g58,g59,hd,hcl,hcm⟩
  by_cases hlt:k<t.kids.length
  ·have hlt':(k:Int)<t.kids.length:=by omega
   have hix:=idx23 t.kids k hlt .unk
   have t1:=take_sizes hlt
   have t2:=take_sizes_le t.kids (k+1)
   have ksz:=kid_size (List.getElem_mem hlt)
   have w2:IntKind.i64.wrap ((k:Int)+1)=((k+1:Nat):Int):=by rw[wrap_in (by omega)];omega
   have w3:IntKind.i64.wrap (lvl+1)=lvl+1:=wrap_in (by omega)
   have TT':=TT.push hpl hql [.cells [.int .i64 t.kids[k].kind,.str t.kids[k].name,.int .i64 t.kids[k].sort,terms t.kids[k].kids] .live]
   obtain ⟨hz,ehz⟩:∃g,g=hh++[.cells [.int .i64 t.kids[k].kind,.str t.kids[k].name,.int .i64 t.kids[k].sort,terms t.kids[k].kids] .live]:=⟨_,rfl⟩
   rw[←ehz] at TT'
   have hpl':p<hz.length:=by have:=TT'.1;omega
   have hql':q<hz.length:=by have:=TT'.1;omega
   obtain ⟨r,h',cc,rfl,n',d',T3,u1,u2,u3,u4,u5⟩:=hc _ (List.getElem_mem hlt) hz p q (n+1+sizes (t.kids.take k)) cur (lvl+1) hpq TT'.2.2.1 TT'.2.2.2 (by omega) (by omega) (by omega) (by omega) (by omega) (by omega)
   have cv:=(callV_open (f:=170) (by kernel_rfl) rfl).trans cc
   rw[ehz] at cv
   have T4:=Two.trans hpl hql TT' T3
   rw[List.drop_eq_getElem_cons hlt,nodesEs] at hd
   rw[List.drop_eq_getElem_cons hlt,depths] at hcm
   have kdl:=depth_le t.kids[k]
   by_cases h4:nodesE t.kids[k]=0
   ·rw[h4] at hd cv
    obtain ⟨u6,u7⟩:=u5 h4
    simp[go_sem,g1',g2',g3',g57,g58,g59,hlt',hix,ld25,st25,ldb25,-Int.natCast_add,w2,w3,cv]
    exact ⟨t.kids.length-(k+1),by omega,k+1,d',rfl,hlt,by rw[show n+1+sizes (t.kids.take (k+1))=n' by omega];exact T4,by simp[go_sem,g1'],by simp[go_sem,g2'],by simp[go_sem,g3'],by simp[go_sem,g57],by simp[go_sem,g58],by simp[go_sem],hd,by omega,by omega⟩
   ·have hne2:nodesE t.kids[k]=nodesE t:=by rw[←hd];simp[thn,h4]
    simp[go_sem,g1',g2',g3',g57,g58,g59,hlt',hix,ld25,st25,ldb25,-Int.natCast_add,w3,cv,h4]
    refine hR _ _ _ (.inr rfl) ⟨.int .i64 (nodesE t),by simp[resultV,resV,Tryz.f170,go_sem,hne2],rfl,_,_,T4,by omega,by omega,by omega,by omega,fun e=>absurd (hne2.trans e) h4⟩
  ·have:k=t.kids.length:=by omega
   subst this
   rw[List.take_length] at TT
   rw[List.drop_length,depths] at hcm
   rw[List.drop_length,nodesEs] at hd
   simp[go_sem,g58,g59]
   refine hR _ _ _ (.inr rfl) ⟨.int .i64 (nodesE t),by simp[resultV,resV,Tryz.f170,go_sem,←hd],rfl,_,_,TT,by omega,by omega,by omega,by omega,fun _=>⟨by omega,by omega⟩⟩
end Go.VZ

/- Valid of terms and Fits, both ways. -/
namespace Go.VZ
open Go Go.V Go.Proofs TL
theorem check170_all (t:T):Chk t:=by
 induction t using T.ind with
 | _ t ih=>exact check170 t ih
theorem ld25c (t:T) (l:List VObj):loadV C.P (.cells [.int .i64 t.kind,.str t.name,.int .i64 t.sort,.isl (t.kids.map enc) .unk] .live::l) 25 (.ptr 0 0)=some (enc t):=by
 simp[loadV,cellsAt,a25,s25];rw[enc_eq];rfl
theorem ld25d (x:VObj) (t:T) (l:List VObj):loadV C.P (x::.cells [.int .i64 t.kind,.str t.name,.int .i64 t.sort,.isl (t.kids.map enc) .unk] .live::l) 25 (.ptr 1 0)=some (enc t):=by
 simp[loadV,cellsAt,a25,s25];rw[enc_eq];rfl
@[go_sem] theorem ld3c0 (k s:Int) (n x:AV) (l:List VObj):loadV C.P (.cells [.int .i64 k,n,.int .i64 s,x] .live::l) 3 (.ptr 0 0)=some (.int .i64 k):=by simp[loadV,cellsAt,a3,s3]
@[go_sem] theorem ld3c2 (k s:Int) (n x:AV) (l:List VObj):loadV C.P (.cells [.int .i64 k,n,.int .i64 s,x] .live::l) 3 (.ptr 0 2)=some (.int .i64 s):=by simp[loadV,cellsAt,a3,s3]
@[go_sem] theorem ld3d0 (k s:Int) (n x:AV) (y:VObj) (l:List VObj):loadV C.P (y::.cells [.int .i64 k,n,.int .i64 s,x] .live::l) 3 (.ptr 1 0)=some (.int .i64 k):=by simp[loadV,cellsAt,a3,s3]
@[go_sem] theorem ld3d2 (k s:Int) (n x:AV) (y:VObj) (l:List VObj):loadV C.P (y::.cells [.int .i64 k,n,.int .i64 s,x] .live::l) 3 (.ptr 1 2)=some (.int .i64 s):=by simp[loadV,cellsAt,a3,s3]
@[go_sem] theorem zv3:zeroV C.P 3=some (.int .i64 0):=by kernel_rfl
@[go_sem] theorem cells_int (v:Int):(AV.int .i64 v).cells=[.int .i64 v]:=(rfl)
set_option maxRecDepth 8000 in
set_option maxHeartbeats 1000000 in
theorem valid111 (t:T) (hs:t.size<4000000):CallP C 111 [enc t]=some (.int .i64 (validE t)):=by
 refine CallP_W rfl Tryz.func111 rfl (by kernel_rfl) (by simp[Tryz.f111]) fun R hR=>?_
 obtain ⟨r,h',cc,rfl,n',d',T3,u1,u2,u3,u4,u5⟩:=check170_all t [.cells (tc t) .live,.cells [.int .i64 0] .live,.cells [.int .i64 0] .live] 1 2 0 0 1 (by omega) rfl rfl (by omega) (by omega) (by omega) (by omega) (by omega) (by omega)
 have cv:=(callV_open (f:=170) (by kernel_rfl) rfl).trans cc
 have l1:=ldp3 (_st:=.live) T3.2.2.1
 have l2:=ldp3 (_st:=.live) T3.2.2.2
 have hdp:=depth_le t
 simp only[tc] at cv
 have s1:=fun x:VObj=>stp3 (h:=[x,.cells [.int .i64 0] .live,.cells [.int .i64 0] .live]) (p:=1) (x:=.int .i64 0) 0 rfl
 have s2:=fun x:VObj=>stp3 (h:=[x,.cells [.int .i64 0] .live,.cells [.int .i64 0] .live]) (p:=2) (x:=.int .i64 0) 0 rfl
 simp only[List.set] at s1 s2
 simp +contextual [go_sem,terms,ld25c,cv,s1,s2]
 refine Ife_iff.2 ⟨fun h1=>?_,fun h1=>?_⟩
 ·simp[go_sem]
  refine hR _ _ _ (.inr rfl) ⟨_,rfl,?_⟩
  simp[go_sem,validE,thn,h1];exact snap_dat rfl rfl
 simp only[Decidable.not_not] at h1
 obtain ⟨u6,u7⟩:=u5 h1
 simp +contextual [go_sem,l1,l2]
 refine Ife_iff.2 ⟨fun h2=>?_,fun h2=>?_⟩
 ·simp[go_sem]
  refine hR _ _ _ (.inr rfl) ⟨_,rfl,?_⟩
  simp[go_sem,validE,thn,h1,show 400<t.size∨40<t.depth by omega];exact snap_dat rfl rfl
 ·simp[go_sem]
  refine hR _ _ _ (.inr rfl) ⟨_,rfl,?_⟩
  simp[go_sem,validE,thn,h1,show ¬(400<t.size∨40<t.depth) by omega];exact snap_dat rfl rfl
theorem call111 (t:T) (hs:t.size<4000000) (h:H):callV C h (.func 111 []) (some [enc t])=some (.int .i64 (validE t),h):=callV_strip (by kernel_rfl) rfl (dat_enc _) (by simp[short_enc]) (by simp) (valid111 t hs)
def fitsB (a b:T):Bool:=decide (validE a=0)&&decide (validE b=0)&&decide (a.kind=1)&&(decide (a.sort=0)||(decide (b.kind≠3)&&decide (b.sort=a.sort)))
set_option maxRecDepth 8000 in
set_option maxHeartbeats 1000000 in
theorem fits113 (a b:T) (hs:a.size<4000000) (hb:b.size<4000000):CallP C 113 [enc a,enc b]=some (.bool (fitsB a b)):=by
 refine CallP_W rfl Tryz.func113 rfl (by kernel_rfl) (by simp[Tryz.f113]) fun R hR=>?_
 have c1:=call111 a hs
 have c2:=call111 b hb
 simp +contextual [go_sem,terms,ld25c,ld25d,c1,c2]
 refine Ife_iff.2 ⟨fun h1=>?_,fun h1=>?_⟩
 ·simp +contextual [go_sem]
  refine hR _ _ _ (.inr rfl) ⟨_,rfl,?_⟩
  have:fitsB a b=false:=by
   simp only[fitsB,Bool.and_eq_false_iff,decide_eq_false_iff_not];omega
  simp[go_sem,this];exact snap_dat rfl rfl
 ·simp +contextual [go_sem]
  refine hR _ _ _ (.inr rfl) ⟨_,rfl,?_⟩
  simp[go_sem]
  have:fitsB a b=(decide (a.sort=0) || !decide (b.kind=3)&&decide (b.sort=a.sort)):=by
   simp only[not_or,Decidable.not_not] at h1
   simp[fitsB,h1]
  rw[this];exact snap_dat rfl rfl
theorem call113 (a b:T) (hs:a.size<4000000) (hb:b.size<4000000) (h:H):callV C h (.func 113 []) (some [enc a,enc b])=some (.bool (fitsB a b),h):=callV_strip (by kernel_rfl) rfl (dat_enc2 _ _) (by simp[short_enc]) (by simp) (fits113 a b hs hb)
theorem dat_encI (t:T) (n:Int):dats [enc t,.int .i64 n]=some [enc t,.int .i64 n]:=by rw[enc_eq];rfl
theorem short_int (n:Int):short (.int .i64 n)=true:=rfl
end Go.VZ

/- Budgets of the document. -/
namespace Go.VZ
open Go Go.V Go.Proofs TL
mutual
def budget:T→Int→Int
 | .mk _ nm _ l,n=>if n≤0∨40<(nm.size:Int) then -1 else budgets l (n-1)
def budgets:List T→Int→Int
 | [],n=>n
 | t::l,n=>if budget t n<0 then -1 else budgets l (budget t n)
end
theorem budget_eq (t:T) (n:Int):budget t n=if n≤0∨40<(t.name.size:Int) then -1 else budgets t.kids (n-1):=by cases t;rw[budget];rfl
theorem budgets_of {l:List T}(ih:∀t∈l,∀n:Int,-1≤budget t n∧(0≤budget t n→budget t n+t.size=n)):∀n:Int,-1≤n→-1≤budgets l n∧(0≤budgets l n→budgets l n+sizes l=n):=by
 induction l with
 | nil=>intro n hn;rw[budgets,sizes];exact ⟨hn,fun _=>by omega⟩
 | cons a l ihl=>
  intro n hn
  have h1:=ih a (by simp) n
  have h2:=ihl (fun t ht=>ih t (by simp[ht])) (budget a n) h1.1
  rw[budgets,sizes]
  split
  ·exact ⟨by omega,fun h=>by omega⟩
  ·exact ⟨h2.1,fun h=>by have:=h2.2 h;have:=h1.2 (by omega);omega⟩
theorem budget_law (t:T):∀n:Int,-1≤budget t n∧(0≤budget t n→budget t n+t.size=n):=by
 induction t using T.ind with
 | _ t ih=>
  intro n
  rw[budget_eq]
  split
  ·exact ⟨by omega,fun h=>by omega⟩
  ·rename_i h
   have hb:=budgets_of ih (n-1) (by omega)
   have:=size_kids t
   exact ⟨hb.1,fun h=>by have:=hb.2 h;omega⟩
theorem budgets_law (l:List T) (n:Int) (hn:-1≤n):-1≤budgets l n∧(0≤budgets l n→budgets l n+sizes l=n):=budgets_of (fun t _=>budget_law t) n hn
def NI29 (t:T) (n0:Int) (m:Nat) (s:PT) (h:H):Prop:=∃k:Nat,∃n:Int,m=t.kids.length-k∧k≤t.kids.length∧h=[.cells (tc t) .live]∧s.get 2=.ptr 0 0∧s.get 1=.int .i64 n∧s.get 5=.int .i64 k∧0≤n∧n+k≤n0∧budgets (t.kids.drop k) n=budget t n0
set_option maxHeartbeats 1000000 in
theorem budget29 (t:T) (hc:∀k∈t.kids,∀n:Int,n<4000000→CallP C 29 [enc k,.int .i64 n]=some (.int .i64 (budget k n))) (n:Int) (hn:n<4000000):CallP C 29 [enc t,.int .i64 n]=some (.int .i64 (budget t n)):=by
 refine CallP_W rfl Tryz.func29 rfl (by kernel_rfl) (by simp[Tryz.f29]) fun R hR=>?_
 simp +contextual [go_sem,terms,ld9n,len9]
 refine Ife_iff.2 ⟨fun h1=>?_,fun h1=>?_⟩
 ·simp[go_sem]
  refine hR _ _ _ (.inr rfl) ⟨_,rfl,?_⟩
  have:budget t n = -1:=by rw[budget_eq,if_pos h1]
  simp[go_sem,this];exact snap_dat rfl rfl
 have hb:budget t n=budgets t.kids (n-1):=by rw[budget_eq,if_neg h1]
 have w1:IntKind.i64.wrap (n-1)=n-1:=wrap_in (by omega)
 simp +contextual [go_sem,w1]
 refine W_loop (NI29 t n) t.kids.length ⟨0,n-1,rfl,Nat.zero_le _,rfl,by simp[go_sem],by simp[go_sem],by simp[go_sem],by omega,by omega,hb.symm⟩ ?_
 rintro m s h ⟨k,c,rfl,hk,rfl,g2,g1,g5,hc0,hcn,hd⟩
 by_cases hlt:k<t.kids.length
 ·have hlt':(k:Int)<t.kids.length:=by omega
  have hix:=idx23 t.kids k hlt .unk
  have ck:∀h,callV C h (.func 29 []) (some [enc t.kids[k],.int .i64 c])=some (.int .i64 (budget t.kids[k] c),h):=fun h=>callV_strip (by kernel_rfl) rfl (dat_encI _ _) (by simp[short_enc,short_int]) (by simp) (hc _ (List.getElem_mem hlt) c (by omega))
  have hbl:=budget_law t.kids[k] c
  have w2:IntKind.i64.wrap ((k:Int)+1)=((k+1:Nat):Int):=by rw[wrap_in (by omega)];omega
  have hsz:=size_kids t.kids[k]
  rw[List.drop_eq_getElem_cons hlt,budgets] at hd
  by_cases h2:budget t.kids[k] c<0
  ·rw[if_pos h2] at hd
   simp[go_sem,tc,ld23q,len23,g1,g2,g5,hlt',hix,ld25,ck,h2]
   refine hR _ _ _ (.inr rfl) ⟨_,rfl,?_⟩
   simp[go_sem,←hd];exact snap_dat rfl rfl
  ·rw[if_neg h2] at hd
   have:=hbl.2 (by omega)
   simp[go_sem,tc,ld23q,len23,g1,g2,g5,hlt',hix,ld25,ck,h2,-Int.natCast_add,w2]
   exact ⟨t.kids.length-(k+1),by omega,k+1,_,rfl,hlt,rfl,by simp[go_sem,g2],by simp[go_sem],by simp[go_sem],by omega,by omega,hd⟩
 ·have:k=t.kids.length:=by omega
  subst this
  rw[List.drop_length,budgets] at hd
  simp[go_sem,tc,ld23q,len23,g1,g2,g5]
  refine hR _ _ _ (.inr rfl) ⟨_,rfl,?_⟩
  simp[go_sem,←hd];exact snap_dat rfl rfl
theorem budget29_all (t:T):∀n:Int,n<4000000→CallP C 29 [enc t,.int .i64 n]=some (.int .i64 (budget t n)):=by
 induction t using T.ind with
 | _ t ih=>exact budget29 t ih
theorem call29 (t:T) (n:Int) (hn:n<4000000) (h:H):callV C h (.func 29 []) (some [enc t,.int .i64 n])=some (.int .i64 (budget t n),h):=callV_strip (by kernel_rfl) rfl (dat_encI _ _) (by simp[short_enc,short_int]) (by simp) (budget29_all t n hn)
def fewT (l:List T) (c n:Int):Bool:=decide ((l.length:Int)≤c)&&decide (0≤budgets l n)
def NI9 (l:List T) (n0:Int) (m:Nat) (s:PT) (h:H):Prop:=∃k:Nat,∃n:Int,m=l.length-k∧k≤l.length∧h=[]∧s.get 0=terms l∧s.get 2=.int .i64 n∧s.get 7=.int .i64 k∧0≤n∧n+k≤n0∧budgets (l.drop k) n=budgets l n0
set_option maxHeartbeats 1000000 in
theorem few9 (l:List T) (c n:Int) (hn:n<4000000) (hn0:0≤n):CallP C 9 [terms l,.int .i64 c,.int .i64 n]=some (.bool (fewT l c n)):=by
 refine CallP_W rfl Tryz.func9 rfl (by kernel_rfl) (by simp[Tryz.f9]) fun R hR=>?_
 simp +contextual [go_sem,terms,len23]
 refine Ife_iff.2 ⟨fun h1=>?_,fun h1=>?_⟩
 ·simp[go_sem]
  refine hR _ _ _ (.inr rfl) ⟨_,rfl,?_⟩
  have:fewT l c n=false:=by simp[fewT];omega
  simp[go_sem,this];exact snap_dat rfl rfl
 have hb:fewT l c n=decide (0≤budgets l n):=by simp[fewT,show (l.length:Int)≤c by omega]
 simp +contextual [go_sem]
 refine W_loop (NI9 l n) l.length ⟨0,n,rfl,Nat.zero_le _,rfl,by simp[go_sem,terms],by simp[go_sem],by simp[go_sem],by omega,by omega,rfl⟩ ?_
 rintro m s h ⟨k,c,rfl,hk,rfl,g0,g2,g7,hc0,hcn,hd⟩
 simp only[terms] at g0
 by_cases hlt:k<l.length
 ·have hlt':(k:Int)<l.length:=by omega
  have hix:=idx23 l k hlt .unk
  have ck:=call29 l[k] c (by omega)
  have hbl:=budget_law l[k] c
  have w2:IntKind.i64.wrap ((k:Int)+1)=((k+1:Nat):Int):=by rw[wrap_in (by omega)];omega
  have hsz:=size_kids l[k]
  rw[List.drop_eq_getElem_cons hlt,budgets] at hd
  by_cases h2:budget l[k] c<0
  ·rw[if_pos h2] at hd
   simp[go_sem,len23,g0,g2,g7,hlt',hix,ld25,ck,h2]
   refine hR _ _ _ (.inr rfl) ⟨_,rfl,?_⟩
   simp[go_sem,hb,←hd];exact snap_dat rfl rfl
  ·rw[if_neg h2] at hd
   have:=hbl.2 (by omega)
   simp[go_sem,len23,g0,g2,g7,hlt',hix,ld25,ck,h2,-Int.natCast_add,w2]
   exact ⟨l.length-(k+1),by omega,k+1,_,rfl,hlt,rfl,by simp[go_sem,g0,terms],by simp[go_sem],by simp[go_sem],by omega,by omega,hd⟩
 ·have:k=l.length:=by omega
  subst this
  rw[List.drop_length,budgets] at hd
  simp[go_sem,len23,g0,g7]
  refine hR _ _ _ (.inr rfl) ⟨_,rfl,?_⟩
  simp[go_sem,hb,←hd,hc0];exact snap_dat rfl rfl
theorem short_terms (l:List T):short (terms l)=true:=rfl
end Go.VZ

/- Bindings: their form, and Valid both ways. -/
namespace Go.VZ
open Go Go.V Go.Proofs TL
def encB (b:T × T):AV:=.agg [.int .i64 b.1.kind,.str b.1.name,.int .i64 b.1.sort,terms b.1.kids,.int .i64 b.2.kind,.str b.2.name,.int .i64 b.2.sort,terms b.2.kids]
def binds (l:List (T × T)):AV:=.isl (l.map encB) .unk
theorem u46:C.P.underlying 46=some (.slice 86):=Tryz.underlying46
theorem s86:sizeV C.P 86=some 8:=by kernel_rfl
theorem s46:sizeV C.P 46=some 1:=by kernel_rfl
theorem a86:isAggB C.P 86=some true:=by kernel_rfl
theorem a46:isAggB C.P 46=some false:=by kernel_rfl
attribute [go_sem] u46 s86 s46 a86 a46
theorem fa86_0 (i:Nat):fieldAddrV C.P 86 (.ptr i 0) 0=some (.ptr i 0):=by kernel_rfl
theorem fa86_1 (i:Nat):fieldAddrV C.P 86 (.ptr i 0) 1=some (.ptr i 4):=by kernel_rfl
theorem fa86i_0 (e:AV):fieldAddrV C.P 86 (.iptr e 0) 0=some (.iptr e 0):=by kernel_rfl
theorem fa86i_1 (e:AV):fieldAddrV C.P 86 (.iptr e 0) 1=some (.iptr e 4):=by kernel_rfl
attribute [go_sem] fa86_0 fa86_1 fa86i_0 fa86i_1
theorem zv86:zeroV C.P 86=some (.agg [.int .i64 0,.str ⟨#[]⟩,.int .i64 0,.isl [] .full,.int .i64 0,.str ⟨#[]⟩,.int .i64 0,.isl [] .full]):=by kernel_rfl
attribute [go_sem] zv86
theorem len46 (es:List AV) (x:Ext):lenV C.P 46 (.isl es x)=some (.int .i64 es.length):=by simp[lenV,u46]
theorem idx46 (l:List (T × T)) (k:Nat) (hk:k<l.length) (x:Ext):indexAddrV C.P 46 (.isl (l.map encB) x) (.int .i64 k)=some (.iptr (encB l[k]) 0):=by
 simp[indexAddrV,u46,s86,encB,cells_agg,hk]
theorem ld86 (b:T × T) (h:H):loadV C.P h 86 (.iptr (encB b) 0)=some (encB b):=by simp[loadV,cellsAt,a86,s86,encB,cells_agg]
theorem ld25i0 (b:T × T) (h:H):loadV C.P h 25 (.iptr (encB b) 0)=some (enc b.1):=by
 simp[loadV,cellsAt,a25,s25,encB,cells_agg];rw[enc_eq]
theorem ld25i4 (b:T × T) (h:H):loadV C.P h 25 (.iptr (encB b) 4)=some (enc b.2):=by
 simp[loadV,cellsAt,a25,s25,encB,cells_agg];rw[enc_eq]
theorem st86 (b:T × T) (c1 c2 c3 c4 c5 c6 c7 c8:AV) (h:H):storeV C.P (h++[.cells [c1,c2,c3,c4,c5,c6,c7,c8] .live]) 86 (.ptr h.length 0) (encB b)=some (h++[.cells (encB b).cells .live]):=by
 simp[storeV,s86,encB,cells_agg]
def small (l:List (T × T)):Prop:=∀b∈l,b.1.size<4000000∧b.2.size<4000000
def later:Option T→T→Bool
 | none,_=>false
 | some q,v=>decide (0≤q.cmp v)
theorem short_binds (l:List (T × T)):short (binds l)=true:=rfl
end Go.VZ

/- Few of bindings, Get, Put of the document. -/
namespace Go.VZ
open Go Go.V Go.Proofs TL
theorem b25:bytesV C.P 25=some 56:=by kernel_rfl
theorem z25:zeroOk C.P 25=true:=by kernel_rfl
@[go_sem] theorem is23:isSliceT C.P 23=some 25:=by kernel_rfl
theorem szOk_enc (l:List T):szOk 4 (l.map enc)=true:=by cases l<;>simp[szOk,enc_cells]
theorem append23 {h:H}{v:AV}{xs ys:List T}{x:Ext}(o:OwnR 25 h v (xs.map enc)) (hl:xs.length+ys.length≤100000000000) :
  ∃v' h',appendW C.P false h 23 v (.isl (ys.map enc) x)=some (v',h')∧OwnR 25 h' v' ((xs++ys).map enc)∧Keep h h' (idOf v)∧(idOf v'=idOf v∨idOf v=none∧idOf v'=some h.length):=by
 have:=append_own (x:=x) u23 s25 b25 z25 rfl o (szOk_enc xs) (szOk_enc ys) (by simp only[List.length_map];omega)
 rwa [←List.map_append] at this
theorem dats_encs (l:List T):dats (l.map enc)=some (l.map enc):=by
 induction l with
 | nil=>rfl
 | cons a l ih=>simp only[List.map_cons,dats,ih,dat_enc']
@[go_sem] theorem notTuple_enc (a:T):notTuple (enc a)=true:=by rw[enc_eq];rfl
theorem build23_1 (h:H) (a:T):buildSliceV C.P h 23 1 [(0,enc a)]=some (.isl [enc a] .full,h):=buildSlice_dats u23 s25 z25 rfl (by omega) rfl (dats_encs [a]) (by simp[short_enc]) (by simp) (by simp[elemOkV,enc_cells,notTuple_enc])
theorem dat_few' (l:List T) (x:Ext) (c n:Int):dats [.isl (l.map enc) x,.int .i64 c,.int .i64 n]=some [terms l,.int .i64 c,.int .i64 n]:=rfl
theorem call9' (l:List T) (x:Ext) (c n:Int) (hn:n<4000000) (hn0:0≤n) (h:H):callV C h (.func 9 []) (some [.isl (l.map enc) x,.int .i64 c,.int .i64 n])=some (.bool (fewT l c n),h):=callV_strip (by kernel_rfl) rfl (dat_few' _ _ _ _) (by simp[short]) (by simp) (few9 l c n hn hn0)
def getB:List (T × T)→T→T
 | [],v=>v
 | b::l,v=>if b.1.cmp v=0 then b.2 else getB l v
theorem dat_binds2 (l:List (T × T)) (t:T):dats [binds l,enc t]=some [binds l,enc t]:=by rw[enc_eq];rfl
def zc:List AV:=[.int .i64 0,.str ⟨#[]⟩,.int .i64 0,.isl [] .full]
def NI146 (l:List (T × T)) (v:T) (m:Nat) (s:PT) (h:H):Prop:=∃k:Nat,m=l.length-k∧k≤l.length∧s.get 0=binds l∧s.get 3=.ptr 0 0∧s.get 4=.ptr 1 0∧s.get 5=.int .i64 k∧h=[.cells (tc v) .live,.cells zc .live]∧getB (l.drop k) v=getB l v
theorem st25b (t:T) (a b c d:AV) (x:VObj):storeV C.P [x,.cells [a,b,c,d] .live] 25 (.ptr 1 0) (enc t)=some [x,.cells (enc t).cells .live]:=by
 simp[storeV,s25,enc_cells];rw[enc_eq];rfl
set_option maxRecDepth 8000 in
set_option maxHeartbeats 2000000 in
theorem get146 (l:List (T × T)) (v:T) (hs:small l) (hv:v.size<4000000) (hl:l.length<4000000):CallP C 146 [binds l,enc v]=some (enc (getB l v)):=by
 refine CallP_W rfl Tryz.func146 rfl (by kernel_rfl) (by simp[Tryz.f146]) fun R hR=>?_
 simp[go_sem,terms]
 refine W_loop (NI146 l v) l.length ⟨0,rfl,Nat.zero_le _,by simp[go_sem],by simp[go_sem],by simp[go_sem],by simp[go_sem],rfl,rfl⟩ ?_
 rintro m s h ⟨k,rfl,hk,g0,g3,g4,g5,rfl,hd⟩
 simp only[binds] at g0
 have fin:∀(s:PT) (t:T) (x:VObj),s.get 4=.ptr 1 0→t=getB l v→R .ret s [x,.cells (enc t).cells .live]:=fun s t x hs ht=>by
  refine hR _ _ _ (.inr rfl) ⟨enc t,?_,?_⟩
  ·simp[resultV,resV,Tryz.f146,hs,loadV,cellsAt,a25,s25,enc_cells];rw[enc_eq]
  ·rw[←ht];exact snap_dat (dat_enc' t) (short_enc t)
 by_cases hlt:k<l.length
 ·have hlt':(k:Int)<l.length:=by omega
  have hix:=idx46 l k hlt .unk
  have hsm:=hs _ (List.getElem_mem hlt)
  have w2:IntKind.i64.wrap ((k:Int)+1)=((k+1:Nat):Int):=by rw[wrap_in (by omega)];omega
  have c1:=call69 l[k].1 v hsm.1 hv
  rw[List.drop_eq_getElem_cons hlt,getB] at hd
  simp[go_sem,g0,g3,g5,len46,hlt',hix,ld25i0,tc,zc,ld25c,c1,-Int.natCast_add]
  refine Ife_iff.2 ⟨fun h1=>?_,fun h1=>?_⟩
  ·rw[if_pos h1] at hd
   simp[go_sem,g0,g4,g5,hix,ld25i4,st25b]
   exact fin _ _ _ (by simp[go_sem,g4]) hd
  ·rw[if_neg h1] at hd
   simp[go_sem,g5,-Int.natCast_add,w2]
   exact ⟨l.length-(k+1),by omega,k+1,rfl,hlt,by simp[go_sem,g0,binds],by simp[go_sem,g3],by simp[go_sem,g4],by simp[go_sem],rfl,hd⟩
 ·have:k=l.length:=by omega
  subst this
  rw[List.drop_length,getB] at hd
  simp[go_sem,g0,g3,g4,g5,len46,tc,zc,ld25c,st25b]
  exact fin _ _ _ (by simp[go_sem,g4]) hd
theorem call146 (l:List (T × T)) (v:T) (hs:small l) (hv:v.size<4000000) (hl:l.length<4000000) (h:H):callV C h (.func 146 []) (some [binds l,enc v])=some (enc (getB l v),h):=callV_strip (by kernel_rfl) rfl (dat_binds2 _ _) (by simp[short_binds,short_enc]) (by simp) (get146 l v hs hv hl)
mutual
def putB (l:List (T × T)):T→T
 | .mk k n s m=>if k=1 then getB l (.mk k n s m) else .mk k n s (putBs l m)
def putBs (l:List (T × T)):List T→List T
 | []=>[]
 | t::m=>putB l t::putBs l m
end
theorem putBs_map (l:List (T × T)):∀m,putBs l m=m.map (putB l)
 | []=>rfl
 | t::m=>by rw[putBs,putBs_map l m];rfl
theorem putB_eq (l:List (T × T)) (t:T):putB l t=if t.kind=1 then getB l t else .mk t.kind t.name t.sort (t.kids.map (putB l)):=by cases t;rw[putB,putBs_map];rfl
def NI87 (l:List (T × T)) (t:T) (m:Nat) (s:PT) (h:H):Prop:=∃k:Nat,∃v:AV,m=t.kids.length-k∧k≤t.kids.length∧s.get 0=binds l∧s.get 3=.ptr 0 0∧s.get 4=.ptr 1 0∧s.get 5=.ptr 2 0∧s.get 6=.int .i64 k∧h[0]?=some (.cells (tc t) .live)∧h[1]?=some (.cells zc .live)∧h[2]?=some (.cells [.int .i64 t.kind,.str t.name,.int .i64 t.sort,v] .live) ∧
 OwnR 25 h v (((t.kids.take k).map (putB l)).map enc)
theorem st25c (t:T) (a b c d:AV) (x y:VObj):storeV C.P [x,y,.cells [a,b,c,d] .live] 25 (.ptr 2 0) (enc t)=some [x,y,.cells (enc t).cells .live]:=by
 simp[storeV,s25,enc_cells];rw[enc_eq];rfl
set_option maxRecDepth 8000 in
set_option maxHeartbeats 2000000 in
theorem put87 (l:List (T × T)) (t:T) (hs:small l) (hv:t.size<4000000) (hl:l.length<4000000) (hc:∀k∈t.kids,CallP C 87 [binds l,enc k]=some (enc (putB l k))):CallP C 87 [binds l,enc t]=some (enc (putB l t)):=by
 refine CallP_W rfl Tryz.func87 rfl (by kernel_rfl) (by simp[Tryz.f87]) fun R hR=>?_
 have fin:∀(s:PT) (t':T) (h:H),s.get 4=.ptr 1 0→h[1]?=some (.cells (enc t').cells .live)→t'=putB l t→R .ret s h:=fun s t' h hs hh ht=>by
  refine hR _ _ _ (.inr rfl) ⟨enc t',?_,?_⟩
  ·simp[resultV,resV,Tryz.f87,hs,loadV,hh,cellsAt,a25,s25,enc_cells];rw[enc_eq]
  ·rw[←ht];exact snap_dat (dat_enc' t') (short_enc t')
 have c1:=call146 l t hs hv hl
 have hpe:=putB_eq l t
 have hsz:=size_kids t
 have hlen:=len_sizes t.kids
 simp[go_sem,terms]
 refine Ife_iff.2 ⟨fun h1=>?_,fun h1=>?_⟩
 ·rw[if_pos h1] at hpe
  simp[go_sem,ld25c,c1,st25b]
  exact fin _ _ _ (by simp[go_sem]) (by simp) hpe.symm
 rw[if_neg h1] at hpe
 have q1:∀(x y:VObj) (a b c:AV),storeV C.P [x,y,.cells [a,b,c,.isl (t.kids.map enc) .unk] .live] 23 (.ptr 2 3) (.isl [] .full)=some [x,y,.cells [a,b,c,.isl [] .full] .live]:=fun x y a b c=>by simp[storeV,s23]
 simp[go_sem,ld25c,st25c,enc_cells,terms,q1]
 refine W_loop (NI87 l t) t.kids.length ⟨0,.isl [] .full,rfl,Nat.zero_le _,by simp[go_sem],by simp[go_sem],by simp[go_sem],by simp[go_sem],by simp[go_sem],rfl,rfl,rfl,.inl rfl⟩ ?_
 rintro m s h ⟨k,v,rfl,hk,g0,g3,g4,g5,g6,m0,m1,m2,go⟩
 have l0:loadV C.P h 23 (.ptr 0 3)=some (.isl (t.kids.map enc) .unk):=by simp[loadV,m0,tc,cellsAt,a23,s23]
 have l2:loadV C.P h 23 (.ptr 2 3)=some v:=by obtain ⟨x,rfl⟩:=go.isl;simp[loadV,m2,cellsAt,a23,s23]
 by_cases hlt:k<t.kids.length
 ·have hlt':(k:Int)<t.kids.length:=by omega
  have hix:=idx23 t.kids k hlt .unk
  have w2:IntKind.i64.wrap ((k:Int)+1)=((k+1:Nat):Int):=by rw[wrap_in (by omega)];omega
  have ck:∀h,callV C h (.func 87 []) (some [binds l,enc t.kids[k]])=some (enc (putB l t.kids[k]),h):=fun h=>callV_strip (by kernel_rfl) rfl (dat_binds2 _ _) (by simp[short_binds,short_enc]) (by simp) (hc _ (List.getElem_mem hlt))
  obtain ⟨v',h',ha,ho,hkp,hid⟩:=append23 (ys:=[putB l t.kids[k]]) (x:=.full) go (by simp only[List.length_map,List.length_take,List.length_cons,List.length_nil];omega)
  have etk:(t.kids.take k).map (putB l)++[putB l t.kids[k]]=(t.kids.take (k+1)).map (putB l):=by
   rw[←List.take_append_getElem hlt,List.map_append];rfl
  rw[etk] at ho
  simp only[List.map_cons,List.map_nil] at ha
  have hne:∀i,idOf v=some i→i≠0∧i≠1∧i≠2:=fun i hi=>by
   rcases go with rfl | ⟨id,rfl,hd⟩
   ·cases hi
   ·simp only[idOf,Option.some.injEq] at hi;subst hi
    exact ⟨fun e=>by (rw[e,m0] at hd;cases hd),fun e=>by (rw[e,m1] at hd;cases hd),fun e=>by (rw[e,m2] at hd;cases hd)⟩
  have m0':=hkp.get m0 (fun e=>(hne _ e).1 rfl)
  have m1':=hkp.get m1 (fun e=>(hne _ e).2.1 rfl)
  have m2':=hkp.get m2 (fun e=>(hne _ e).2.2 rfl)
  have hst:storeV C.P h' 23 (.ptr 2 3) v'=some (h'.set 2 (.cells [.int .i64 t.kind,.str t.name,.int .i64 t.sort,v'] .live)):=by
   obtain ⟨x,rfl⟩:=ho.isl
   simp[storeV,m2',s23]
  have ho2:OwnR 25 (h'.set 2 (.cells [.int .i64 t.kind,.str t.name,.int .i64 t.sort,v'] .live)) v' (((t.kids.take (k+1)).map (putB l)).map enc):=ho.keep (Keep.set _ _ _) (fun i hi e=>by
   rcases hid with h1 | ⟨h1,h2⟩
   ·exact (hne i (h1▸hi)).2.2 (by simpa using e.symm)
   ·have:=(List.getElem?_eq_some_iff.1 m2).1
    rw[h2] at hi;simp only[Option.some.injEq] at hi e;omega)
  have hlen2:=(List.getElem?_eq_some_iff.1 m2').1
  simp[go_sem,g3,g6,l0,len23,hlt',-Int.natCast_add]
  refine W_regionS 8 _ (by simp[mixC]) rfl ?_
  simp[go_sem,g0,g3,g5,g6,l0,l2,hix,ld25,ck,build23_1,ha,hst,-Int.natCast_add,w2]
  refine ⟨?_,t.kids.length-(k+1),by omega,k+1,v',rfl,hlt,by simp[go_sem,g0],by simp[go_sem,g3],by simp[go_sem,g4],by simp[go_sem,g5],by simp[go_sem],?_,?_,?_,ho2⟩
  ·rcases go with rfl | ⟨id,rfl,hd⟩
   ·simp[go_sem,idsOk,ldIds,apIds,ldId,appId,mslId]
   ·have:=hne id rfl
    simp[go_sem,idsOk,ldIds,apIds,ldId,appId,mslId]
    (try omega)
  ·rw[List.getElem?_set_ne (by omega)];exact m0'
  ·rw[List.getElem?_set_ne (by omega)];exact m1'
  ·rw[List.getElem?_set_self hlen2]
 ·have:k=t.kids.length:=by omega
  subst this
  rw[List.take_length] at go
  obtain ⟨x,rfl⟩:=go.isl
  have e5:loadV C.P h 25 (.ptr 2 0)=some (.agg [.int .i64 t.kind,.str t.name,.int .i64 t.sort,.isl ((t.kids.map (putB l)).map enc) x]):=by simp[loadV,m2,cellsAt,a25,s25]
  have e6:storeV C.P h 25 (.ptr 1 0) (.agg [.int .i64 t.kind,.str t.name,.int .i64 t.sort,.isl ((t.kids.map (putB l)).map enc) x])=some (h.set 1 (.cells [.int .i64 t.kind,.str t.name,.int .i64 t.sort,.isl ((t.kids.map (putB l)).map enc) x] .live)):=by simp[storeV,m1,s25,zc]
  have e7:=(List.getElem?_eq_some_iff.1 m1).1
  generalize hzz:AV.agg [.int .i64 t.kind,.str t.name,.int .i64 t.sort,.isl ((t.kids.map (putB l)).map enc) x]=zz at e5 e6
  simp[go_sem,g3,g4,g5,g6,l0,len23,e5,e6]
  refine hR _ _ _ (.inr rfl) ⟨zz,?_,?_⟩
  ·simp[resultV,resV,Tryz.f87,go_sem,g4,loadV,List.getElem?_set_self e7,cellsAt,a25,s25,←hzz]
  ·rw[hpe,enc_eq,←hzz];exact snap_dat rfl rfl
theorem put87_all (l:List (T × T)) (hs:small l) (hl:l.length<4000000) (t:T):t.size<4000000→CallP C 87 [binds l,enc t]=some (enc (putB l t)):=by
 induction t using T.ind with
 | _ t ih=>exact fun hv=>put87 l t hs hv hl (fun k hk=>ih k hk (by have:=kid_size hk;omega))
theorem call87 (l:List (T × T)) (t:T) (hs:small l) (hv:t.size<4000000) (hl:l.length<4000000) (h:H):callV C h (.func 87 []) (some [binds l,enc t])=some (enc (putB l t),h):=callV_strip (by kernel_rfl) rfl (dat_binds2 _ _) (by simp[short_binds,short_enc]) (by simp) (put87_all l hs hl t hv)
end Go.VZ

/- Copies of rows of terms, and of terms. -/
namespace Go.VZ
open Go Go.V Go.Proofs TL
def cellsT (l:List T):List AV:=l.flatMap fun t=>(enc t).cells
theorem cellsT_cons (a:T) (l:List T):cellsT (a::l)=[.int .i64 a.kind,.str a.name,.int .i64 a.sort,terms a.kids]++cellsT l:=by simp[cellsT,enc_cells]
theorem cellsT_len (l:List T):(cellsT l).length=4*l.length:=by
 induction l with
 | nil=>rfl
 | cons a l ih=>rw[cellsT_cons,List.length_append,ih];simp;omega
theorem dats_append:∀ {a b a' b':List AV},dats a=some a'→dats b=some b'→dats (a++b)=some (a'++b')
 | [],_,_,_,h1,h2=>by cases h1;exact h2
 | x::a,b,a',b',h1,h2=>by
  simp only[dats] at h1
  cases hx:dat x<;>cases hy:dats a<;>simp only[hx,hy] at h1<;>cases h1
  simp only[List.cons_append,dats,hx,dats_append hy h2]
theorem dats_cellsT (l:List T):dats (cellsT l)=some (cellsT l):=by
 induction l with
 | nil=>rfl
 | cons a l ih=>rw[cellsT_cons];exact dats_append rfl ih
theorem short_cellsT (l:List T):(cellsT l).all short=true:=by
 induction l with
 | nil=>rfl
 | cons a l ih=>rw[cellsT_cons,List.all_append,ih];rfl
def Row (h:H) (v:AV) (l:List T):Prop:=(l=[]∧v=.isl [] .full)∨∃id,v=.msl id 0 4 l.length none∧h[id]?=some (.cells (cellsT l) .live)
theorem cellsT_split {l:List T}{k:Nat}(hk:k<l.length):cellsT l=cellsT (l.take k)++(enc l[k]).cells++cellsT (l.drop (k+1)):=by
 have e:l=l.take k++l[k]::l.drop (k+1):=by rw[←List.drop_eq_getElem_cons hk,List.take_append_drop]
 have e2:=congrArg cellsT e
 rw[e2]
 unfold cellsT
 rw[List.flatMap_append,List.flatMap_cons,List.append_assoc]
theorem idxRow {id n k:Nat}(hk:k<n):indexAddrV C.P 23 (.msl id 0 4 n none) (.int .i64 k)=some (.ptr id (4*k)):=by
 simp[indexAddrV,u23,s25,hk];omega
end Go.VZ

/- The program's copy of a term. -/
namespace Go.VZ
open Go Go.V Go.Proofs TL
theorem ldq {h:H}{i:Nat}{a b c v:AV}(hi:h[i]?=some (.cells [a,b,c,v] .live)) (_hv:notTuple v=true):loadV C.P h 23 (.ptr i 3)=some v:=by
 simp[loadV,hi,cellsAt,a23,s23]
theorem Row.len {h:H}{v:AV}{l:List T}(r:Row h v l):lenV C.P 23 v=some (.int .i64 l.length):=by
 rcases r with ⟨rfl,rfl⟩ | ⟨id,rfl,_⟩<;>simp[lenV,u23]
theorem Row.keep {h h':H}{v:AV}{l:List T}(r:Row h v l) (k:Keep h h' none):Row h' v l:=by
 rcases r with e | ⟨id,rfl,hid⟩
 ·exact .inl e
 ·exact .inr ⟨id,rfl,k.get hid (by simp)⟩
theorem st25z (t:T) (h:H):storeV C.P (h++[.cells [.int .i64 0,.str ⟨#[]⟩,.int .i64 0,.isl [] .full] .live]) 25 (.ptr h.length 0) (enc t)=some (h++[.cells (enc t).cells .live]):=by
 rw[st25 t _ _ _ _ h,enc_cells]
theorem ldb25z (t:T) (h:H):loadV C.P (h++[.cells (enc t).cells .live]) 25 (.ptr h.length 0)=some (enc t):=by
 rw[enc_cells];exact ldb25 t h
theorem ld23c (a b c:AV) (es:List AV) (x:Ext) (l:List VObj):loadV C.P (.cells [a,b,c,.isl es x] .live::l) 23 (.ptr 0 3)=some (.isl es x):=ldq rfl rfl
theorem chunk_cellsT:∀l:List T,chunk 4 l.length (cellsT l)=l.map enc
 | []=>rfl
 | a::l=>by
  have:=chunk_cellsT l
  rw[cellsT_cons]
  simp only[List.length_cons,chunk,List.cons_append,List.nil_append,List.take_succ_cons,List.take_zero,List.drop_succ_cons,List.drop_zero,List.map_cons,this,enc_eq]
theorem freezeAll_cells:∀ {h:H}{i:Nat}{cs:List AV},h[i]?=some (.cells cs .live)→(freezeAll h)[i]?=some (.cells cs .frozen)
 | [],_,_,e=>by simp at e
 | o::r,0,cs,e=>by simp at e;subst e;rfl
 | o::r,i+1,cs,e=>by
  have:=freezeAll_cells (h:=r) (i:=i) (cs:=cs) (by simpa using e)
  cases o with
  | cells c st=>cases st<;>simpa [freezeAll] using this
  | _=>simpa [freezeAll] using this
end Go.VZ

/- Finding a binding, the program's way. -/
namespace Go.VZ
open Go Go.V Go.Proofs TL
def convW (P:Program) (a b:TypeId):AV→Option AV
 | .isl es _=>convB P a b es
 | v=>convV P a b v
@[go_sem] theorem convW_int (P:Program) (a b:TypeId) (k:IntKind) (x:Int):convW P a b (.int k x)=convV P a b (.int k x):=(rfl)
theorem short_func (f:FuncId):short (.func f [])=true:=rfl
theorem snap_tuple {h:H}{l l':List AV}(hd:dats l=some l') (hs:l.all short=true) (hl:l.length≤1000):snap h deep (.tuple l)=some (.tuple l'):=by
 have e:=(dats_snap (h:=h) hd hs 999999 (by omega)).1
 have:snap h deep (.tuple l)=(match snaps h 999999 l with
  | some l=>some (.tuple l)
  | none=>none):=rfl
 rw[this,e]
end Go.VZ
