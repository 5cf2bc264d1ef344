/- The examples of chapter 48, joined. -/
import Derived.Test.YtdoegkegjaadeaaGreatDoorSxqh
import Derived.Test.YtdoegkegjaadeaaGreatDoorSxqi
import Derived.Test.YtdoegkegjaadeaaGreatDoorSxqj
import Derived.Test.YtdoegkegjaadeaaGreatDoorSxqk
import Derived.Test.YtdoegkegjaadeaaGreatDoorV34
import Derived.Test.YtdoegkegjaadeaaGreatDoorSa
import Derived.Test.YtdoegkegjaadeaaGreatDoorSd
import Derived.Sort.Grow
import Derived.Deep.Draws
import Derived.Shelf.SlSortCmp.NoneTotal
import Derived.Test.YtdoegkegjaadeaaGreatDoorSc
import Derived.Shelf.Strconv.Itoa3
import Derived.Shelf.LaysM
namespace Go.VZ
open Go Go.V Go.Proofs Go.RowKit
theorem callV_K {f:FuncId}{args args':List AV}{v:AV}(hb:hasBody CK.P f=true) (hm:CK.mode f=.strip) (hd:dats args=some args') (hs:args.all short=true) (hl:args.length<90000)
  (hc:CallP CK f args'=some v) (h:H):callV CK h (.func f []) (some args)=some (v,h):=by
 simp only[callV,hb,if_true,List.append_nil]
 rw[applyCall_strip hm hd hs hl,hc]
theorem ku52:CK.P.underlying 52=some (.slice 9):=Tryz.underlying52
theorem ku23:CK.P.underlying 23=some (.slice 25):=Tryz.underlying23
theorem ku42:∃e,CK.P.underlying 42=some (.slice e):=⟨_,Tryz.underlying42⟩
theorem ks9:sizeV CK.P 9=some 1:=by kernel_rfl
theorem ks25:sizeV CK.P 25=some 4:=by kernel_rfl
theorem ks35:sizeV CK.P 35=some 3:=by kernel_rfl
theorem kz9:zeroOk CK.P 9=true:=by kernel_rfl
theorem kz25:zeroOk CK.P 25=true:=by kernel_rfl
theorem ka35:isAggB CK.P 35=some true:=by kernel_rfl
theorem kzv35:zeroV CK.P 35=some (.agg [.int .i64 0,.int .i64 0,.isl [] .full]):=by kernel_rfl
theorem kb52 (h:H) (a:ByteArray):buildSliceV CK.P h 52 1 [(0,.str a)]=some (.isl [.str a] .full,h):=buildSlice_dats ku52 ks9 kz9 rfl (by omega) rfl rfl rfl (by simp) rfl
theorem kb52b (h:H) (a b:ByteArray):buildSliceV CK.P h 52 2 [(0,.str a),(1,.str b)]=some (.isl [.str a,.str b] .full,h):=buildSlice_dats ku52 ks9 kz9 rfl (by omega) rfl rfl rfl (by simp) rfl
theorem kb23 (h:H):buildSliceV CK.P h 23 1 [(0,tA)]=some (.isl [tA] .full,h):=buildSlice_dats ku23 ks25 kz25 rfl (by omega) rfl rfl rfl (by simp) rfl
def fC':AV:=.agg [.int .i64 3,.int .i64 1,.isl [tA] .full]
theorem kbld35:buildV CK.P 35 [(0,.int .i64 3),(1,.int .i64 1),(2,.isl [tA] .full)]=some fC':=by kernel_rfl
theorem e_a1:st [97,116,116,40,107,58,97,110,121,41]=.str ⟨#[97,116,116,40,107,58,97,110,121,41]⟩:=by kernel_rfl
theorem e_a2:st [97,116,116,40,101,110,99,40,115,58,97,110,121,44,32,107,58,97,110,121,41,41]=.str ⟨#[97,116,116,40,101,110,99,40,115,58,97,110,121,44,32,107,58,97,110,121,41,41]⟩:=by kernel_rfl
theorem e_x:st [98,101,103,105,110,32,49,40,63,120,41,32,38,32,97,116,116,40,63,121,41,32,45,62,32,99,108,97,105,109,32,49,40,63,120,41]=.str ⟨#[98,101,103,105,110,32,49,40,63,120,41,32,38,32,97,116,116,40,63,121,41,32,45,62,32,99,108,97,105,109,32,49,40,63,120,41]⟩:=by kernel_rfl
theorem e_y:st [98,101,103,105,110,32,49,40,63,121,41,32,38,32,97,116,116,40,63,121,41,32,45,62,32,99,108,97,105,109,32,49,40,63,120,41]=.str ⟨#[98,101,103,105,110,32,49,40,63,121,41,32,38,32,97,116,116,40,63,121,41,32,45,62,32,99,108,97,105,109,32,49,40,63,120,41]⟩:=by kernel_rfl
theorem k25a (h:H):callV CK h (.func 25 []) (some [.isl [.str ⟨#[97,116,116,40,107,58,97,110,121,41]⟩,.str ⟨#[97,116,116,40,101,110,99,40,115,58,97,110,121,44,32,107,58,97,110,121,41,41]⟩] .full])=some (lK,h):=callV_K (by kernel_rfl) (by kernel_rfl) (args':=[.isl [.str ⟨#[97,116,116,40,107,58,97,110,121,41]⟩,.str ⟨#[97,116,116,40,101,110,99,40,115,58,97,110,121,44,32,107,58,97,110,121,41,41]⟩] .unk]) rfl rfl (by simp) (by rw[←e_a1,←e_a2];exact runIs_CallP read_K) h
theorem k25x (h:H):callV CK h (.func 25 []) (some [.isl [.str ⟨#[98,101,103,105,110,32,49,40,63,120,41,32,38,32,97,116,116,40,63,121,41,32,45,62,32,99,108,97,105,109,32,49,40,63,120,41]⟩] .full])=some (lX,h):=callV_K (by kernel_rfl) (by kernel_rfl) (args':=[.isl [.str ⟨#[98,101,103,105,110,32,49,40,63,120,41,32,38,32,97,116,116,40,63,121,41,32,45,62,32,99,108,97,105,109,32,49,40,63,120,41]⟩] .unk]) rfl rfl (by simp) (by rw[←e_x];exact runIs_CallP read_X) h
theorem k25y (h:H):callV CK h (.func 25 []) (some [.isl [.str ⟨#[98,101,103,105,110,32,49,40,63,121,41,32,38,32,97,116,116,40,63,121,41,32,45,62,32,99,108,97,105,109,32,49,40,63,120,41]⟩] .full])=some (lY,h):=callV_K (by kernel_rfl) (by kernel_rfl) (args':=[.isl [.str ⟨#[98,101,103,105,110,32,49,40,63,121,41,32,38,32,97,116,116,40,63,121,41,32,45,62,32,99,108,97,105,109,32,49,40,63,120,41]⟩] .unk]) rfl rfl (by simp) (by rw[←e_y];exact runIs_CallP read_Y) h
theorem k26k (h:H):callV CK h (.func 26 []) (some [.str ⟨#[107]⟩,.int .i64 0])=some (tK,h):=callV_K (by kernel_rfl) (by kernel_rfl) rfl rfl (by simp) (by have:=runIs_CallP atom_k;rwa [show st [107]=.str ⟨#[107]⟩ by kernel_rfl] at this) h
theorem k26s (h:H):callV CK h (.func 26 []) (some [.str ⟨#[115]⟩,.int .i64 0])=some (tS,h):=callV_K (by kernel_rfl) (by kernel_rfl) rfl rfl (by simp) (by have:=runIs_CallP atom_s;rwa [show st [115]=.str ⟨#[115]⟩ by kernel_rfl] at this) h
theorem k26a (h:H):callV CK h (.func 26 []) (some [.str ⟨#[97]⟩,.int .i64 0])=some (tA,h):=callV_K (by kernel_rfl) (by kernel_rfl) rfl rfl (by simp) (by have:=runIs_CallP atom_a;rwa [show st [97]=.str ⟨#[97]⟩ by kernel_rfl] at this) h
theorem k10k (h:H):callV CK h (.func 10 []) (some [lK,tK])=some (.tuple [.int .i64 0,.int .i64 0],h):=callV_K (by kernel_rfl) (by kernel_rfl) (by kernel_rfl) (by kernel_rfl) (by simp) (runIs_CallP secret_k) h
theorem k10s (h:H):callV CK h (.func 10 []) (some [lK,tS])=some (.tuple [.int .i64 0,.int .i64 15],h):=callV_K (by kernel_rfl) (by kernel_rfl) (by kernel_rfl) (by kernel_rfl) (by simp) (runIs_CallP secret_s) h
theorem k14x (h:H):callV CK h (.func 14 []) (some [lX,fC'])=some (.tuple [.int .i64 0,.int .i64 15],h):=callV_K (by kernel_rfl) (by kernel_rfl) (args':=[lX,fC]) (by kernel_rfl) (by kernel_rfl) (by simp) (runIs_CallP agree_X) h
theorem k14y (h:H):callV CK h (.func 14 []) (some [lY,fC'])=some (.tuple [.int .i64 0,.int .i64 0],h):=callV_K (by kernel_rfl) (by kernel_rfl) (args':=[lY,fC]) (by kernel_rfl) (by kernel_rfl) (by simp) (runIs_CallP agree_Y) h
theorem k27:∃x e,∀h,callV CK h (.func 27 []) (some [lK,fAtt tK,.int .i64 1])=some (.tuple [.isl [x] e,.int .i64 0],h):=by
 obtain ⟨x,e,hx⟩:=runOne_CallP tree_k
 exact ⟨x,e,fun h=>callV_K (by kernel_rfl) (by kernel_rfl) (by kernel_rfl) (by kernel_rfl) (by simp) hx h⟩
@[go_sem] theorem OWbuildK {C:Cfg}{cf:FuncId}{ops:Array Oper}{d:Tmp}{ty:TypeId}{p:String}{af:Array Edge}{l:List Oper}{s:PT}{h:H}{K:PT→H→Prop}(t:TypeId) (parts:List (Nat × Operand)) :
  OW C cf ops (⟨some d,.build t parts.toArray,ty,p,af,none⟩::l) s h K↔bO (bi1 (partsV s parts) (buildV C.P t)) fun v=>OW C cf ops l (s.set d v) h K:=OWn (by simp only[opN,bi1];cases partsV s parts<;>rfl) rfl rfl
theorem kst35 (a b c:AV):storeV CK.P [.cells [a,b,c] .live] 35 (.ptr 0 0) fC'=some [.cells fC'.cells .live]:=by
 simp[storeV,ks35,fC',AV.cells]
theorem kld35:loadV CK.P [.cells fC'.cells .live] 35 (.ptr 0 0)=some fC':=by
 simp[loadV,cellsAt,ka35,ks35,fC',AV.cells]
theorem kix22:indexAddrV CK.P 22 lK (.int .i64 0)=some (.iptr (cl [] 1 0 [tK]) 0):=by kernel_rfl
theorem kfa37:fieldAddrV CK.P 37 (.iptr (cl [] 1 0 [tK]) 0) 1=some (.iptr (cl [] 1 0 [tK]) 1):=by kernel_rfl
theorem kld35i (h:H):loadV CK.P h 35 (.iptr (cl [] 1 0 [tK]) 1)=some (fAtt tK):=by
 simp[loadV,cellsAt,ka35,ks35,cl,fAtt,AV.cells]
theorem klen42 (x:AV) (e:Ext):lenV CK.P 42 (.isl [x] e)=some (.int .i64 1):=by
 obtain ⟨t,ht⟩:=ku42
 simp[lenV,ht]
theorem mixK5:CK.mix 7 5=false:=by kernel_rfl
theorem mixK6:CK.mix 7 6=false:=by kernel_rfl
theorem nts (s:ByteArray):notTuple (AV.str s)=true:=rfl
theorem nti (k:IntKind) (n:Int):notTuple (AV.int k n)=true:=rfl
theorem ntl (l:List AV) (x:Ext):notTuple (AV.isl l x)=true:=rfl
set_option maxRecDepth 8000 in
set_option maxHeartbeats 4000000 in
theorem awake48:CallP CK 7 []=some (.bool true):=by
 refine CallP_W rfl Tryz.func7 rfl (by kernel_rfl) (by simp[Tryz.f7]) fun R hR=>?_
 obtain ⟨tx,te,k27⟩:=k27
 simp[go_sem,initS,kb52,kb52b,kb23,nts,nti,ntl,k25a,k25x,k25y,k26k,k26s,k26a,k10k,k10s,k14x,k14y,kbld35,kzv35,k27,kst35,kld35,kix22,kfa37,kld35i,klen42,mixK5,mixK6,cells_agg,show notTuple tA=true from rfl]
 refine hR _ _ _ (.inr rfl) ⟨.bool true,by simp[resultV,resV,Tryz.f7,go_sem],snap_dat rfl rfl⟩
theorem awake48_calls {w:World}(hg:GlobR (fun _ _=>True) w):Calls Tryz.prog 7 #[] w fun e w'=>e=.returned (.bool true)∧Grows w w':=by
 have hc:=awake48
 unfold CallP at hc
 split at hc<;>first | (cases hc;done) | skip
 rename_i r h1 hx
 refine ((Call_ok (C:=CK) good primK_ok).fn 7 [] [] r h1 (by kernel_rfl) hx w.heap.size (fun _ _=>True) [] w #[] (.start hg) rfl (fun i a v ha=>by simp at ha)).mono ?_
 rintro e w' ⟨v,rfl,σ',k1,k2,k3⟩
 have hs:=snap_sound (k1.stiller (freezeAll_stiller h1)) deep r (.bool true) v hc (k3.step (.stiller k1 (freezeAll_stiller h1)))
 cases hs
 exact ⟨rfl,of_below k2.below k2.drawn⟩
end Go.VZ

/- The value machine at the program of this seat, without contracts proved by hand: for term.Compare alone. -/
namespace Go.VP
open Go Go.V Go.Proofs TL
open Go.VZ (enc encs encs_map terms enc_eq enc_cells cells_agg ext ext_ok)
noncomputable def C:Cfg:={P:=Tryz.prog,mode:=fun _=>.strip,wr:=fun _ _=>false,prim:=fun _ _ _=>none,ext:=ext,extOk:=ext_ok,mix:=fun _ _=>false}
@[go_sem] theorem wrC (f:FuncId) (t:Tmp):C.wr f t=false:=(rfl)
@[go_sem] theorem mixC (f:FuncId) (i:Nat):C.mix f i=false:=(rfl)
theorem u23:C.P.underlying 23=some (.slice 25):=Tryz.underlying23
theorem s3:sizeV C.P 3=some 1:=by kernel_rfl
theorem s9:sizeV C.P 9=some 1:=by kernel_rfl
theorem s23:sizeV C.P 23=some 1:=by kernel_rfl
theorem s25:sizeV C.P 25=some 4:=by kernel_rfl
theorem a3:isAggB C.P 3=some false:=by kernel_rfl
theorem a9:isAggB C.P 9=some false:=by kernel_rfl
theorem a23:isAggB C.P 23=some false:=by kernel_rfl
theorem a25:isAggB C.P 25=some true:=by kernel_rfl
attribute [go_sem] u23 s3 s9 s23 s25 a3 a9 a23 a25
theorem len23 (es:List AV) (x:Ext):lenV C.P 23 (.isl es x)=some (.int .i64 es.length):=by simp[lenV,u23]
theorem idx23 (l:List T) (k:Nat) (hk:k<l.length) (x:Ext):indexAddrV C.P 23 (.isl (l.map enc) x) (.int .i64 k)=some (.iptr (enc l[k]) 0):=by
 simp[indexAddrV,u23,s25,enc_cells,hk]
theorem ld25 (t:T) (h:H):loadV C.P h 25 (.iptr (enc t) 0)=some (enc t):=by
 simp[loadV,cellsAt,a25,s25,enc_cells];rw[enc_eq]
end Go.VP

/- Sizes: the program's and the document's. -/
namespace Go.VP
open Go Go.V Go.Proofs TL
open Go.VZ (enc encs encs_map terms enc_eq enc_cells cells_agg ext ext_ok)
theorem fa25_0 (i:Nat):fieldAddrV C.P 25 (.ptr i 0) 0=some (.ptr i 0):=by kernel_rfl
theorem fa25_1 (i:Nat):fieldAddrV C.P 25 (.ptr i 0) 1=some (.ptr i 1):=by kernel_rfl
theorem fa25_2 (i:Nat):fieldAddrV C.P 25 (.ptr i 0) 2=some (.ptr i 2):=by kernel_rfl
theorem fa25_3 (i:Nat):fieldAddrV C.P 25 (.ptr i 0) 3=some (.ptr i 3):=by kernel_rfl
attribute [go_sem] fa25_0 fa25_1 fa25_2 fa25_3
theorem callV_strip {f:FuncId}{args args':List AV}{v:AV}{h:H}(hb:hasBody C.P f=true) (hm:C.mode f=.strip) (hd:dats args=some args') (hs:args.all short=true) (hl:args.length<90000)
  (hc:CallP C f args'=some v):callV C h (.func f []) (some args)=some (v,h):=by
 simp only[callV,hb,if_true,List.append_nil]
 rw[applyCall_strip hm hd hs hl,hc]
theorem dat_enc (t:T):dats [enc t]=some [enc t]:=by rw[enc_eq];rfl
theorem short_enc (t:T):short (enc t)=true:=by rw[enc_eq];rfl
theorem box25 (t:T) (h:H):boxV C.P h 25 (enc t)=some (.ptr h.length 0,h++[.cells [.int .i64 t.kind,.str t.name,.int .i64 t.sort,terms t.kids] .live]):=by
 simp[boxV,s25,enc_cells];rw[enc_eq];rfl
attribute [go_sem] box25
def NI144 (t:T) (n:Nat) (s:PT) (h:H):Prop:=∃k:Nat,n=t.kids.length-k∧k≤t.kids.length∧h=[.cells [.int .i64 t.kind,.str t.name,.int .i64 t.sort,terms t.kids] .live]∧s.get 1=.ptr 0 0∧s.get 3=.int .i64 (sizes (t.kids.take k)+1:Nat)∧s.get 4=.int .i64 k
theorem ld23 (t:T):loadV C.P [.cells [.int .i64 t.kind,.str t.name,.int .i64 t.sort,terms t.kids] .live] 23 (.ptr 0 3)=some (terms t.kids):=by
 simp[loadV,cellsAt,a23,s23]
set_option maxHeartbeats 1000000 in
theorem size144 (t:T) (hc:∀k∈t.kids,CallP C 144 [enc k]=some (.int .i64 k.size)) (hs:t.size<4000000):CallP C 144 [enc t]=some (.int .i64 t.size):=by
 refine CallP_W rfl Tryz.func144 rfl (by kernel_rfl) (by simp[Tryz.f144]) fun R hR=>?_
 have hsz:t.size=sizes t.kids+1:=by cases t;rfl
 simp[go_sem]
 refine W_loop (NI144 t) t.kids.length ⟨0,by simp[go_sem,sizes]⟩ ?_
 rintro n s h ⟨k,rfl,hk,rfl,g1,g3,g4⟩
 have g25:=ld23 t
 by_cases hlt:k<t.kids.length
 ·have hlt':(k:Int)<t.kids.length:=by omega
  have hix:=idx23 t.kids k hlt .unk
  have hck:∀h,callV C h (.func 144 []) (some [enc t.kids[k]])=some (.int .i64 t.kids[k].size,h):=fun h=>callV_strip (by kernel_rfl) rfl (dat_enc _) (by simp[short_enc]) (by simp) (hc _ (List.getElem_mem hlt))
  have e1:=take_sizes hlt
  have e2:=take_sizes_le t.kids (k+1)
  have e3:=len_sizes t.kids
  have w1:IntKind.i64.wrap ((sizes (t.kids.take k)+1:Nat)+(t.kids[k].size:Int))=(sizes (t.kids.take (k+1))+1:Nat):=by rw[wrap_in (by omega)];omega
  have w2:IntKind.i64.wrap ((k:Int)+1)=((k+1:Nat):Int):=by rw[wrap_in (by omega)];omega
  generalize hz:sizes (t.kids.take k)+1=z at *
  simp only[terms] at g25
  simp[go_sem,g1,g3,g4,g25,terms,len23,hlt',hix,ld25,hck,-Int.natCast_add,w1,w2]
  refine ⟨t.kids.length-(k+1),by omega,k+1,rfl,hlt,?_⟩
  simp[go_sem,g1,terms]
 ·have:k=t.kids.length:=by omega
  subst this
  rw[List.take_length,←hsz] at g3
  generalize t.size=z at *
  simp only[terms] at g25
  simp[go_sem,g1,g3,g4,g25,terms,len23]
  refine hR _ _ _ (.inr rfl) ⟨_,rfl,?_⟩
  simp[go_sem,hsz]
  exact snap_dat rfl rfl
theorem size144_all (t:T):t.size<4000000→CallP C 144 [enc t]=some (.int .i64 t.size):=by
 induction t using T.ind with
 | _ t ih=>exact fun hs=>size144 t (fun k hk=>ih k hk (by have:=kid_size hk;omega)) hs
def NI172 (t:T) (n:Nat) (s:PT) (_h:H):Prop:=∃k:Nat,n=t.kids.length-k∧k≤t.kids.length∧s.get 7=terms t.kids∧s.get 8=.int .i64 t.kids.length∧s.get 3=.int .i64 (sizes (t.kids.take k)+1:Nat)∧s.get 9=.int .i64 k
theorem zv25:zeroV C.P 25=some (.agg [.int .i64 0,.str ⟨#[]⟩,.int .i64 0,.isl [] .full]):=by kernel_rfl
attribute [go_sem] zv25
theorem st25 (t:T) (a b c d:AV) (h:H):storeV C.P (h++[.cells [a,b,c,d] .live]) 25 (.ptr h.length 0) (enc t)=some (h++[.cells [.int .i64 t.kind,.str t.name,.int .i64 t.sort,terms t.kids] .live]):=by
 simp[storeV,s25];rw[enc_eq];rfl
theorem ldb25 (t:T) (h:H):loadV C.P (h++[.cells [.int .i64 t.kind,.str t.name,.int .i64 t.sort,terms t.kids] .live]) 25 (.ptr h.length 0)=some (enc t):=by
 simp[loadV,cellsAt,a25,s25];rw[enc_eq]
set_option maxHeartbeats 1000000 in
theorem size172 (t:T) (hc:∀k∈t.kids,CallP C 172 [enc k]=some (.int .i64 k.size)) (hs:t.size<4000000):CallP C 172 [enc t]=some (.int .i64 t.size):=by
 refine CallP_W rfl Tryz.func172 rfl (by kernel_rfl) (by simp[Tryz.f172]) fun R hR=>?_
 have hsz:t.size=sizes t.kids+1:=size_kids t
 have g25:=ld23 t
 simp only[terms] at g25
 simp[go_sem,g25,terms,len23]
 refine W_loop (NI172 t) t.kids.length ⟨0,by simp[go_sem,sizes,terms]⟩ ?_
 rintro n s h ⟨k,rfl,hk,g7,g8,g3,g9⟩
 by_cases hlt:k<t.kids.length
 ·have hlt':(k:Int)<t.kids.length:=by omega
  have hix:=idx23 t.kids k hlt .unk
  have hck:∀h,callV C h (.func 172 []) (some [enc t.kids[k]])=some (.int .i64 t.kids[k].size,h):=fun h=>callV_strip (by kernel_rfl) rfl (dat_enc _) (by simp[short_enc]) (by simp) (hc _ (List.getElem_mem hlt))
  have e1:=take_sizes hlt
  have e2:=take_sizes_le t.kids (k+1)
  have e3:=len_sizes t.kids
  have w1:IntKind.i64.wrap ((sizes (t.kids.take k)+1:Nat)+(t.kids[k].size:Int))=(sizes (t.kids.take (k+1))+1:Nat):=by rw[wrap_in (by omega)];omega
  have w2:IntKind.i64.wrap ((k:Int)+1)=((k+1:Nat):Int):=by rw[wrap_in (by omega)];omega
  generalize hz:sizes (t.kids.take k)+1=z at *
  simp only[terms] at g7
  simp[go_sem,g7,g8,g3,g9,hlt',hix,ld25,st25,ldb25,hck,-Int.natCast_add,w1,w2]
  refine ⟨t.kids.length-(k+1),by omega,k+1,rfl,hlt,?_⟩
  simp[go_sem,g7,g8,terms]
 ·have:k=t.kids.length:=by omega
  subst this
  rw[List.take_length,←hsz] at g3
  generalize t.size=z at *
  simp[go_sem,g8,g3,g9]
  refine hR _ _ _ (.inr rfl) ⟨_,rfl,?_⟩
  simp[go_sem]
  exact snap_dat rfl rfl
theorem size172_all (t:T):t.size<4000000→CallP C 172 [enc t]=some (.int .i64 t.size):=by
 induction t using T.ind with
 | _ t ih=>exact fun hs=>size172 t (fun k hk=>ih k hk (by have:=kid_size hk;omega)) hs
end Go.VP

/- Numbers and names compared. -/
namespace Go.VP
open Go Go.V Go.Proofs TL
open Go.VZ (enc encs encs_map terms enc_eq enc_cells cells_agg ext ext_ok)
theorem sign_call (a b:Int):CallP C 171 [.int .i64 a,.int .i64 b]=some (.int .i64 (sgn a b)):=by
 refine CallP_W rfl Tryz.func171 rfl (by kernel_rfl) (by simp[Tryz.f171]) fun R hR=>?_
 by_cases h1:a<b
 ·simp[go_sem,h1]
  refine hR _ _ _ (.inr rfl) ⟨_,rfl,?_⟩
  simp[go_sem,sgn,h1];exact snap_dat rfl rfl
 ·by_cases h2:b<a
  ·simp[go_sem,h1,h2]
   refine hR _ _ _ (.inr rfl) ⟨_,rfl,?_⟩
   simp[go_sem,sgn,h1,h2];exact snap_dat rfl rfl
  ·simp[go_sem,h1,h2]
   refine hR _ _ _ (.inr rfl) ⟨_,rfl,?_⟩
   simp[go_sem,sgn,h1,h2];exact snap_dat rfl rfl
theorem call171 (a b:Int) (h:H):callV C h (.func 171 []) (some [.int .i64 a,.int .i64 b])=some (.int .i64 (sgn a b),h):=callV_strip (by kernel_rfl) rfl rfl rfl (by simp) (sign_call a b)
theorem call287 (a b:ByteArray) (h:H):callV C h (.func 287 []) (some [.str a,.str b])=some (.int .i64 (Lib.compareBytes a.data.toList b.data.toList),h):=by
 have hb:hasBody C.P 287=false:=by kernel_rfl
 simp only[callV,hb]
 rfl
theorem cmpstring_call (a b:ByteArray):CallP C 233 [.str a,.str b]=some (.int .i64 (Lib.compareBytes a.data.toList b.data.toList)):=by
 refine CallP_W rfl Tryz.func233 rfl (by kernel_rfl) (by simp[Tryz.f233]) fun R hR=>?_
 simp[go_sem,call287]
 refine hR _ _ _ (.inr rfl) ⟨_,rfl,?_⟩
 simp[go_sem];exact snap_dat rfl rfl
theorem call233 (a b:ByteArray) (h:H):callV C h (.func 233 []) (some [.str a,.str b])=some (.int .i64 (Lib.compareBytes a.data.toList b.data.toList),h):=callV_strip (by kernel_rfl) rfl rfl rfl (by simp) (cmpstring_call a b)
theorem compare_call (a b:ByteArray):CallP C 173 [.str a,.str b]=some (.int .i64 (Lib.compareBytes a.data.toList b.data.toList)):=by
 refine CallP_W rfl Tryz.func173 rfl (by kernel_rfl) (by simp[Tryz.f173]) fun R hR=>?_
 simp[go_sem,call233]
 refine hR _ _ _ (.inr rfl) ⟨_,rfl,?_⟩
 simp[go_sem];exact snap_dat rfl rfl
theorem call173 (a b:ByteArray) (h:H):callV C h (.func 173 []) (some [.str a,.str b])=some (.int .i64 (Lib.compareBytes a.data.toList b.data.toList),h):=callV_strip (by kernel_rfl) rfl rfl rfl (by simp) (compare_call a b)
theorem call172 (t:T) (hs:t.size<4000000) (h:H):callV C h (.func 172 []) (some [enc t])=some (.int .i64 t.size,h):=callV_strip (by kernel_rfl) rfl (dat_enc _) (by simp[short_enc]) (by simp) (size172_all t hs)
def ncmp (a b:ByteArray):Int:=Lib.compareBytes a.data.toList b.data.toList
end Go.VP

/- Terms compared: the document's way. -/
namespace Go.VP
open Go Go.V Go.Proofs TL
open Go.VZ (enc encs encs_map terms enc_eq enc_cells cells_agg ext ext_ok)
def two (a b:T):H:=[.cells [.int .i64 a.kind,.str a.name,.int .i64 a.sort,terms a.kids] .live,.cells [.int .i64 b.kind,.str b.name,.int .i64 b.sort,terms b.kids] .live]
theorem two_a (a b:T):loadV C.P (two a b) 25 (.ptr 0 0)=some (enc a):=by simp[two,loadV,cellsAt,a25,s25];rw[enc_eq]
theorem two_b (a b:T):loadV C.P (two a b) 25 (.ptr 1 0)=some (enc b):=by simp[two,loadV,cellsAt,a25,s25];rw[enc_eq]
theorem two_a0 (a b:T):loadV C.P (two a b) 3 (.ptr 0 0)=some (.int .i64 a.kind):=by simp[two,loadV,cellsAt,a3,s3]
theorem two_b0 (a b:T):loadV C.P (two a b) 3 (.ptr 1 0)=some (.int .i64 b.kind):=by simp[two,loadV,cellsAt,a3,s3]
theorem two_a1 (a b:T):loadV C.P (two a b) 9 (.ptr 0 1)=some (.str a.name):=by simp[two,loadV,cellsAt,a9,s9]
theorem two_b1 (a b:T):loadV C.P (two a b) 9 (.ptr 1 1)=some (.str b.name):=by simp[two,loadV,cellsAt,a9,s9]
theorem two_a2 (a b:T):loadV C.P (two a b) 3 (.ptr 0 2)=some (.int .i64 a.sort):=by simp[two,loadV,cellsAt,a3,s3]
theorem two_b2 (a b:T):loadV C.P (two a b) 3 (.ptr 1 2)=some (.int .i64 b.sort):=by simp[two,loadV,cellsAt,a3,s3]
theorem two_a3 (a b:T):loadV C.P (two a b) 23 (.ptr 0 3)=some (.isl (a.kids.map enc) .unk):=by simp[two,loadV,cellsAt,a23,s23,terms]
theorem two_b3 (a b:T):loadV C.P (two a b) 23 (.ptr 1 3)=some (.isl (b.kids.map enc) .unk):=by simp[two,loadV,cellsAt,a23,s23,terms]
theorem box2 (a b:T):boxV C.P [.cells [.int .i64 a.kind,.str a.name,.int .i64 a.sort,terms a.kids] .live] 25 (enc b)=some (.ptr 1 0,two a b):=by rw[box25];rfl
theorem cmp_eq (a b:T):a.cmp b=thn (sgn a.size b.size) (thn (sgn a.kind b.kind) (thn (Lib.compareBytes a.name.data.toList b.name.data.toList) (thn (sgn a.sort b.sort) (thn (sgn a.kids.length b.kids.length) (cmps a.kids b.kids))))):=by
 cases a;cases b;rw[T.cmp];rfl
theorem dat_enc2 (a b:T):dats [enc a,enc b]=some [enc a,enc b]:=by rw[enc_eq a,enc_eq b];rfl
end Go.VP

/- Terms compared: the program's way. -/
namespace Go.VP
open Go Go.V Go.Proofs TL
open Go.VZ (enc encs encs_map terms enc_eq enc_cells cells_agg ext ext_ok)
def head (a b:T):Int:=thn (sgn a.size b.size) (thn (sgn a.kind b.kind) (thn (ncmp a.name b.name) (thn (sgn a.sort b.sort) (sgn a.kids.length b.kids.length))))
theorem thn_assoc (a b c:Int):thn (thn a b) c=thn a (thn b c):=by unfold thn;split<;>simp_all
theorem cmp_head (a b:T):a.cmp b=thn (head a b) (cmps a.kids b.kids):=by
 rw[cmp_eq,head];simp only[thn_assoc,ncmp]
def NI112 (a b:T) (n:Nat) (s:PT) (h:H):Prop:=∃k:Nat,∃c:Int,n=a.kids.length-k∧k≤a.kids.length∧h=two a b∧s.get 2=.ptr 0 0∧s.get 3=.ptr 1 0∧s.get 6=.int .i64 k∧s.get 5=.int .i64 c ∧
 (c=0→a.kids.length=b.kids.length)∧thn c (cmps (a.kids.drop k) (b.kids.drop k))=a.cmp b
set_option maxHeartbeats 4000000 in
theorem cmp112 (a b:T) (hs:a.size<4000000) (hs2:b.size<4000000) (hc:∀k∈a.kids,∀m∈b.kids,CallP C 112 [enc k,enc m]=some (.int .i64 (k.cmp m))):CallP C 112 [enc a,enc b]=some (.int .i64 (a.cmp b)):=by
 refine CallP_W rfl Tryz.func112 rfl (by kernel_rfl) (by simp[Tryz.f112]) fun R hR=>?_
 have q1:=call172 a hs
 have q2:=call172 b hs2
 have hn:ncmp a.name b.name=Lib.compareBytes a.name.data.toList b.name.data.toList:=rfl
 have hl:head a b=0→a.kids.length=b.kids.length:=fun h=>by
  rw[head,thn_zero,thn_zero,thn_zero,thn_zero] at h
  have:=sgn_zero.mp h.2.2.2.2;omega
 by_cases h1:sgn a.size b.size=0<;>by_cases h2:sgn a.kind b.kind=0<;>by_cases h3:ncmp a.name b.name=0<;>by_cases h4:sgn a.sort b.sort=0
 all_goals
  simp[go_sem,box2,two_a,two_b,two_a0,two_b0,two_a1,two_b1,two_a2,two_b2,two_a3,two_b3,len23,q1,q2,call171,call173,←hn,h1,h2,h3,h4]
  refine W_loop (NI112 a b) a.kids.length ⟨0,head a b,rfl,Nat.zero_le _,rfl,by simp[go_sem],by simp[go_sem],by simp[go_sem],by simp[go_sem,head,thn,h1,h2,h3,h4],hl,by simp[cmp_head]⟩ ?_
  rintro n s h ⟨k,c,rfl,hk,rfl,g2,g3,g6,g5,hz,hd⟩
  by_cases hc0:c=0
  ·subst hc0
   by_cases hlt:k<a.kids.length
   ·have hlt':(k:Int)<a.kids.length:=by omega
    have hltb:k<b.kids.length:=by have:=hz rfl;omega
    have hix:=idx23 a.kids k hlt .unk
    have hiy:=idx23 b.kids k hltb .unk
    have hck:∀h,callV C h (.func 112 []) (some [enc a.kids[k],enc b.kids[k]])=some (.int .i64 (a.kids[k].cmp b.kids[k]),h):=fun h=>callV_strip (by kernel_rfl) rfl (dat_enc2 _ _) (by simp[short_enc]) (by simp) (hc _ (List.getElem_mem hlt) _ (List.getElem_mem hltb))
    have e3:=len_sizes a.kids
    have e4:=size_kids a
    have w2:IntKind.i64.wrap ((k:Int)+1)=((k+1:Nat):Int):=by rw[wrap_in (by omega)];omega
    rw[List.drop_eq_getElem_cons hlt,List.drop_eq_getElem_cons hltb,cmps,thn,if_pos rfl] at hd
    simp[go_sem,g2,g3,g5,g6,two_a3,two_b3,len23,hlt',hix,hiy,ld25,hck,-Int.natCast_add,w2]
    exact ⟨a.kids.length-(k+1),by omega,k+1,a.kids[k].cmp b.kids[k],by simp[go_sem,g2,g3,hd];exact ⟨by omega,fun _=>hz rfl⟩⟩
   ·have:k=a.kids.length:=by omega
    subst this
    rw[List.drop_length,hz rfl,List.drop_length] at hd
    simp[go_sem,g2,g5,g6,two_a3,len23]
    refine hR _ _ _ (.inr rfl) ⟨_,rfl,?_⟩
    simp[go_sem,←hd,cmps,thn];exact snap_dat rfl rfl
  ·rw[thn,if_neg hc0] at hd
   simp[go_sem,g5,hc0]
   refine hR _ _ _ (.inr rfl) ⟨_,rfl,?_⟩
   simp[go_sem,←hd];exact snap_dat rfl rfl
theorem cmp112_all (a:T):∀b:T,a.size<4000000→b.size<4000000→CallP C 112 [enc a,enc b]=some (.int .i64 (a.cmp b)):=by
 induction a using T.ind with
 | _ a ih=>exact fun b hs hs2=>cmp112 a b hs hs2 fun k hk m hm=>ih k hk m (by have:=kid_size hk;omega) (by have:=kid_size hm;omega)
theorem call112 (a b:T) (hs:a.size<4000000) (hs2:b.size<4000000) (h:H):callV C h (.func 112 []) (some [enc a,enc b])=some (.int .i64 (a.cmp b),h):=callV_strip (by kernel_rfl) rfl (dat_enc2 _ _) (by simp[short_enc]) (by simp) (cmp112_all a b hs hs2)
end Go.VP

/- term.Compare in the model: what it answers; the world only grows, and the tape of choices only goes on. -/
namespace Go.VP
open Go Go.V Go.Proofs Go.RowKit TL
open Go.VZ (enc encs encs_map terms enc_eq enc_cells cells_agg)
theorem okD [DFlag]:Go.V.Ok Tryz.prog (Go.V.Call C):=Call_ok (C:=C) Go.VZ.good (fun f args h r h' hp=>by cases hp)
theorem grow_of [DFlag] (hD:DFlag.D){w w':World}(g:Grows w w'):∃q os,w'=Go.Sort.grow (w.drewN q) os:=by
 have hd:=g.drawn hD
 refine ⟨w'.drawn-w.drawn,w'.heap.extract w.heap.size w'.heap.size,?_⟩
 obtain ⟨hp,tp,dr,os,ou⟩:=w'
 have e1:=g.os
 have e2:=g.tape
 have e3:=g.output
 have e4:=g.size
 have e5:=g.block
 simp only at e1 e2 e3 e4 e5 hd
 subst e1;subst e2;subst e3
 simp only[Go.Sort.grow,World.drewN,World.mk.injEq,and_true,true_and]
 refine ⟨?_,by omega⟩
 apply Array.ext_getElem?
 intro i
 rw[Array.getElem?_append]
 split
 ·rename_i hi;exact e5 i hi
 ·rename_i hi
  rw[Array.getElem?_extract]
  split
  ·rename_i h2;congr 1;omega
  ·rename_i h2;exact Array.getElem?_eq_none (by omega)
theorem cmp_callsD [DFlag] (hD:DFlag.D) (a b:T) (ha:a.size<4000000) (hb:b.size<4000000){w:World}{u v:Value}(hg:GlobR (fun _ _=>True) w) (hu:IRel (fun _ _=>True) w (enc a) u) (hv:IRel (fun _ _=>True) w (enc b) v) :
  Calls Tryz.prog 112 #[u,v] w fun e w'=>e=.returned (.int .i64 (a.cmp b))∧∃q os,w'=Go.Sort.grow (w.drewN q) os:=by
 have hc:=cmp112_all a b ha hb
 unfold CallP at hc
 split at hc<;>first | (cases hc;done) | skip
 rename_i r h1 hx
 refine (okD.fn 112 [enc a,enc b] [] r h1 (by kernel_rfl) hx w.heap.size (fun _ _=>True) [] w #[u,v] (.start hg) rfl (fun i x y hx hy=>?_)).mono ?_
 ·match i,hx,hy with
  | 0,hx,hy=>simp at hx hy;subst hx;subst hy;exact .data (irel_start hu)
  | 1,hx,hy=>simp at hx hy;subst hx;subst hy;exact .data (irel_start hv)
  | i+2,hx,hy=>simp at hx
 ·rintro e w' ⟨v,rfl,σ',k1,k2,k3⟩
  have hs:=snap_sound (k1.stiller (freezeAll_stiller h1)) deep r _ v hc (k3.step (.stiller k1 (freezeAll_stiller h1)))
  cases hs
  exact ⟨rfl,grow_of hD (of_below k2.below k2.drawn)⟩
theorem cmp_calls (a b:T) (ha:a.size<4000000) (hb:b.size<4000000){w:World}{u v:Value}(hg:GlobR (fun _ _=>True) w) (hu:IRel (fun _ _=>True) w (enc a) u) (hv:IRel (fun _ _=>True) w (enc b) v) :
  Calls Tryz.prog 112 #[u,v] w fun e w'=>e=.returned (.int .i64 (a.cmp b))∧∃q os,w'=Go.Sort.grow (w.drewN q) os:=@cmp_callsD ⟨True⟩ trivial a b ha hb w u v hg hu hv
end Go.VP

/- slices.SortFunc at terms: the shelf's contract, laid by the shelf's own tool; turned to a row of one's own of the value machine. -/
namespace Go.Proofs
open Go.Shelf
def Tryz.laysSort_ren:Go.Shelf.Ren:=⟨fun | 6=>217 | 15=>127 | 14=>265 | 28=>190 | 29=>191 | 20=>303 | 21=>304 | 22=>305 | 23=>306 | 24=>307 | 25=>308 | 26=>309 | 27=>310 | 46=>334 | 47=>237 | 48=>238 | 49=>335 | 50=>336 | 57=>362 | n=>n,fun | 22=>23 | 24=>25 | 25=>163 | 3=>3 | 39=>173 | 0=>0 | 53=>222 | 55=>224 | 4=>4 | 46=>216 | 45=>215 | 50=>104 | 5=>5 | 9=>9 | 66=>260 | 70=>208 | 76=>309 | 77=>310 | n=>n,fun | n=>n⟩
theorem Tryz.laysSort:Go.Proofs.SlLaysF0.n6 Tryz.prog Tryz.laysSort_ren:={
 mixed:=by kernel_rfl
 f6:=⟨Tryz.f217.name,by decide,Tryz.func217.trans (congrArg some (by kernel_rfl))⟩
 f14:=⟨Tryz.f265.name,by decide,Tryz.func265.trans (congrArg some (by kernel_rfl))⟩
 f15:=Tryz.func127.trans (congrArg some (by kernel_rfl))
 f20:=⟨Tryz.f303.name,by decide,Tryz.func303.trans (congrArg some (by kernel_rfl))⟩
 f21:=⟨Tryz.f304.name,by decide,Tryz.func304.trans (congrArg some (by kernel_rfl))⟩
 f22:=⟨Tryz.f305.name,by decide,Tryz.func305.trans (congrArg some (by kernel_rfl))⟩
 f23:=⟨Tryz.f306.name,by decide,Tryz.func306.trans (congrArg some (by kernel_rfl))⟩
 f24:=⟨Tryz.f307.name,by decide,Tryz.func307.trans (congrArg some (by kernel_rfl))⟩
 f25:=⟨Tryz.f308.name,by decide,Tryz.func308.trans (congrArg some (by kernel_rfl))⟩
 f26:=⟨Tryz.f309.name,by decide,Tryz.func309.trans (congrArg some (by kernel_rfl))⟩
 f27:=⟨Tryz.f310.name,by decide,Tryz.func310.trans (congrArg some (by kernel_rfl))⟩
 f28:=Tryz.func190.trans (congrArg some (by kernel_rfl))
 f29:=Tryz.func191.trans (congrArg some (by kernel_rfl))
 f46:=⟨Tryz.f334.name,by decide,Tryz.func334.trans (congrArg some (by kernel_rfl))⟩
 f47:=Tryz.func237.trans (congrArg some (by kernel_rfl))
 f48:=Tryz.func238.trans (congrArg some (by kernel_rfl))
 f49:=⟨Tryz.f335.name,by decide,Tryz.func335.trans (congrArg some (by kernel_rfl))⟩
 f50:=⟨Tryz.f336.name,by decide,Tryz.func336.trans (congrArg some (by kernel_rfl))⟩
 f57:=⟨Tryz.f362.name,by decide,Tryz.func362.trans (congrArg some (by kernel_rfl))⟩
 t0:=Tryz.underlying0
 a0:=Tryz.isAgg0
 z0:=Tryz.sizeOf0
 v0:=Tryz.zeroValue0
 t3:=Tryz.underlying3
 a3:=Tryz.isAgg3
 z3:=Tryz.sizeOf3
 v3:=Tryz.zeroValue3
 t4:=Tryz.underlying4
 a4:=Tryz.isAgg4
 z4:=Tryz.sizeOf4
 v4:=Tryz.zeroValue4
 t5:=Tryz.underlying5
 a5:=Tryz.isAgg5
 z5:=Tryz.sizeOf5
 v5:=Tryz.zeroValue5
 t9:=Tryz.underlying9
 a9:=Tryz.isAgg9
 z9:=Tryz.sizeOf9
 v9:=Tryz.zeroValue9
 t22:=Tryz.underlying23
 a22:=Tryz.isAgg23
 z22:=Tryz.sizeOf23
 v22:=Tryz.zeroValue23
 t25:=Tryz.underlying163
 a25:=Tryz.isAgg163
 z25:=Tryz.sizeOf163
 v25:=Tryz.zeroValue163
 t39:=Tryz.underlying173
 a39:=Tryz.isAgg173
 z39:=Tryz.sizeOf173
 v39:=Tryz.zeroValue173
 t45:=Tryz.underlying215
 a45:=Tryz.isAgg215
 z45:=Tryz.sizeOf215
 v45:=Tryz.zeroValue215
 t46:=Tryz.underlying216
 a46:=Tryz.isAgg216
 z46:=Tryz.sizeOf216
 v46:=Tryz.zeroValue216
 t50:=Tryz.underlying104
 a50:=Tryz.isAgg104
 z50:=Tryz.sizeOf104
 v50:=Tryz.zeroValue104
 t53:=Tryz.underlying222
 a53:=Tryz.isAgg222
 z53:=Tryz.sizeOf222
 v53:=Tryz.zeroValue222
 t55:=Tryz.underlying224
 a55:=Tryz.isAgg224
 z55:=Tryz.sizeOf224
 v55:=Tryz.zeroValue224
 t66:=Tryz.underlying260
 a66:=Tryz.isAgg260
 z66:=Tryz.sizeOf260
 v66:=Tryz.zeroValue260
 t70:=Tryz.underlying208
 a70:=Tryz.isAgg208
 z70:=Tryz.sizeOf208
 v70:=Tryz.zeroValue208
 t76:=Tryz.underlying309
 a76:=Tryz.isAgg309
 z76:=Tryz.sizeOf309
 v76:=Tryz.zeroValue309
 t77:=Tryz.underlying310
 a77:=Tryz.isAgg310
 z77:=Tryz.sizeOf310
 v77:=Tryz.zeroValue310}
end Go.Proofs
namespace Go.VZ
open Go Go.V Go.Proofs Go.RowKit Go.Sort TL
variable {B:Nat}{A0:Nat→Nat→Prop}{σ:List (Option Nat)}{h:H}{w:World}
structure El (A:Nat→Nat→Prop) (w:World) where
 t:T
 vs:List Value
 len:vs.length=4
 small:t.size<4000000
 rel:IRel A w (enc t) (.agg vs.toArray)
theorem el_rel {A:Nat→Nat→Prop}{w:World}(x:El A w){c:Nat}{a:AV}{v:Value}(ha:(enc x.t).cells[c]?=some a) (hv:x.vs[c]?=some v):IRel A w a v:=by
 have r:=x.rel
 rw[enc_eq] at r
 cases r with
 | agg h1 hl hr=>
  rw[enc_cells] at ha
  exact hr c a v ha (by simpa using hv)
theorem el_one {A:Nat→Nat→Prop}{w:World}(x:El A w):∀v∈x.vs,v.oneCell'=true:=by
 intro v hv
 obtain ⟨c,hc⟩:=List.mem_iff_getElem?.1 hv
 have hlt:=(List.getElem?_eq_some_iff.1 hc).1
 have hl:=x.len
 have e4:(enc x.t).cells.length=4:=by rw[enc_cells];rfl
 have ha:(enc x.t).cells[c]?=some (enc x.t).cells[c]:=List.getElem?_eq_getElem (by omega)
 refine irel_one (el_rel x ha hc) ?_
 have:=List.getElem_mem (l:=(enc x.t).cells) (n:=c) (by omega)
 generalize (enc x.t).cells[c]=a at this
 rw[enc_cells] at this
 simp only[List.mem_cons,List.not_mem_nil,or_false] at this
 rcases this with rfl | rfl | rfl | rfl<;>rfl
instance {A:Nat→Nat→Prop}{w:World}:Inhabited (El A w):=⟨⟨.mk 0 ⟨#[]⟩ 0 [],[.int .i64 0,.string ⟨#[]⟩,.int .i64 0,.slice none 0 0],rfl,by decide,by
 rw[enc_eq]
 refine .agg (by intro c hc;simp at hc;rcases hc with rfl | rfl | rfl | rfl<;>rfl) rfl fun i a v ha hv=>?_
 match i,ha,hv with
 | 0,ha,hv=>simp at ha hv;subst ha;subst hv;exact .int _ _
 | 1,ha,hv=>simp at ha hv;subst ha;subst hv;exact .str _
 | 2,ha,hv=>simp at ha hv;subst ha;subst hv;exact .int _ _
 | 3,ha,hv=>simp at ha hv;subst ha;subst hv;exact .islNil
 | i+4,ha,hv=>simp at ha⟩⟩
theorem els {A:Nat→Nat→Prop}{w:World}{vs:Array Value}:∀(l:List T) (off:Nat),(∀t∈l,t.size<4000000)→(∀(k:Nat) c v,(cellsT l)[k]?=some c→vs[off+k]?=some v→IRel A w c v)→off+4*l.length≤vs.size →
  ∃es:List (El A w),es.map El.t=l∧∀(j c:Nat) (hj:j<es.length),c<4→vs[off+(4*j+c)]?=(es[j]).vs[c]?
 | [],off,_,_,_=>⟨[],rfl,fun j c hj=>by simp at hj⟩
 | a::l,off,hs,hr,hl=>by
  simp only[List.length_cons] at hl
  obtain ⟨es,h1,h2⟩:=els l (off+4) (fun t ht=>hs t (by simp[ht])) (fun k c v hc hv=>hr (4+k) c v (by
   have e:cellsT (a::l)=(enc a).cells++cellsT l:=rfl
   have e4:(enc a).cells.length=4:=by rw[enc_cells];rfl
   rw[e,List.getElem?_append_right (by omega),show 4+k-(enc a).cells.length=k by omega];exact hc) (by rw[←Nat.add_assoc];exact hv)) (by omega)
  have g:∀c,c<4→∃v,vs[off+c]?=some v:=fun c hc=>⟨vs[off+c]'(by omega),Array.getElem?_eq_getElem (by omega)⟩
  obtain ⟨v0,g0⟩:=g 0 (by omega)
  obtain ⟨v1,g1⟩:=g 1 (by omega)
  obtain ⟨v2,g2⟩:=g 2 (by omega)
  obtain ⟨v3,g3⟩:=g 3 (by omega)
  have r:∀(c:Nat) x v,(enc a).cells[c]?=some x→c<4→vs[off+c]?=some v→IRel A w x v:=fun c x v hx hc hv=>hr c x v (by
   have:=cellsT_get (l:=a::l) (j:=0) (c:=c) (by simp) hc
   rw[Nat.mul_zero,Nat.zero_add] at this
   rw[this];exact hx) hv
  refine ⟨⟨a,[v0,v1,v2,v3],rfl,hs a (by simp),?_⟩::es,by simp[h1],?_⟩
  ·rw[enc_eq]
   rw[enc_cells] at r
   refine .agg (by intro c hc;simp at hc;rcases hc with rfl | rfl | rfl | rfl<;>rfl) rfl fun i x v hx hv=>?_
   match i,hx,hv with
   | 0,hx,hv=>simp at hv;subst hv;exact r 0 x _ hx (by omega) g0
   | 1,hx,hv=>simp at hv;subst hv;exact r 1 x _ hx (by omega) g1
   | 2,hx,hv=>simp at hv;subst hv;exact r 2 x _ hx (by omega) g2
   | 3,hx,hv=>simp at hv;subst hv;exact r 3 x _ hx (by omega) g3
   | i+4,hx,hv=>simp at hx
  ·intro j c hj hc
   cases j with
   | zero=>
    match c,hc with
    | 0,_=>exact g0
    | 1,_=>exact g1
    | 2,_=>exact g2
    | 3,_=>exact g3
   | succ j=>
    have:=h2 j c (by simpa using hj) hc
    rw[show off+(4*(j+1)+c)=off+4+(4*j+c) by omega,this]
    rfl
end Go.VZ

/- The contract of slices.SortFunc at terms, for the value machine. -/
namespace Go.VZ
open Go Go.V Go.Proofs Go.RowKit Go.Sort TL
variable {B:Nat}{A0:Nat→Nat→Prop}{σ:List (Option Nat)}{h:H}{w:World}
theorem isl_nil {A:Nat→Nat→Prop}{x:Ext}{v:Value}(r:Rel Tryz.prog A σ h w (.isl [] x) v):∃p cap,v=.slice p 0 cap:=by
 have key:∀u,IRel A w (.isl [] .unk) u→∃p cap,u=.slice p 0 cap:=fun u r=>by
  cases r with
  | islNil=>exact ⟨_,_,rfl⟩
  | islEmpty a cap hm=>exact ⟨_,_,rfl⟩
  | isl f=>exact ⟨_,_,rfl⟩
 cases r with
 | data hd=>
  cases hd with
  | islNil=>exact ⟨_,_,rfl⟩
  | islEmpty a cap hm=>exact ⟨_,_,rfl⟩
  | isl f=>exact ⟨_,_,rfl⟩
 | full hd=>obtain ⟨p,c,e⟩:=key _ hd;cases e;exact ⟨_,_,rfl⟩
 | tok hd _=>exact key _ hd
theorem func_rel {A:Nat→Nat→Prop}{f:FuncId}{v:Value}(r:Rel Tryz.prog A σ h w (.func f []) v):v=.func (.func f) #[] #[]:=by
 cases r with
 | data hd=>cases hd with
  | func hl _=>simp only[List.length_nil,Array.size_eq_zero_iff] at hl;rw[hl]
 | func hl _=>simp only[List.length_nil,Array.size_eq_zero_iff] at hl;rw[hl]
theorem cells_data {A:Nat→Nat→Prop}{l:List T}{k:Nat}{c:AV}{v:Value}(hc:(cellsT l)[k]?=some c) (r:Rel Tryz.prog A σ h w c v):IRel A w c v:=by
 have hm:=List.mem_of_getElem? hc
 simp only[cellsT,List.mem_flatMap] at hm
 obtain ⟨t,_,hm⟩:=hm
 rw[enc_cells] at hm
 simp only[List.mem_cons,List.not_mem_nil,or_false] at hm
 rcases hm with rfl | rfl | rfl | rfl<;>(cases r with | data hd=>exact hd)
theorem swoC {A:Nat→Nat→Prop}{w:World}:SWO (ltOf fun x y:El A w=>x.t.cmp y.t) where
 irrefl x:=by simp[ltOf,cmp_refl]
 trans x y z h1 h2:=by
  simp only[ltOf,decide_eq_true_eq] at *
  exact cmp_trans h1 h2
 ntrans x y z h1 h2:=by
  simp only[ltOf,decide_eq_false_iff_not] at *
  exact le_trans (x:=z.t) (y:=y.t) (z:=x.t) h2 h1
theorem mapBlock_row {b:Nat}{vs:Array Value}{ty:TypeId}{fr:Nat × Nat}(f:Array Value→Array Value) (hb:w.heap[b]?=some (.cells vs ty fr)):mapBlock w b f=w.setRow b (f vs):=by
 unfold mapBlock World.setRow
 congr 1
 apply Array.ext_getElem?
 intro k
 simp only[Array.getElem?_modify]
 by_cases hk:b=k
 ·subst hk;simp only[if_true,hb,Option.map_some,onCells]
 ·simp[hk]
theorem sortWorldK_block {E:Type} [Inhabited E] {ev:E→List Value}{k:Nat}{b m:Nat}{dk:Array E}{os:Array Obj}{g:Nat}{o:Obj}(hg:w.heap[g]?=some o) (hne:g≠b):(sortWorldK ev k w b 0 m dk os).heap[g]?=some o:=by
 have hlt:=(Array.getElem?_eq_some_iff.1 hg).1
 unfold sortWorldK
 simp only[Go.Sort.grow]
 rw[Array.getElem?_append_left (by unfold putRowK putRow mapBlock;simpa using hlt)]
 unfold putRowK putRow mapBlock
 simp[Array.getElem?_modify,Ne.symm hne,hg]
set_option maxHeartbeats 1000000 in
theorem sort_calls [DFlag] (hr:HRel Tryz.prog B A0 σ h w){i0 b c:Nat}{l:List T}(hs:∀t∈l,t.size<4000000) (hid:h[i0]?=some (.cells (cellsT l) .live)) (hb:σ[i0]?=some (some b)) (hl:l.length<4611686018427387904) :
  Calls Tryz.prog 217 #[.slice (some ⟨b,0,none⟩) l.length c,.func (.func 112) #[] #[]] w (fun e w'=>∃v,e=.returned v∧Go.V.Leaves Tryz.prog B A0 σ h w (.tuple []) (h.set i0 (.cells (cellsT (srt l)) .live)) v w'):=by
 obtain ⟨b',vs,ty,e1,hB,hblk,hle,hone,hrel⟩:=hr.cells i0 _ .live hid (by simp)
 rw[hb] at e1;simp only[Option.some.injEq] at e1;subst e1
 have hlen:=cellsT_len l
 obtain ⟨es,hes,hget⟩:=els (A:=Alw Tryz.prog B A0 σ h) (w:=w) (vs:=vs) l 0 hs (fun k x v hx hv=>by
  rw[Nat.zero_add] at hv
  exact cells_data hx (hrel k x v hx hv)) (by omega)
 have hel:es.length=l.length:=by rw[←hes];simp
 have hlt:b<w.heap.size:=(Array.getElem?_eq_some_iff.1 hblk).1
 have hne:∀k o,Alw Tryz.prog B A0 σ h k o→k≠b:=fun k o ha e=>by
  subst e
  unfold Alw at ha
  rw[if_neg (by omega)] at ha
  exact ha.1 i0 _ hid hb
 have up:∀(m:Nat) (os:Array Obj) (dk:Array (El (Alw Tryz.prog B A0 σ h) w)) (k o:Nat) x,Alw Tryz.prog B A0 σ h k o→w.cell? ⟨k,o,none⟩=some x→(sortWorldK El.vs 4 w b 0 m dk os).cell? ⟨k,o,none⟩=some x:=fun m os dk k o x ha hc=>by
  have hk:=World.block_lt_of_cell? w _ hc
  unfold sortWorldK
  rw[cell?_grow _ _ _ (by unfold putRowK putRow mapBlock;simpa using hk),cell?_putRowK_other (h:=hne k o ha)]
  exact hc
 have hcmp:CmpLays Tryz.prog 112 #[] El.vs 4 (fun x y:El (Alw Tryz.prog B A0 σ h) w=>x.t.cmp y.t) b 0 es.toArray.size w:=by
  intro m os dk _ x y
  have go:∀ {a:AV}{v:Value},IRel (Alw Tryz.prog B A0 σ h) w a v→IRel (fun _ _=>True) (sortWorldK El.vs 4 w b 0 m dk os) a v:=fun r=>r.mono fun k o x ha hc=>⟨trivial,up m os dk k o x ha hc⟩
  exact Go.VP.cmp_calls x.t y.t x.small y.small ⟨fun g a hg=>go (hr.gr.1 g a hg),fun g n hg=>by
   obtain ⟨hB',vs',ty',fr',e1,e2⟩:=hr.tab g n hg
   exact ⟨vs',ty',fr',sortWorldK_block e1 (by omega),e2⟩⟩ (go x.rel) (go y.rel)
 have hH:HoldsK El.vs 4 w b 0 es.toArray:=by
  intro j hj
  have hj':j<4*l.length:=by simp[size_flatK] at hj;omega
  have hd:j/4<es.length:=by omega
  have hg:=hget (j/4) (j%4) hd (Nat.mod_lt _ (by omega))
  rw[show 0+(4*(j/4)+j%4)=j by omega] at hg
  have h4:=(es[j/4]).len
  have hmod:j%4<4:=Nat.mod_lt _ (by omega)
  refine ⟨?_,by simp[World.frozen?,hblk]⟩
  rw[get_flatK _ _ _ _ (by simpa [size_flatK] using hj)]
  simp only[World.cell?,hblk,Nat.zero_add,Option.isSome_none,Bool.false_eq_true,if_false,hg,id]
  rw[getElem!_pos es.toArray (j/4) (by simpa using hd)]
  simp only[List.getElem_toArray]
  rw[getElem!_pos _ _ (by omega),List.getElem?_eq_getElem (by omega)]
 have hsz:es.toArray.size<4611686018427387904:=by simp;omega
 have key:=AnyQ.slices_SortFunc (P:=Tryz.prog) Tryz.laysSort 4 Tryz.isAgg25 Tryz.sizeOf25 (El.vs (A:=Alw Tryz.prog B A0 σ h) (w:=w)) El.len el_one (fun x y=>x.t.cmp y.t) swoC 112 #[] b 0 c es.toArray w (enters_of Tryz.func112 (by kernel_rfl) rfl) hcmp hH hlt hsz
 change Calls Tryz.prog 217 _ _ _ at key
 rw[show es.toArray.size=l.length by simp[hel]] at key
 refine key.mono ?_
 rintro e w' ⟨rfl,d',n,os,hp,hso,rfl⟩
 have hds:d'.size=l.length:=by have:=hp.1;simpa [hel] using this
 have hT:d'.toList.map El.t=srt l:=by
  have p1:(d'.toList.map El.t).Perm l:=by
   have:=hp.2.2
   rw[show l.length=d'.size from hds.symm,Array.extract_size,hds,show l.length=es.toArray.size by simp[hel],Array.extract_size] at this
   rw[←hes]
   exact this.map _
  refine perm_sorted_eq (p1.trans (srt_perm l).symm) ?_ (srt_sorted l)
  rw[List.pairwise_map,List.pairwise_iff_getElem]
  intro i j hi hj hij
  have:=hso i j (Nat.zero_le _) hij (by simpa [hds] using hj)
  simp only[ltOf,decide_eq_false_iff_not] at this
  rw[getElem!_pos d' i (by simpa using hi),getElem!_pos d' j (by simpa using hj)] at this
  simpa [le] using this
 obtain ⟨vs',evs⟩:∃vs',vs'=putCells id 0 (flatK El.vs 4 d') vs:=⟨_,rfl⟩
 have hrow:putRowK El.vs 4 w b 0 d'=w.setRow b vs':=by
  unfold putRowK putRow
  rw[mapBlock_row _ hblk,evs]
 have hw:sortWorldK El.vs 4 w b 0 n d' os=Go.Sort.grow ((w.setRow b vs').drewN n) os:=by
  rw[←hrow];rfl
 have hvs:vs'.size=vs.size:=by rw[evs];simp[putCells]
 have hl2:(cellsT (srt l)).length=4*l.length:=by rw[cellsT_len,srt_len]
 have hrel':∀(k:Nat) x v,(cellsT (srt l))[k]?=some x→vs'[k]?=some v→Rel Tryz.prog (Alw Tryz.prog B A0 σ h) σ h w x v:=by
  intro k x v hx hv
  have hk:k<4*l.length:=by rw[←hl2];exact (List.getElem?_eq_some_iff.1 hx).1
  have hd:k/4<d'.size:=by omega
  have hmod:k%4<4:=Nat.mod_lt _ (by omega)
  have hj:k/4<(srt l).length:=by rw[srt_len];omega
  have e1:=cellsT_get hj hmod
  rw[show 4*(k/4)+k%4=k by omega,hx] at e1
  have et:(srt l)[k/4]=(d'[k/4]).t:=by simp[←hT]
  rw[et] at e1
  have ev:v=(d'[k/4]).vs[k%4]'(by rw[(d'[k/4]).len];exact hmod):=by
   rw[evs] at hv
   simp only[putCells,Array.getElem?_mapIdx,Nat.zero_le,true_and,Nat.zero_add,size_flatK,Nat.sub_zero,id] at hv
   rw[Array.getElem?_eq_getElem (by omega),Option.map_some,if_pos (by omega),get_flatK _ _ _ _ (by omega),getElem!_pos d' _ hd,getElem!_pos _ _ (by rw[(d'[k/4]).len];exact hmod)] at hv
   simpa using hv.symm
  exact .data (el_rel (d'[k/4]) e1.symm (by rw[ev];exact List.getElem?_eq_getElem _))
 have hone':∀x∈cellsT (srt l),x.one=true:=by
  intro x hx
  simp only[cellsT,List.mem_flatMap] at hx
  obtain ⟨t,_,hx⟩:=hx
  rw[enc_cells] at hx
  simp only[List.mem_cons,List.not_mem_nil,or_false] at hx
  rcases hx with rfl | rfl | rfl | rfl<;>rfl
 have k1:=HRel.write hr hid hb hblk hvs (cs':=cellsT (srt l)) (by omega) hone' hrel'
 have k2:=Step.write (cs':=cellsT (srt l)) hr hid hb hblk hvs
 have g:Grows (w.setRow b vs') (sortWorldK El.vs 4 w b 0 n d' os):=by
  rw[hw]
  refine ⟨rfl,rfl,rfl,by simp[Go.Sort.grow,World.drewN],fun k hk=>?_,fun _=>by simp[Go.Sort.grow,World.drewN]⟩
  simp only[Go.Sort.grow,World.drewN]
  exact Array.getElem?_append_left hk
 exact ⟨_,rfl,σ,k1.grows g,k2.trans (.grows k1 g),.data (.tuple rfl (fun i a v ha=>by simp at ha))⟩
theorem primSort_ok [DFlag]:PrimOk Tryz.prog 217 primSort:=by
 intro args h r h' hp B A0 σ w vs hr hl ha
 unfold primSort at hp
 split at hp<;>first | (cases hp;done) | skip
 ·rename_i x
  simp only[Option.some.injEq,Prod.mk.injEq] at hp
  obtain ⟨rfl,rfl⟩:=hp
  obtain ⟨l⟩:=vs
  match l,hl,ha with
  | [u,v],_,ha=>
   obtain ⟨p,cap,rfl⟩:=isl_nil (ha 0 _ u rfl rfl)
   have hv:=func_rel (ha 1 _ v rfl rfl)
   subst hv
   refine (show Calls Tryz.prog 217 #[.slice p 0 cap,.func (.func 112) #[] #[]] w _ from AnyF.slices_SortFunc_none (P:=Tryz.prog) {Tryz.laysSort with} p cap _ w).mono ?_
   rintro e w' ⟨rfl,rfl⟩
   exact ⟨_,rfl,σ,hr,.refl _ _ _,.data (.tuple rfl (fun i a v ha=>by simp at ha))⟩
 ·rename_i i0 n
  split at hp<;>first | (cases hp;done) | skip
  rename_i e
  simp only[Option.some.injEq,Prod.mk.injEq] at hp
  obtain ⟨rfl,rfl⟩:=hp
  obtain ⟨c1,c4,c2,c3⟩:=e.choose_spec
  generalize e.choose=m at c1 c2 c3 c4 ⊢
  subst c1
  obtain ⟨l⟩:=vs
  match l,hl,ha with
  | [u,v],_,ha=>
   have hv:=func_rel (ha 1 _ v rfl rfl)
   subst hv
   have hu:=ha 0 _ u rfl rfl
   cases hu with
   | data hd=>cases hd
   | msl hs hk h0 hc hm hcap hw=>
    exact sort_calls hr c2 c3 hs (by omega)
end Go.VZ

/- Unification of pairs, step by step: terms put for a variable, the choice, and what holds along the way. -/
namespace Go.VZ
open Go Go.V Go.Proofs TL
theorem mem_walk {x t:T}:x∈walkT single t↔x=t∨∃k∈t.kids,x∈walkT single k:=by
 rw[walkT_eq,List.mem_append,walkTs_map,List.mem_flatMap];simp[single]
theorem walk_self (t:T):t∈walkT single t:=mem_walk.2 (.inl rfl)
mutual
def put1 (x y:T):T→T
 | .mk k n s l=>if T.cmp (.mk k n s l) x=0 then y else .mk k n s (put1s x y l)
def put1s (x y:T):List T→List T
 | []=>[]
 | t::l=>put1 x y t::put1s x y l
end
theorem put1s_map (x y:T):∀l,put1s x y l=l.map (put1 x y)
 | []=>rfl
 | t::l=>by rw[put1s,put1s_map x y l];rfl
theorem put1_eq (x y t:T):put1 x y t=if t.cmp x=0 then y else .mk t.kind t.name t.sort (t.kids.map (put1 x y)):=by cases t;rw[put1,put1s_map];rfl
def leafy (t:T):Prop:=∀y∈walkT single t,y.kind=1→y.kids=[]
theorem leafy_kid {t k:T}(h:leafy t) (hk:k∈t.kids):leafy k:=fun y hy=>h y (mem_walk.2 (.inr ⟨k,hk,hy⟩))
theorem nodesEs_zero {l:List T}(h:nodesEs l=0):∀k∈l,nodesE k=0:=by
 induction l with
 | nil=>simp
 | cons a l ih=>
  rw[nodesEs] at h
  obtain ⟨h1,h2⟩:=thn_zero.1 h
  intro k hk
  rcases List.mem_cons.1 hk with rfl | hk
  ·exact h1
  ·exact ih h2 k hk
theorem nodes_all:∀t:T,nodesE t=0→∀y∈walkT single t,nodesE y=0:=by
 refine T.ind fun t ih h y hy=>?_
 rcases mem_walk.1 hy with rfl | ⟨k,hk,hy⟩
 ·exact h
 ·rw[nodesE_eq] at h
  exact ih k hk (nodesEs_zero (thn_zero.1 h).2 k hk) y hy
theorem node_leaf {t:T}(h:nodeE t=0) (hk:t.kind=1∨t.kind=2):t.kids=[]:=by
 unfold nodeE at h
 split at h
 ·cases h
 ·rename_i hb
  cases hl:t.kids with
  | nil=>rfl
  | cons a l=>
   exfalso
   apply hb
   simp only[badN,hl,List.length_cons]
   rcases hk with hk | hk<;>simp[hk]
theorem node_kids {t:T}(h:nodeE t=0):t.kids.length≤8:=by
 unfold nodeE at h
 split at h
 ·cases h
 ·split at h
  ·cases h
  ·split at h
   ·cases h
   ·omega
theorem nodesE_node {t:T}(h:nodesE t=0):nodeE t=0:=by rw[nodesE_eq] at h;exact (thn_zero.1 h).1
theorem valid_leafy {t:T}(h:validE t=0):leafy t:=fun y hy k=>node_leaf (nodesE_node (nodes_all t (nodes_zero h).1 y hy)) (.inl k)
theorem depth_kid {t k:T}(h:k∈t.kids):k.depth<t.depth:=by
 rw[depth_eq t]
 have:∀l:List T,k∈l→k.depth≤depths l:=by
  intro l
  induction l with
  | nil=>simp
  | cons a l ih=>
   intro hm
   rw[depths]
   rcases List.mem_cons.1 hm with rfl | hm
   ·exact Nat.le_max_left _ _
   ·exact Nat.le_trans (ih hm) (Nat.le_max_right _ _)
 exact Nat.lt_succ_of_le (this _ h)
theorem valid_kid {t k:T}(h:validE t=0) (hk:k∈t.kids):validE k=0:=by
 obtain ⟨h1,h2,h3⟩:=nodes_zero h
 have a:=nodes_all t h1 k (mem_walk.2 (.inr ⟨k,hk,walk_self k⟩))
 have b:=kid_size hk
 have c:=depth_kid hk
 unfold validE
 rw[a,if_neg (by omega)];rfl
theorem mem_put1 {x y:T}:∀t:T,leafy t→∀z,z.kind=1→z∈walkT single (put1 x y t)→(z∈walkT single t∧z≠x)∨z∈walkT single y:=by
 refine T.ind fun t ih ht z hz hm=>?_
 rw[put1_eq] at hm
 split at hm
 ·exact .inr hm
 ·rename_i hne
  rcases mem_walk.1 hm with e | ⟨k,hk,hm⟩
  ·left
   have hk1:t.kind=1:=by rw[e] at hz;exact hz
   have hkk:=ht t (walk_self t) hk1
   have:z=t:=by rw[e,hkk];cases t;simp only[T.kind,T.name,T.sort,T.kids] at hkk ⊢;subst hkk;rfl
   subst this
   exact ⟨walk_self _,fun e=>hne (cmp_zero.2 e)⟩
  ·simp only[T.kids,List.mem_map] at hk
   obtain ⟨k0,hk0,rfl⟩:=hk
   rcases ih k0 hk0 (leafy_kid ht hk0) z hz hm with ⟨a,b⟩ | a
   ·exact .inl ⟨mem_walk.2 (.inr ⟨k0,hk0,a⟩),b⟩
   ·exact .inr a
def occ (x t:T):Bool:=decide (x∈walkT single t)
inductive Ch where
 | bad (e:Int)
 | ok (x y:T)
def fitU (x t:T):Ch:=if x.sort≠0∧(t.kind≠2∨t.sort≠x.sort) then .bad 11 else if occ x t=true then .bad 12 else .ok x t
def chooseU (a b:T):Ch:=
 if a.kind=1 then
  if b.kind=1 then
   if (a.sort=b.sort∧a.cmp b<0)∨(a.sort≠b.sort∧b.sort=0) then .ok b a
   else if a.sort≠b.sort∧a.sort≠0 then .bad 11 else .ok a b
  else fitU a b
 else if b.kind=1 then fitU b a
 else .bad 11
def alikeU (a b:T):Bool:=decide (a.kind=3)&&decide (b.kind=3)&&decide (a.name=b.name)&&decide (a.kids.length=b.kids.length)
def zipU (a b:T):List (T × T):=a.kids.zip b.kids
def okP (x y:T) (ps:List (T × T)):Bool:=ps.all fun p=>decide (validE (put1 x y p.1)=0)&&decide (validE (put1 x y p.2)=0)
def okS (x y:T) (s:List (T × T)):Bool:=s.all fun b=>decide (validE (put1 x y b.2)=0)
def okU (x y:T) (ps s:List (T × T)):Bool:=okP x y ps&&okS x y s
def putP (x y:T) (ps:List (T × T)):List (T × T):=ps.map fun p=>(put1 x y p.1,put1 x y p.2)
def putS (x y:T) (s:List (T × T)):List (T × T):=s.map fun b=>(b.1,put1 x y b.2)
theorem choose_ok {a b x y:T}(ha:validE a=0) (hb:validE b=0) (hne:a≠b) (h:chooseU a b=.ok x y):x.kind=1∧x∉walkT single y∧((x=a∧y=b)∨(x=b∧y=a)):=by
 have var:∀u v:T,v.kind=1→leafy v→u≠v→u∉walkT single v:=fun u v hv hl hn hm=>by
  rcases mem_walk.1 hm with e | ⟨k,hk,_⟩
  ·exact hn e
  ·rw[hl v (walk_self v) hv] at hk;simp at hk
 have fit:∀u v:T,u.kind=1→fitU u v=.ok x y→x=u∧y=v∧u∉walkT single v:=fun u v _ hf=>by
  unfold fitU at hf
  split at hf
  ·cases hf
  ·split at hf
   ·cases hf
   ·rename_i ho
    simp only[Ch.ok.injEq] at hf
    exact ⟨hf.1.symm,hf.2.symm,by simpa [occ] using ho⟩
 unfold chooseU at h
 split at h
 ·rename_i ka
  split at h
  ·rename_i kb
   split at h
   ·simp only[Ch.ok.injEq] at h
    obtain ⟨rfl,rfl⟩:=h
    exact ⟨kb,var _ _ ka (valid_leafy ha) (fun e=>hne e.symm),.inr ⟨rfl,rfl⟩⟩
   ·split at h
    ·cases h
    ·simp only[Ch.ok.injEq] at h
     obtain ⟨rfl,rfl⟩:=h
     exact ⟨ka,var _ _ kb (valid_leafy hb) hne,.inl ⟨rfl,rfl⟩⟩
  ·obtain ⟨rfl,rfl,h3⟩:=fit a b ka h
   exact ⟨ka,h3,.inl ⟨rfl,rfl⟩⟩
 ·split at h
  ·rename_i kb
   obtain ⟨rfl,rfl,h3⟩:=fit b a kb h
   exact ⟨kb,h3,.inr ⟨rfl,rfl⟩⟩
  ·cases h
def inP (u:T) (ps:List (T × T)):Prop:=∃p∈ps,u∈walkT single p.1∨u∈walkT single p.2
open Classical in
noncomputable def cntU (U:List T) (ps:List (T × T)):Nat:=(U.filter fun u=>decide (inP u ps)).length
theorem filter_le {α:Type}{p q:α→Bool}:∀l:List α,(∀a∈l,p a=true→q a=true)→(l.filter p).length≤(l.filter q).length
 | [],_=>Nat.le_refl _
 | a::l,h=>by
  have ih:=filter_le l fun b hb=>h b (List.mem_cons_of_mem _ hb)
  have h0:=h a (by simp)
  rw[List.filter_cons,List.filter_cons]
  by_cases e:p a=true
  ·rw[if_pos e,if_pos (h0 e)];simp;omega
  ·rw[if_neg e];split<;>simp<;>omega
theorem filter_lt {α:Type}{p q:α→Bool}{x:α}:∀l:List α,(∀a∈l,p a=true→q a=true)→x∈l→p x=false→q x=true→(l.filter p).length<(l.filter q).length
 | [],_,hx,_,_=>by simp at hx
 | a::l,h,hx,h1,h2=>by
  have hl:∀b∈l,p b=true→q b=true:=fun b hb=>h b (List.mem_cons_of_mem _ hb)
  have h0:=h a (by simp)
  rw[List.filter_cons,List.filter_cons]
  rcases List.mem_cons.1 hx with rfl | hx
  ·have:=filter_le l hl
   rw[if_neg (by rw[h1];simp),if_pos h2];simp;omega
  ·have ih:=filter_lt l hl hx h1 h2
   by_cases e:p a=true
   ·rw[if_pos e,if_pos (h0 e)];simp;omega
   ·rw[if_neg e];split<;>simp<;>omega
theorem cntU_le {U:List T}{ps qs:List (T × T)}(h:∀u∈U,inP u ps→inP u qs):cntU U ps≤cntU U qs:=by
 unfold cntU
 exact filter_le U fun u hu hp=>by simpa using h u hu (by simpa using hp)
theorem cntU_len (U:List T) (ps:List (T × T)):cntU U ps≤U.length:=List.length_filter_le _ _
theorem cntU_lt {U:List T}{ps qs:List (T × T)}{x:T}(h:∀u∈U,inP u ps→inP u qs) (hx:x∈U) (h1:¬inP x ps) (h2:inP x qs):cntU U ps<cntU U qs:=by
 unfold cntU
 exact filter_lt (x:=x) U (fun u hu hp=>by simpa using h u hu (by simpa using hp)) hx (by simpa using h1) (by simpa using h2)
structure InvU (U:List T) (K:Nat) (ps s:List (T × T)):Prop where
 valid:∀p∈ps,validE p.1=0∧validE p.2=0
 varsU:∀p∈ps,∀u:T,u.kind=1→u∈walkT single p.1∨u∈walkT single p.2→u∈U
 allU:∀u∈U,u.kind=1
 bval:∀b∈s,validE b.1=0∧validE b.2=0
 gone:∀b∈s,b.1.kind=1∧¬inP b.1 ps
 diff:s.Pairwise fun a b=>a.1≠b.1
 len:∃A B,ps=A++B∧(A.map fun p=>p.1.size).sum≤400∧B.length+400*cntU U ps≤K
 slen:s.length+cntU U ps≤U.length
theorem sum_len {A:List (T × T)}:A.length≤(A.map fun p=>p.1.size).sum:=by
 induction A with
 | nil=>simp
 | cons a A ih=>have:=size_pos a.1;simp only[List.length_cons,List.map_cons,List.sum_cons];omega
theorem InvU.plen {U K ps s}(h:InvU U K ps s):ps.length≤400+K:=by
 obtain ⟨A,B,rfl,h1,h2⟩:=h.len
 have:=sum_len (A:=A)
 rw[List.length_append];omega
theorem InvU.skip {U K p ps s}(h:InvU U K (p::ps) s):InvU U K ps s:=by
 have up:∀u:T,inP u ps→inP u (p::ps):=fun u ⟨q,hq,hu⟩=>⟨q,List.mem_cons_of_mem _ hq,hu⟩
 have hc:=cntU_le (U:=U) (ps:=ps) (qs:=p::ps) fun u _=>up u
 refine ⟨fun q hq=>h.valid q (List.mem_cons_of_mem _ hq),fun q hq=>h.varsU q (List.mem_cons_of_mem _ hq),h.allU,h.bval,fun b hb=>⟨(h.gone b hb).1,fun hi=>(h.gone b hb).2 (up _ hi)⟩,h.diff,?_,by have:=h.slen;omega⟩
 obtain ⟨A,B,e,h1,h2⟩:=h.len
 cases A with
 | nil=>
  cases B with
  | nil=>simp at e
  | cons b B=>
   simp only[List.nil_append,List.cons.injEq] at e
   obtain ⟨rfl,rfl⟩:=e
   exact ⟨[],ps,rfl,by simp,by simp only[List.length_cons] at h2;omega⟩
 | cons a A=>
  simp only[List.cons_append,List.cons.injEq] at e
  obtain ⟨rfl,rfl⟩:=e
  exact ⟨A,B,rfl,by simp only[List.map_cons,List.sum_cons] at h1;omega,by omega⟩
theorem zip_mem {a b:T}{p:T × T}(h:p∈zipU a b):p.1∈a.kids∧p.2∈b.kids:=by
 obtain ⟨u,v⟩:=p
 exact ⟨(List.of_mem_zip h).1,(List.of_mem_zip h).2⟩
theorem zip_sum:∀(l m:List T),((l.zip m).map fun p=>p.1.size).sum≤sizes l
 | [],_=>by simp
 | _::_,[]=>by simp
 | a::l,b::m=>by
  have:=zip_sum l m
  simp only[List.zip_cons_cons,List.map_cons,List.sum_cons,sizes];omega
theorem InvU.kids {U K a b ps s}(h:InvU U K ((a,b)::ps) s):InvU U K (zipU a b++ps) s:=by
 have hv:=h.valid _ List.mem_cons_self
 have up:∀u:T,inP u (zipU a b++ps)→inP u ((a,b)::ps):=fun u ⟨q,hq,hu⟩=>by
  rcases List.mem_append.1 hq with hq | hq
  ·have:=zip_mem hq
   exact ⟨(a,b),List.mem_cons_self,hu.imp (fun m=>mem_walk.2 (.inr ⟨_,this.1,m⟩)) (fun m=>mem_walk.2 (.inr ⟨_,this.2,m⟩))⟩
  ·exact ⟨q,List.mem_cons_of_mem _ hq,hu⟩
 have hc:=cntU_le (U:=U) fun u _=>up u
 refine ⟨fun q hq=>?_,fun q hq u hk hu=>?_,h.allU,h.bval,fun b hb=>⟨(h.gone b hb).1,fun hi=>(h.gone b hb).2 (up _ hi)⟩,h.diff,?_,by have:=h.slen;omega⟩
 ·rcases List.mem_append.1 hq with hq | hq
  ·have:=zip_mem hq
   exact ⟨valid_kid hv.1 this.1,valid_kid hv.2 this.2⟩
  ·exact h.valid q (List.mem_cons_of_mem _ hq)
 ·rcases List.mem_append.1 hq with hq | hq
  ·have:=zip_mem hq
   exact h.varsU (a,b) List.mem_cons_self u hk (hu.imp (fun m=>mem_walk.2 (.inr ⟨_,this.1,m⟩)) (fun m=>mem_walk.2 (.inr ⟨_,this.2,m⟩)))
  ·exact h.varsU q (List.mem_cons_of_mem _ hq) u hk hu
 ·obtain ⟨A,B,e,h1,h2⟩:=h.len
  have hz:=zip_sum a.kids b.kids
  have hs:=size_kids a
  cases A with
  | nil=>
   cases B with
   | nil=>simp at e
   | cons c B=>
    simp only[List.nil_append,List.cons.injEq] at e
    obtain ⟨rfl,rfl⟩:=e
    have:=(nodes_zero hv.1).2.1
    exact ⟨zipU a b,ps,rfl,by unfold zipU;simp only at this;omega,by simp only[List.length_cons] at h2;omega⟩
  | cons c A=>
   simp only[List.cons_append,List.cons.injEq] at e
   obtain ⟨rfl,rfl⟩:=e
   refine ⟨zipU a b++A,B,by simp,?_,by omega⟩
   simp only[List.map_cons,List.sum_cons] at h1
   rw[List.map_append,List.sum_append];unfold zipU;omega
theorem inP_put {x y:T}{ps:List (T × T)}(hl:∀p∈ps,leafy p.1∧leafy p.2){u:T}(hu:u.kind=1) (h:inP u (putP x y ps)):(inP u ps∧u≠x)∨u∈walkT single y:=by
 obtain ⟨q,hq,hm⟩:=h
 obtain ⟨p,hp,rfl⟩:=List.mem_map.1 hq
 rcases hm with hm | hm
 ·rcases mem_put1 _ (hl p hp).1 u hu hm with ⟨a,b⟩ | a
  ·exact .inl ⟨⟨p,hp,.inl a⟩,b⟩
  ·exact .inr a
 ·rcases mem_put1 _ (hl p hp).2 u hu hm with ⟨a,b⟩ | a
  ·exact .inl ⟨⟨p,hp,.inr a⟩,b⟩
  ·exact .inr a
theorem InvU.perm {U K ps s s'}(h:InvU U K ps s) (p:s.Perm s'):InvU U K ps s':=
 ⟨h.valid,h.varsU,h.allU,fun b hb=>h.bval b (p.mem_iff.2 hb),fun b hb=>h.gone b (p.mem_iff.2 hb),(p.pairwise_iff fun {a b}(k:a.1≠b.1)=>fun e=>k e.symm).1 h.diff,h.len,by rw[←p.length_eq];exact h.slen⟩
theorem InvU.bind {U K a b ps s x y}(h:InvU U K ((a,b)::ps) s) (hne:a≠b) (hch:chooseU a b=.ok x y) (hok:okU x y ps s=true):InvU U K (putP x y ps) (putS x y s++[(x,y)])∧cntU U (putP x y ps)<cntU U ((a,b)::ps):=by
 obtain ⟨va,vb⟩:=h.valid _ List.mem_cons_self
 obtain ⟨hx,hxy,hab⟩:=choose_ok va vb hne hch
 have hxp:inP x ((a,b)::ps):=⟨(a,b),List.mem_cons_self,hab.elim (fun e=>.inl (e.1▸walk_self _)) (fun e=>.inr (e.1▸walk_self _))⟩
 have hyp:∀u,u∈walkT single y→inP u ((a,b)::ps):=fun u hu=>⟨(a,b),List.mem_cons_self,hab.elim (fun e=>.inr (e.2▸hu)) (fun e=>.inl (e.2▸hu))⟩
 have vx:validE x=0:=by rcases hab with ⟨rfl,_⟩ | ⟨rfl,_⟩<;>assumption
 have vy:validE y=0:=by rcases hab with ⟨_,rfl⟩ | ⟨_,rfl⟩<;>assumption
 have hl:∀p∈ps,leafy p.1∧leafy p.2:=fun p hp=>⟨valid_leafy (h.valid p (List.mem_cons_of_mem _ hp)).1,valid_leafy (h.valid p (List.mem_cons_of_mem _ hp)).2⟩
 have up:∀u:T,u.kind=1→inP u (putP x y ps)→inP u ((a,b)::ps)∧u≠x:=fun u hu hi=>by
  rcases inP_put hl hu hi with ⟨⟨q,hq,hm⟩,hn⟩ | hm
  ·exact ⟨⟨q,List.mem_cons_of_mem _ hq,hm⟩,hn⟩
  ·exact ⟨hyp u hm,fun e=>hxy (e▸hm)⟩
 have hxU:x∈U:=by
  obtain ⟨p,hp,hm⟩:=hxp
  exact h.varsU p hp x hx hm
 have hlt:cntU U (putP x y ps)<cntU U ((a,b)::ps):=cntU_lt (fun u hu hi=>(up u (h.allU u hu) hi).1) hxU (fun hi=>(up x hx hi).2 rfl) hxp
 simp only[okU,okP,okS,Bool.and_eq_true,List.all_eq_true,decide_eq_true_eq] at hok
 refine ⟨⟨fun q hq=>?_,fun q hq u hk hu=>?_,h.allU,fun c hc=>?_,fun c hc=>?_,?_,?_,?_⟩,hlt⟩
 ·obtain ⟨p,hp,rfl⟩:=List.mem_map.1 hq
  exact hok.1 p hp
 ·obtain ⟨p,hp,hm⟩:=(up u hk ⟨q,hq,hu⟩).1
  exact h.varsU p hp u hk hm
 ·rcases List.mem_append.1 hc with hc | hc
  ·obtain ⟨p,hp,rfl⟩:=List.mem_map.1 hc
   exact ⟨(h.bval p hp).1,hok.2 p hp⟩
  ·simp only[List.mem_singleton] at hc;subst hc;exact ⟨vx,vy⟩
 ·rcases List.mem_append.1 hc with hc | hc
  ·obtain ⟨p,hp,rfl⟩:=List.mem_map.1 hc
   exact ⟨(h.gone p hp).1,fun hi=>(h.gone p hp).2 (up _ (h.gone p hp).1 hi).1⟩
  ·simp only[List.mem_singleton] at hc;subst hc;exact ⟨hx,fun hi=>(up x hx hi).2 rfl⟩
 ·rw[List.pairwise_append]
  refine ⟨by rw[putS,List.pairwise_map];exact h.diff,by simp,fun c hc d hd=>?_⟩
  simp only[List.mem_singleton] at hd;subst hd
  obtain ⟨p,hp,rfl⟩:=List.mem_map.1 hc
  exact fun e=>(h.gone p hp).2 (by rw[show p.1=x from e];exact hxp)
 ·refine ⟨[],putP x y ps,rfl,by simp,?_⟩
  have:=h.skip.plen
  obtain ⟨A,B,e,h1,h2⟩:=h.len
  have h3:=sum_len (A:=A)
  have h4:ps.length+1=A.length+B.length:=by have:=congrArg List.length e;simpa using this
  simp only[putP,List.length_map]
  simp only[putP] at hlt
  omega
 ·have:=h.slen
  simp only[putS,List.length_append,List.length_map,List.length_singleton];omega
end Go.VZ

/- The run of a unification: it ends; the bindings kept ascending, or in the order of their making, are the same ones. -/
namespace Go.VZ
open Go Go.V Go.Proofs TL
def runG (ins:T × T→List (T × T)→List (T × T)):Nat→List (T × T)→List (T × T)→Option (List (T × T) × Int)
 | _,[],s=>some (s,0)
 | 0,_::_,_=>none
 | n+1,(a,b)::ps,s=>
  if a.cmp b=0 then runG ins n ps s
  else if alikeU a b=true then runG ins n (zipU a b++ps) s
  else match chooseU a b with
   | .bad e=>some ([],e)
   | .ok x y=>if okU x y ps s=true then runG ins n (putP x y ps) (ins (x,y) (putS x y s)) else some ([],3)
def insE (b:T × T) (s:List (T × T)):List (T × T):=s++[b]
def insO (b:T × T):List (T × T)→List (T × T)
 | []=>[b]
 | c::l=>if b.1.cmp c.1<0 then b::c::l else c::insO b l
theorem insO_perm (b:T × T):∀l,(insO b l).Perm (l++[b])
 | []=>.refl _
 | c::l=>by
  rw[insO]
  split
  ·exact (List.perm_append_singleton b (c::l)).symm
  ·exact (insO_perm b l).cons c
def ascB (l:List (T × T)):Prop:=l.Pairwise fun a b=>le a.1 b.1
theorem insO_asc {b:T × T}:∀ {l},ascB l→ascB (insO b l)
 | [],_=>by simp[insO,ascB]
 | c::l,h=>by
  have h':=List.pairwise_cons.1 h
  rw[insO]
  split
  ·rename_i hlt
   have hbc:le b.1 c.1:=le_iff.2 (by omega)
   refine List.pairwise_cons.2 ⟨fun d hd=>?_,h⟩
   rcases List.mem_cons.1 hd with rfl | hd
   ·exact hbc
   ·exact le_trans hbc (h'.1 d hd)
  ·rename_i hlt
   refine List.pairwise_cons.2 ⟨fun d hd=>?_,insO_asc h'.2⟩
   rcases List.mem_append.1 ((insO_perm b l).mem_iff.1 hd) with hd | hd
   ·exact h'.1 d hd
   ·simp only[List.mem_singleton] at hd;subst hd;exact hlt
theorem putS_asc {x y:T}{s:List (T × T)}(h:ascB s):ascB (putS x y s):=by
 unfold ascB putS
 rw[List.pairwise_map];exact h
theorem okS_perm {x y:T}{s s':List (T × T)}(p:s.Perm s'):okS x y s=okS x y s':=by
 rw[Bool.eq_iff_iff]
 simp only[okS,List.all_eq_true]
 exact ⟨fun h b hb=>h b (p.mem_iff.2 hb),fun h b hb=>h b (p.mem_iff.1 hb)⟩
theorem run_perm:∀(n:Nat) (ps s s' r:List (T × T)) (e:Int),s.Perm s'→ascB s'→runG insE n ps s=some (r,e)→∃r',runG insO n ps s'=some (r',e)∧r.Perm r'∧ascB r'
 | n,[],s,s',r,e,hp,ha,h=>by
  simp only[runG,Option.some.injEq,Prod.mk.injEq] at h
  obtain ⟨rfl,rfl⟩:=h
  exact ⟨s',by simp[runG],hp,ha⟩
 | 0,_::_,s,s',r,e,hp,ha,h=>by simp[runG] at h
 | n+1,(a,b)::ps,s,s',r,e,hp,ha,h=>by
  rw[runG] at h ⊢
  by_cases h1:a.cmp b=0
  ·rw[if_pos h1] at h ⊢
   exact run_perm n ps s s' r e hp ha h
  rw[if_neg h1] at h ⊢
  by_cases h2:alikeU a b=true
  ·rw[if_pos h2] at h ⊢
   exact run_perm n _ s s' r e hp ha h
  rw[if_neg h2] at h ⊢
  cases hc:chooseU a b with
  | bad e'=>
   rw[hc] at h
   simp only[Option.some.injEq,Prod.mk.injEq] at h
   obtain ⟨rfl,rfl⟩:=h
   exact ⟨[],rfl,.refl _,List.Pairwise.nil⟩
  | ok x y=>
   rw[hc] at h
   dsimp only at h ⊢
   have ho:okU x y ps s=okU x y ps s':=by rw[okU,okU,okS_perm hp]
   rw[←ho]
   by_cases h3:okU x y ps s=true
   ·rw[if_pos h3] at h ⊢
    refine run_perm n _ _ _ r e ?_ (insO_asc (putS_asc ha)) h
    exact ((hp.map _).append_right _).trans (insO_perm _ _).symm
   ·rw[if_neg h3] at h ⊢
    simp only[Option.some.injEq,Prod.mk.injEq] at h
    obtain ⟨rfl,rfl⟩:=h
    exact ⟨[],rfl,.refl _,List.Pairwise.nil⟩
theorem run_inv {U:List T}{K:Nat}:∀(n:Nat) (ps s r:List (T × T)),InvU U K ps s→runG insE n ps s=some (r,0)→r=[]∨InvU U K [] r
 | n,[],s,r,hi,h=>by
  simp only[runG,Option.some.injEq,Prod.mk.injEq,and_true] at h
  subst h;exact .inr hi
 | 0,_::_,s,r,hi,h=>by simp[runG] at h
 | n+1,(a,b)::ps,s,r,hi,h=>by
  rw[runG] at h
  by_cases h1:a.cmp b=0
  ·rw[if_pos h1] at h
   exact run_inv n ps s r hi.skip h
  rw[if_neg h1] at h
  by_cases h2:alikeU a b=true
  ·rw[if_pos h2] at h
   exact run_inv n _ s r hi.kids h
  rw[if_neg h2] at h
  cases hc:chooseU a b with
  | bad e'=>
   rw[hc] at h
   simp only[Option.some.injEq,Prod.mk.injEq] at h
   exact .inl h.1.symm
  | ok x y=>
   rw[hc] at h
   dsimp only at h
   by_cases h3:okU x y ps s=true
   ·rw[if_pos h3] at h
    exact run_inv n _ _ r (hi.bind (fun e=>h1 (cmp_zero.2 e)) hc h3).1 h
   ·rw[if_neg h3] at h
    simp at h
def szP (ps:List (T × T)):Nat:=(ps.map fun p=>p.1.size+p.2.size).sum
theorem szP_append (l m:List (T × T)):szP (l++m)=szP l+szP m:=by simp[szP]
theorem szP_zip:∀(l m:List T),szP (l.zip m)≤sizes l+sizes m
 | [],_=>by simp[szP]
 | _::_,[]=>by simp[szP]
 | a::l,b::m=>by
  have:=szP_zip l m
  simp only[szP,List.zip_cons_cons,List.map_cons,List.sum_cons,sizes] at this ⊢;omega
theorem ends {U:List T}{K:Nat}:∀(c n:Nat) (ps s:List (T × T)),InvU U K ps s→cntU U ps≤c→szP ps≤n→∃m r,runG insE m ps s=some r:=by
 intro c
 induction c using Nat.strongRecOn with
 | _ c ihc=>
  intro n
  induction n using Nat.strongRecOn with
  | _ n ihn=>
   intro ps s hi hc hn
   match ps,hi,hc,hn with
   | [],_,_,_=>exact ⟨0,_,by rw[runG]⟩
   | (a,b)::ps,hi,hc,hn=>
    have pa:=size_pos a
    have pb:=size_pos b
    have hs:szP ((a,b)::ps)=a.size+b.size+szP ps:=by simp[szP]
    by_cases h1:a.cmp b=0
    ·have hk:=hi.skip
     have hcc:cntU U ps≤cntU U ((a,b)::ps):=cntU_le fun u _ ⟨q,hq,hu⟩=>⟨q,List.mem_cons_of_mem _ hq,hu⟩
     obtain ⟨m,r,h⟩:=ihn (szP ps) (by omega) ps s hk (by omega) (Nat.le_refl _)
     exact ⟨m+1,r,by rw[runG,if_pos h1];exact h⟩
    by_cases h2:alikeU a b=true
    ·have hk:=hi.kids
     have hcc:cntU U (zipU a b++ps)≤cntU U ((a,b)::ps):=cntU_le fun u _ ⟨q,hq,hu⟩=>by
      rcases List.mem_append.1 hq with hq | hq
      ·have:=zip_mem hq
       exact ⟨(a,b),List.mem_cons_self,hu.imp (fun m=>mem_walk.2 (.inr ⟨_,this.1,m⟩)) (fun m=>mem_walk.2 (.inr ⟨_,this.2,m⟩))⟩
      ·exact ⟨q,List.mem_cons_of_mem _ hq,hu⟩
     have hz:=szP_zip a.kids b.kids
     have h3:szP (zipU a b++ps)<n:=by rw[szP_append,zipU];have:=size_kids a;have:=size_kids b;omega
     obtain ⟨m,r,h⟩:=ihn _ h3 _ s hk (by omega) (Nat.le_refl _)
     exact ⟨m+1,r,by rw[runG,if_neg h1,if_pos h2];exact h⟩
    cases hch:chooseU a b with
    | bad e=>exact ⟨1,([],e),by rw[runG,if_neg h1,if_neg h2,hch]⟩
    | ok x y=>
     by_cases h3:okU x y ps s=true
     ·obtain ⟨hk,hlt⟩:=hi.bind (fun e=>h1 (cmp_zero.2 e)) hch h3
      obtain ⟨m,r,h⟩:=ihc _ (by omega) _ _ _ hk (Nat.le_refl _) (Nat.le_refl _)
      exact ⟨m+1,r,by rw[runG,if_neg h1,if_neg h2,hch];dsimp only;rw[if_pos h3];exact h⟩
     ·exact ⟨1,([],3),by rw[runG,if_neg h1,if_neg h2,hch];dsimp only;rw[if_neg h3]⟩
theorem asc_eq:∀ {l m:List (T × T)},l.Perm m→ascB l→ascB m→l.Pairwise (fun a b=>a.1≠b.1)→l=m
 | [],m,p,_,_,_=>(List.nil_perm.1 p).symm
 | a::l,[],p,_,_,_=>by have:=p.length_eq;simp at this
 | a::l,b::m,p,ha,hb,hd=>by
  have ha':=List.pairwise_cons.1 ha
  have hb':=List.pairwise_cons.1 hb
  have hd':=List.pairwise_cons.1 hd
  have e:a=b:=by
   rcases List.mem_cons.1 (p.mem_iff.1 List.mem_cons_self) with e | h1
   ·exact e
   rcases List.mem_cons.1 (p.mem_iff.2 (List.mem_cons_self (a:=b) (l:=m))) with e | h2
   ·exact e.symm
   exact absurd (le_antisymm (ha'.1 b h2) (hb'.1 a h1)) (hd'.1 b h2)
  subst e
  rw[asc_eq (p.cons_inv) ha'.2 hb'.2 hd'.2]
end Go.VZ

/- The contract of slices.SortFunc at bindings of different variables, for the value machine. -/
namespace Go.VP
open Go Go.V Go.Proofs Go.RowKit TL
open Go.VZ (enc encs encs_map terms enc_eq enc_cells cells_agg ext ext_ok encB)
theorem s86:sizeV C.P 86=some 8:=by kernel_rfl
theorem a86:isAggB C.P 86=some true:=by kernel_rfl
attribute [go_sem] s86 a86
theorem fa86_0 (i:Nat):fieldAddrV C.P 86 (.ptr i 0) 0=some (.ptr i 0):=by kernel_rfl
attribute [go_sem] fa86_0
theorem box86 (b:T × T) (h:H):boxV C.P h 86 (encB b)=some (.ptr h.length 0,h++[.cells (encB b).cells .live]):=by
 simp[boxV,encB,cells_agg,s86,notTuple]
theorem ldB0 {h:H}{i:Nat}{b:T × T}(hi:h[i]?=some (.cells (encB b).cells .live)):loadV C.P h 25 (.ptr i 0)=some (enc b.1):=by
 simp[loadV,hi,cellsAt,a25,s25,encB,cells_agg];rw[enc_eq]
theorem cmpB324 (a b:T × T) (ha:a.1.size<4000000) (hb:b.1.size<4000000):CallP C 324 [encB a,encB b]=some (.int .i64 (a.1.cmp b.1)):=by
 refine CallP_W rfl Tryz.func324 rfl (by kernel_rfl) (by simp[Tryz.f324]) fun R hR=>?_
 have c1:=call112 a.1 b.1 ha hb
 obtain ⟨h0,eh0⟩:∃g:H,g=[.cells (encB a).cells .live,.cells (encB b).cells .live]:=⟨_,rfl⟩
 have m0:h0[0]?=some (.cells (encB a).cells .live):=by rw[eh0];rfl
 have m1:h0[1]?=some (.cells (encB b).cells .live):=by rw[eh0];rfl
 have l0:=ldB0 m0
 have l1:=ldB0 m1
 simp[go_sem,box86]
 rw[←eh0]
 simp[go_sem,l0,l1,c1]
 exact hR _ _ _ (.inr rfl) ⟨.int .i64 (a.1.cmp b.1),by simp[resultV,resV,Tryz.f324,go_sem],snap_dat rfl rfl⟩
theorem cmpB_callsD [DFlag] (hD:DFlag.D) (a b:T × T) (ha:a.1.size<4000000) (hb:b.1.size<4000000){w:World}{u v:Value}(hg:GlobR (fun _ _=>True) w) (hu:IRel (fun _ _=>True) w (encB a) u) (hv:IRel (fun _ _=>True) w (encB b) v) :
  Calls Tryz.prog 324 #[u,v] w fun e w'=>e=.returned (.int .i64 (a.1.cmp b.1))∧∃q os,w'=Go.Sort.grow (w.drewN q) os:=by
 have hc:=cmpB324 a b ha hb
 unfold CallP at hc
 split at hc<;>first | (cases hc;done) | skip
 rename_i r h1 hx
 refine (okD.fn 324 [encB a,encB b] [] r h1 (by kernel_rfl) hx w.heap.size (fun _ _=>True) [] w #[u,v] (.start hg) rfl (fun i x y hx hy=>?_)).mono ?_
 ·match i,hx,hy with
  | 0,hx,hy=>simp at hx hy;subst hx;subst hy;exact .data (irel_start hu)
  | 1,hx,hy=>simp at hx hy;subst hx;subst hy;exact .data (irel_start hv)
  | i+2,hx,hy=>simp at hx
 ·rintro e w' ⟨v,rfl,σ',k1,k2,k3⟩
  have hs:=snap_sound (k1.stiller (freezeAll_stiller h1)) deep r _ v hc (k3.step (.stiller k1 (freezeAll_stiller h1)))
  cases hs
  exact ⟨rfl,grow_of hD (of_below k2.below k2.drawn)⟩
theorem cmpB_calls (a b:T × T) (ha:a.1.size<4000000) (hb:b.1.size<4000000){w:World}{u v:Value}(hg:GlobR (fun _ _=>True) w) (hu:IRel (fun _ _=>True) w (encB a) u) (hv:IRel (fun _ _=>True) w (encB b) v) :
  Calls Tryz.prog 324 #[u,v] w fun e w'=>e=.returned (.int .i64 (a.1.cmp b.1))∧∃q os,w'=Go.Sort.grow (w.drewN q) os:=@cmpB_callsD ⟨True⟩ trivial a b ha hb w u v hg hu hv
end Go.VP
namespace Go.Proofs
open Go.Shelf
def Tryz.laysSortB_ren:Go.Shelf.Ren:=⟨fun | 6=>158 | 15=>127 | 14=>224 | 28=>190 | 29=>191 | 20=>272 | 21=>273 | 22=>274 | 23=>275 | 24=>276 | 25=>277 | 26=>278 | 27=>279 | 46=>315 | 47=>237 | 48=>238 | 49=>316 | 50=>317 | 57=>344 | n=>n,fun | 22=>46 | 24=>86 | 25=>197 | 3=>3 | 39=>173 | 0=>0 | 53=>222 | 55=>224 | 4=>4 | 46=>216 | 45=>215 | 50=>104 | 5=>5 | 9=>9 | 66=>260 | 70=>208 | 76=>309 | 77=>310 | n=>n,fun | n=>n⟩
theorem Tryz.laysSortB:Go.Proofs.SlLaysF0.n6 Tryz.prog Tryz.laysSortB_ren:={
 mixed:=by kernel_rfl
 f6:=⟨Tryz.f158.name,by decide,Tryz.func158.trans (congrArg some (by kernel_rfl))⟩
 f14:=⟨Tryz.f224.name,by decide,Tryz.func224.trans (congrArg some (by kernel_rfl))⟩
 f15:=Tryz.func127.trans (congrArg some (by kernel_rfl))
 f20:=⟨Tryz.f272.name,by decide,Tryz.func272.trans (congrArg some (by kernel_rfl))⟩
 f21:=⟨Tryz.f273.name,by decide,Tryz.func273.trans (congrArg some (by kernel_rfl))⟩
 f22:=⟨Tryz.f274.name,by decide,Tryz.func274.trans (congrArg some (by kernel_rfl))⟩
 f23:=⟨Tryz.f275.name,by decide,Tryz.func275.trans (congrArg some (by kernel_rfl))⟩
 f24:=⟨Tryz.f276.name,by decide,Tryz.func276.trans (congrArg some (by kernel_rfl))⟩
 f25:=⟨Tryz.f277.name,by decide,Tryz.func277.trans (congrArg some (by kernel_rfl))⟩
 f26:=⟨Tryz.f278.name,by decide,Tryz.func278.trans (congrArg some (by kernel_rfl))⟩
 f27:=⟨Tryz.f279.name,by decide,Tryz.func279.trans (congrArg some (by kernel_rfl))⟩
 f28:=Tryz.func190.trans (congrArg some (by kernel_rfl))
 f29:=Tryz.func191.trans (congrArg some (by kernel_rfl))
 f46:=⟨Tryz.f315.name,by decide,Tryz.func315.trans (congrArg some (by kernel_rfl))⟩
 f47:=Tryz.func237.trans (congrArg some (by kernel_rfl))
 f48:=Tryz.func238.trans (congrArg some (by kernel_rfl))
 f49:=⟨Tryz.f316.name,by decide,Tryz.func316.trans (congrArg some (by kernel_rfl))⟩
 f50:=⟨Tryz.f317.name,by decide,Tryz.func317.trans (congrArg some (by kernel_rfl))⟩
 f57:=⟨Tryz.f344.name,by decide,Tryz.func344.trans (congrArg some (by kernel_rfl))⟩
 t0:=Tryz.underlying0
 a0:=Tryz.isAgg0
 z0:=Tryz.sizeOf0
 v0:=Tryz.zeroValue0
 t3:=Tryz.underlying3
 a3:=Tryz.isAgg3
 z3:=Tryz.sizeOf3
 v3:=Tryz.zeroValue3
 t4:=Tryz.underlying4
 a4:=Tryz.isAgg4
 z4:=Tryz.sizeOf4
 v4:=Tryz.zeroValue4
 t5:=Tryz.underlying5
 a5:=Tryz.isAgg5
 z5:=Tryz.sizeOf5
 v5:=Tryz.zeroValue5
 t9:=Tryz.underlying9
 a9:=Tryz.isAgg9
 z9:=Tryz.sizeOf9
 v9:=Tryz.zeroValue9
 t22:=Tryz.underlying46
 a22:=Tryz.isAgg46
 z22:=Tryz.sizeOf46
 v22:=Tryz.zeroValue46
 t25:=Tryz.underlying197
 a25:=Tryz.isAgg197
 z25:=Tryz.sizeOf197
 v25:=Tryz.zeroValue197
 t39:=Tryz.underlying173
 a39:=Tryz.isAgg173
 z39:=Tryz.sizeOf173
 v39:=Tryz.zeroValue173
 t45:=Tryz.underlying215
 a45:=Tryz.isAgg215
 z45:=Tryz.sizeOf215
 v45:=Tryz.zeroValue215
 t46:=Tryz.underlying216
 a46:=Tryz.isAgg216
 z46:=Tryz.sizeOf216
 v46:=Tryz.zeroValue216
 t50:=Tryz.underlying104
 a50:=Tryz.isAgg104
 z50:=Tryz.sizeOf104
 v50:=Tryz.zeroValue104
 t53:=Tryz.underlying222
 a53:=Tryz.isAgg222
 z53:=Tryz.sizeOf222
 v53:=Tryz.zeroValue222
 t55:=Tryz.underlying224
 a55:=Tryz.isAgg224
 z55:=Tryz.sizeOf224
 v55:=Tryz.zeroValue224
 t66:=Tryz.underlying260
 a66:=Tryz.isAgg260
 z66:=Tryz.sizeOf260
 v66:=Tryz.zeroValue260
 t70:=Tryz.underlying208
 a70:=Tryz.isAgg208
 z70:=Tryz.sizeOf208
 v70:=Tryz.zeroValue208
 t76:=Tryz.underlying309
 a76:=Tryz.isAgg309
 z76:=Tryz.sizeOf309
 v76:=Tryz.zeroValue309
 t77:=Tryz.underlying310
 a77:=Tryz.isAgg310
 z77:=Tryz.sizeOf310
 v77:=Tryz.zeroValue310}
end Go.Proofs
namespace Go.VZ
open Go Go.V Go.Proofs Go.RowKit Go.Sort TL
variable {B:Nat}{A0:Nat→Nat→Prop}{σ:List (Option Nat)}{h:H}{w:World}
def bC (b:T × T):List AV:=(enc b.1).cells++(enc b.2).cells
theorem bC_eq (b:T × T):bC b=[.int .i64 b.1.kind,.str b.1.name,.int .i64 b.1.sort,terms b.1.kids,.int .i64 b.2.kind,.str b.2.name,.int .i64 b.2.sort,terms b.2.kids]:=by
 unfold bC;rw[enc_cells,enc_cells];rfl
theorem bC_len (b:T × T):(bC b).length=8:=by rw[bC_eq];rfl
theorem encB_bC (b:T × T):encB b=.agg (bC b):=by rw[bC_eq];rfl
theorem bC_one (b:T × T):∀c∈bC b,c.one=true:=by
 intro c hc
 rw[bC_eq] at hc
 simp only[List.mem_cons,List.not_mem_nil,or_false] at hc
 rcases hc with rfl | rfl | rfl | rfl | rfl | rfl | rfl | rfl<;>rfl
theorem cellsB_cell (a:T × T) (l:List (T × T)):cellsB (a::l)=bC a++cellsB l:=rfl
theorem cellsB_size:∀l:List (T × T),(cellsB l).length=8*l.length
 | []=>rfl
 | a::l=>by rw[cellsB_cell,List.length_append,bC_len,cellsB_size l,List.length_cons];omega
theorem cellsB_get {l:List (T × T)}{j c:Nat}(hj:j<l.length) (hc:c<8):(cellsB l)[8*j+c]?=(bC l[j])[c]?:=by
 induction l generalizing j with
 | nil=>simp at hj
 | cons a l ih=>
  have e8:=bC_len a
  rw[cellsB_cell]
  cases j with
  | zero=>rw[List.getElem?_append_left (by omega)];simp
  | succ j=>
   rw[List.getElem?_append_right (by omega),show 8*(j+1)+c-(bC a).length=8*j+c by omega,ih (by simpa using hj)]
   simp
theorem cellsB_mem {l:List (T × T)}{c:AV}(hc:c∈cellsB l):∃b,c∈bC b:=by
 simp only[cellsB,List.mem_flatMap] at hc
 obtain ⟨b,_,hc⟩:=hc
 exact ⟨b,hc⟩
structure ElB (A:Nat→Nat→Prop) (w:World) where
 b:T × T
 vs:List Value
 len:vs.length=8
 small:b.1.size<4000000∧b.2.size<4000000
 rel:∀(c:Nat) a v,(bC b)[c]?=some a→vs[c]?=some v→IRel A w a v
theorem elB_one {A:Nat→Nat→Prop}{w:World}(x:ElB A w):∀v∈x.vs,v.oneCell'=true:=by
 intro v hv
 obtain ⟨c,hc⟩:=List.mem_iff_getElem?.1 hv
 have hlt:=(List.getElem?_eq_some_iff.1 hc).1
 have hl:=x.len
 have e8:=bC_len x.b
 have ha:(bC x.b)[c]?=some (bC x.b)[c]:=List.getElem?_eq_getElem (by omega)
 exact irel_one (x.rel c _ v ha hc) (bC_one x.b _ (List.getElem_mem _))
theorem zero4 {A:Nat→Nat→Prop}{w:World}:∀(c:Nat) a v,(bC (.mk 0 ⟨#[]⟩ 0 [],.mk 0 ⟨#[]⟩ 0 []))[c]?=some a→([.int .i64 0,.string ⟨#[]⟩,.int .i64 0,.slice none 0 0,.int .i64 0,.string ⟨#[]⟩,.int .i64 0,.slice none 0 0]:List Value)[c]?=some v→IRel A w a v:=by
 intro c a v ha hv
 rw[bC_eq] at ha
 match c,ha,hv with
 | 0,ha,hv=>simp at ha hv;subst ha;subst hv;exact .int _ _
 | 1,ha,hv=>simp at ha hv;subst ha;subst hv;exact .str _
 | 2,ha,hv=>simp at ha hv;subst ha;subst hv;exact .int _ _
 | 3,ha,hv=>simp at ha hv;subst ha;subst hv;exact .islNil
 | 4,ha,hv=>simp at ha hv;subst ha;subst hv;exact .int _ _
 | 5,ha,hv=>simp at ha hv;subst ha;subst hv;exact .str _
 | 6,ha,hv=>simp at ha hv;subst ha;subst hv;exact .int _ _
 | 7,ha,hv=>simp at ha hv;subst ha;subst hv;exact .islNil
 | i+8,ha,hv=>simp at ha
instance {A:Nat→Nat→Prop}{w:World}:Inhabited (ElB A w):=⟨⟨(.mk 0 ⟨#[]⟩ 0 [],.mk 0 ⟨#[]⟩ 0 []),_,rfl,by decide,zero4⟩⟩
theorem elsB {A:Nat→Nat→Prop}{w:World}{vs:Array Value}:∀(l:List (T × T)) (off:Nat),(∀b∈l,b.1.size<4000000∧b.2.size<4000000)→(∀(k:Nat) c v,(cellsB l)[k]?=some c→vs[off+k]?=some v→IRel A w c v)→off+8*l.length≤vs.size →
  ∃es:List (ElB A w),es.map ElB.b=l∧∀(j c:Nat) (hj:j<es.length),c<8→vs[off+(8*j+c)]?=(es[j]).vs[c]?
 | [],off,_,_,_=>⟨[],rfl,fun j c hj=>by simp at hj⟩
 | a::l,off,hs,hr,hl=>by
  simp only[List.length_cons] at hl
  have e8:=bC_len a
  obtain ⟨es,h1,h2⟩:=elsB l (off+8) (fun t ht=>hs t (by simp[ht])) (fun k c v hc hv=>hr (8+k) c v (by
   rw[cellsB_cell,List.getElem?_append_right (by omega),show 8+k-(bC a).length=k by omega];exact hc) (by rw[←Nat.add_assoc];exact hv)) (by omega)
  have hg:∀c,c<8→((vs.toList.drop off).take 8)[c]?=vs[off+c]?:=fun c hc=>by
   rw[List.getElem?_take_of_lt hc,List.getElem?_drop,Array.getElem?_toList]
  refine ⟨⟨a,(vs.toList.drop off).take 8,by simp;omega,hs a (by simp),fun c x v hx hv=>?_⟩::es,by simp[h1],?_⟩
  ·have hc:c<8:=by have:=(List.getElem?_eq_some_iff.1 hx).1;omega
   rw[hg c hc] at hv
   refine hr c x v ?_ hv
   have:=cellsB_get (l:=a::l) (j:=0) (c:=c) (by simp) hc
   rw[Nat.mul_zero,Nat.zero_add] at this
   rw[this];exact hx
  ·intro j c hj hc
   cases j with
   | zero=>
    change vs[off+(8*0+c)]?=((vs.toList.drop off).take 8)[c]?
    rw[hg c hc,Nat.mul_zero,Nat.zero_add]
   | succ j=>
    have:=h2 j c (by simpa using hj) hc
    rw[show off+(8*(j+1)+c)=off+8+(8*j+c) by omega,this]
    rfl
theorem elB_rel {A:Nat→Nat→Prop}{w:World}(x:ElB A w):IRel A w (encB x.b) (.agg x.vs.toArray):=by
 rw[encB_bC]
 refine .agg (bC_one _) (by have:=x.len;have:=bC_len x.b;simp;omega) fun i a v ha hv=>x.rel i a v ha (by simpa using hv)
theorem cells_dataB {A:Nat→Nat→Prop}{l:List (T × T)}{k:Nat}{c:AV}{v:Value}(hc:(cellsB l)[k]?=some c) (r:Rel Tryz.prog A σ h w c v):IRel A w c v:=by
 obtain ⟨b,hm⟩:=cellsB_mem (List.mem_of_getElem? hc)
 rw[bC_eq] at hm
 simp only[List.mem_cons,List.not_mem_nil,or_false] at hm
 rcases hm with rfl | rfl | rfl | rfl | rfl | rfl | rfl | rfl<;>(cases r with | data hd=>exact hd)
theorem swoB {A:Nat→Nat→Prop}{w:World}:SWO (ltOf fun x y:ElB A w=>x.b.1.cmp y.b.1) where
 irrefl x:=by simp[ltOf,cmp_refl]
 trans x y z h1 h2:=by
  simp only[ltOf,decide_eq_true_eq] at *
  exact cmp_trans h1 h2
 ntrans x y z h1 h2:=by
  simp only[ltOf,decide_eq_false_iff_not] at *
  exact le_trans (x:=z.b.1) (y:=y.b.1) (z:=x.b.1) h2 h1
theorem srtB_perm' (l:List (T × T)):(srtB l).Perm l:=List.mergeSort_perm l _
theorem srtB_asc (l:List (T × T)):ascB (srtB l):=by
 have:=List.pairwise_mergeSort (le:=fun x y:T × T=>!decide (y.1.cmp x.1<0)) (fun a b c h1 h2=>by
  simp only[Bool.not_eq_true',decide_eq_false_iff_not] at *
  exact le_trans h1 h2) (fun a b=>by
  rw[Bool.or_eq_true]
  simp only[Bool.not_eq_true',decide_eq_false_iff_not]
  by_cases h:b.1.cmp a.1<0
  ·right
   intro h2
   have:=cmp_anti a.1 b.1
   omega
  ·exact .inl h) l
 exact this.imp fun h=>by simpa [le] using h
set_option maxHeartbeats 1000000 in
theorem sortB_calls [DFlag] (hr:HRel Tryz.prog B A0 σ h w){i0 b c:Nat}{l:List (T × T)}(hs:∀b∈l,b.1.size<4000000∧b.2.size<4000000) (hd:l.Pairwise fun a b=>a.1≠b.1) (hid:h[i0]?=some (.cells (cellsB l) .live)) (hb:σ[i0]?=some (some b)) (hl:l.length<4611686018427387904) :
  Calls Tryz.prog 158 #[.slice (some ⟨b,0,none⟩) l.length c,.func (.func 324) #[] #[]] w (fun e w'=>∃v,e=.returned v∧Go.V.Leaves Tryz.prog B A0 σ h w (.tuple []) (h.set i0 (.cells (cellsB (srtB l)) .live)) v w'):=by
 obtain ⟨b',vs,ty,e1,hB,hblk,hle,hone,hrel⟩:=hr.cells i0 _ .live hid (by simp)
 rw[hb] at e1;simp only[Option.some.injEq] at e1;subst e1
 have hlen:=cellsB_size l
 obtain ⟨es,hes,hget⟩:=elsB (A:=Alw Tryz.prog B A0 σ h) (w:=w) (vs:=vs) l 0 hs (fun k x v hx hv=>by
  rw[Nat.zero_add] at hv
  exact cells_dataB hx (hrel k x v hx hv)) (by omega)
 have hel:es.length=l.length:=by rw[←hes];simp
 have hlt:b<w.heap.size:=(Array.getElem?_eq_some_iff.1 hblk).1
 have hne:∀k o,Alw Tryz.prog B A0 σ h k o→k≠b:=fun k o ha e=>by
  subst e
  unfold Alw at ha
  rw[if_neg (by omega)] at ha
  exact ha.1 i0 _ hid hb
 have up:∀(m:Nat) (os:Array Obj) (dk:Array (ElB (Alw Tryz.prog B A0 σ h) w)) (k o:Nat) x,Alw Tryz.prog B A0 σ h k o→w.cell? ⟨k,o,none⟩=some x→(sortWorldK ElB.vs 8 w b 0 m dk os).cell? ⟨k,o,none⟩=some x:=fun m os dk k o x ha hc=>by
  have hk:=World.block_lt_of_cell? w _ hc
  unfold sortWorldK
  rw[cell?_grow _ _ _ (by unfold putRowK putRow mapBlock;simpa using hk),cell?_putRowK_other (h:=hne k o ha)]
  exact hc
 have hcmp:CmpLays Tryz.prog 324 #[] ElB.vs 8 (fun x y:ElB (Alw Tryz.prog B A0 σ h) w=>x.b.1.cmp y.b.1) b 0 es.toArray.size w:=by
  intro m os dk _ x y
  have go:∀ {a:AV}{v:Value},IRel (Alw Tryz.prog B A0 σ h) w a v→IRel (fun _ _=>True) (sortWorldK ElB.vs 8 w b 0 m dk os) a v:=fun r=>r.mono fun k o x ha hc=>⟨trivial,up m os dk k o x ha hc⟩
  exact Go.VP.cmpB_calls x.b y.b x.small.1 y.small.1 ⟨fun g a hg=>go (hr.gr.1 g a hg),fun g n hg=>by
   obtain ⟨hB',vs',ty',fr',e1,e2⟩:=hr.tab g n hg
   exact ⟨vs',ty',fr',sortWorldK_block e1 (by omega),e2⟩⟩ (go (elB_rel x)) (go (elB_rel y))
 have hH:HoldsK ElB.vs 8 w b 0 es.toArray:=by
  intro j hj
  have hj':j<8*l.length:=by simp[size_flatK] at hj;omega
  have hd:j/8<es.length:=by omega
  have hg:=hget (j/8) (j%8) hd (Nat.mod_lt _ (by omega))
  rw[show 0+(8*(j/8)+j%8)=j by omega] at hg
  have h8:=(es[j/8]).len
  have hmod:j%8<8:=Nat.mod_lt _ (by omega)
  refine ⟨?_,by simp[World.frozen?,hblk]⟩
  rw[get_flatK _ _ _ _ (by simpa [size_flatK] using hj)]
  simp only[World.cell?,hblk,Nat.zero_add,Option.isSome_none,Bool.false_eq_true,if_false,hg,id]
  rw[getElem!_pos es.toArray (j/8) (by simpa using hd)]
  simp only[List.getElem_toArray]
  rw[getElem!_pos _ _ (by omega),List.getElem?_eq_getElem (by omega)]
 have hsz:es.toArray.size<4611686018427387904:=by simp;omega
 have key:=AnyQ.slices_SortFunc (P:=Tryz.prog) Tryz.laysSortB 8 Tryz.isAgg86 Tryz.sizeOf86 (ElB.vs (A:=Alw Tryz.prog B A0 σ h) (w:=w)) ElB.len elB_one (fun x y=>x.b.1.cmp y.b.1) swoB 324 #[] b 0 c es.toArray w (enters_of Tryz.func324 (by kernel_rfl) rfl) hcmp hH hlt hsz
 change Calls Tryz.prog 158 _ _ _ at key
 rw[show es.toArray.size=l.length by simp[hel]] at key
 refine key.mono ?_
 rintro e w' ⟨rfl,d',n,os,hp,hso,rfl⟩
 have hds:d'.size=l.length:=by have:=hp.1;simpa [hel] using this
 have hT:d'.toList.map ElB.b=srtB l:=by
  have p1:(d'.toList.map ElB.b).Perm l:=by
   have:=hp.2.2
   rw[show l.length=d'.size from hds.symm,Array.extract_size,hds,show l.length=es.toArray.size by simp[hel],Array.extract_size] at this
   rw[←hes]
   exact this.map _
  refine asc_eq (p1.trans (srtB_perm' l).symm) ?_ (srtB_asc l) ((p1.pairwise_iff fun {a b}(k:a.1≠b.1)=>fun e=>k e.symm).2 hd)
  unfold ascB
  rw[List.pairwise_map,List.pairwise_iff_getElem]
  intro i j hi hj hij
  have:=hso i j (Nat.zero_le _) hij (by simpa [hds] using hj)
  simp only[ltOf,decide_eq_false_iff_not] at this
  rw[getElem!_pos d' i (by simpa using hi),getElem!_pos d' j (by simpa using hj)] at this
  simpa [le] using this
 obtain ⟨vs',evs⟩:∃vs',vs'=putCells id 0 (flatK ElB.vs 8 d') vs:=⟨_,rfl⟩
 have hrow:putRowK ElB.vs 8 w b 0 d'=w.setRow b vs':=by
  unfold putRowK putRow
  rw[mapBlock_row _ hblk,evs]
 have hw:sortWorldK ElB.vs 8 w b 0 n d' os=Go.Sort.grow ((w.setRow b vs').drewN n) os:=by
  rw[←hrow];rfl
 have hvs:vs'.size=vs.size:=by rw[evs];simp[putCells]
 have hsl:(srtB l).length=l.length:=(srtB_perm' l).length_eq
 have hl2:(cellsB (srtB l)).length=8*l.length:=by rw[cellsB_size,hsl]
 have hrel':∀(k:Nat) x v,(cellsB (srtB l))[k]?=some x→vs'[k]?=some v→Rel Tryz.prog (Alw Tryz.prog B A0 σ h) σ h w x v:=by
  intro k x v hx hv
  have hk:k<8*l.length:=by rw[←hl2];exact (List.getElem?_eq_some_iff.1 hx).1
  have hd:k/8<d'.size:=by omega
  have hmod:k%8<8:=Nat.mod_lt _ (by omega)
  have hj:k/8<(srtB l).length:=by rw[hsl];omega
  have e1:=cellsB_get hj hmod
  rw[show 8*(k/8)+k%8=k by omega,hx] at e1
  have et:(srtB l)[k/8]=(d'[k/8]).b:=by simp[←hT]
  rw[et] at e1
  have ev:v=(d'[k/8]).vs[k%8]'(by rw[(d'[k/8]).len];exact hmod):=by
   rw[evs] at hv
   simp only[putCells,Array.getElem?_mapIdx,Nat.zero_le,true_and,Nat.zero_add,size_flatK,Nat.sub_zero,id] at hv
   rw[Array.getElem?_eq_getElem (by omega),Option.map_some,if_pos (by omega),get_flatK _ _ _ _ (by omega),getElem!_pos d' _ hd,getElem!_pos _ _ (by rw[(d'[k/8]).len];exact hmod)] at hv
   simpa using hv.symm
  exact .data ((d'[k/8]).rel _ _ _ e1.symm (by rw[ev];exact List.getElem?_eq_getElem _))
 have hone':∀x∈cellsB (srtB l),x.one=true:=by
  intro x hx
  obtain ⟨b,hx⟩:=cellsB_mem hx
  exact bC_one b x hx
 have k1:=HRel.write hr hid hb hblk hvs (cs':=cellsB (srtB l)) (by omega) hone' hrel'
 have k2:=Step.write (cs':=cellsB (srtB l)) hr hid hb hblk hvs
 have g:Grows (w.setRow b vs') (sortWorldK ElB.vs 8 w b 0 n d' os):=by
  rw[hw]
  refine ⟨rfl,rfl,rfl,by simp[Go.Sort.grow,World.drewN],fun k hk=>?_,fun _=>by simp[Go.Sort.grow,World.drewN]⟩
  simp only[Go.Sort.grow,World.drewN]
  exact Array.getElem?_append_left hk
 exact ⟨_,rfl,σ,k1.grows g,k2.trans (.grows k1 g),.data (.tuple rfl (fun i a v ha=>by simp at ha))⟩
theorem primSortB_ok [DFlag]:PrimOk Tryz.prog 158 primSortB:=by
 intro args h r h' hp B A0 σ w vs hr hl ha
 unfold primSortB at hp
 split at hp<;>first | (cases hp;done) | skip
 ·rename_i x
  simp only[Option.some.injEq,Prod.mk.injEq] at hp
  obtain ⟨rfl,rfl⟩:=hp
  obtain ⟨l⟩:=vs
  match l,hl,ha with
  | [u,v],_,ha=>
   obtain ⟨p,cap,rfl⟩:=isl_nil (ha 0 _ u rfl rfl)
   have hv:=func_rel (ha 1 _ v rfl rfl)
   subst hv
   refine (show Calls Tryz.prog 158 #[.slice p 0 cap,.func (.func 324) #[] #[]] w _ from AnyF.slices_SortFunc_none (P:=Tryz.prog) {Tryz.laysSortB with} p cap _ w).mono ?_
   rintro e w' ⟨rfl,rfl⟩
   exact ⟨_,rfl,σ,hr,.refl _ _ _,.data (.tuple rfl (fun i a v ha=>by simp at ha))⟩
 ·rename_i i0 n
  split at hp<;>first | (cases hp;done) | skip
  rename_i e
  simp only[Option.some.injEq,Prod.mk.injEq] at hp
  obtain ⟨rfl,rfl⟩:=hp
  obtain ⟨c1,c4,c2,c5,c3⟩:=e.choose_spec
  generalize e.choose=m at c1 c2 c3 c4 c5 ⊢
  subst c1
  obtain ⟨l⟩:=vs
  match l,hl,ha with
  | [u,v],_,ha=>
   have hv:=func_rel (ha 1 _ v rfl rfl)
   subst hv
   have hu:=ha 0 _ u rfl rfl
   cases hu with
   | data hd=>cases hd
   | msl hs hk h0 hc hm hcap hw=>
    exact sortB_calls hr c2 c5 c3 hs (by omega)
end Go.VZ

/- The contract of strconv.Itoa below 1000, for the value machine. -/
namespace Go.Proofs
open Go.Shelf
def Tryz.laysM171_ren:Go.Shelf.Ren:=⟨fun | 171=>223 | 243=>271 | 246=>314 | 283=>340 | 284=>341 | 285=>342 | 286=>343 | 129=>191 | 317=>363 | 318=>364 | 319=>365 | 320=>366 | 337=>385 | 338=>386 | n=>n,fun | 3=>3 | 9=>9 | 2=>2 | 4=>4 | 171=>345 | 0=>0 | 53=>224 | 37=>253 | 5=>5 | 173=>347 | 212=>368 | 51=>222 | 20=>20 | 213=>369 | 46=>173 | 232=>404 | 233=>405 | n=>n,fun | 17=>2 | 18=>3 | 19=>4 | n=>n⟩
theorem Tryz.laysM171:Go.Proofs.LaysM.n171 Tryz.prog Tryz.laysM171_ren:={
 mixed:=by kernel_rfl
 f129:=Tryz.func191.trans (congrArg some (by kernel_rfl))
 f171:=Tryz.func223.trans (congrArg some (by kernel_rfl))
 f243:=Tryz.func271.trans (congrArg some (by kernel_rfl))
 f246:=Tryz.func314.trans (congrArg some (by kernel_rfl))
 f283:=Tryz.func340.trans (congrArg some (by kernel_rfl))
 f284:=Tryz.func341.trans (congrArg some (by kernel_rfl))
 f285:=Tryz.func342.trans (congrArg some (by kernel_rfl))
 f286:=Tryz.func343.trans (congrArg some (by kernel_rfl))
 f317:=Tryz.func363.trans (congrArg some (by kernel_rfl))
 f318:=Tryz.func364.trans (congrArg some (by kernel_rfl))
 f319:=Tryz.func365.trans (congrArg some (by kernel_rfl))
 f320:=Tryz.func366.trans (congrArg some (by kernel_rfl))
 f337:=Tryz.func385.trans (congrArg some (by kernel_rfl))
 f338:=Tryz.func386.trans (congrArg some (by kernel_rfl))
 t0:=Tryz.underlying0
 a0:=Tryz.isAgg0
 z0:=Tryz.sizeOf0
 v0:=Tryz.zeroValue0
 t2:=Tryz.underlying2
 a2:=Tryz.isAgg2
 z2:=Tryz.sizeOf2
 v2:=Tryz.zeroValue2
 t3:=Tryz.underlying3
 a3:=Tryz.isAgg3
 z3:=Tryz.sizeOf3
 v3:=Tryz.zeroValue3
 t4:=Tryz.underlying4
 a4:=Tryz.isAgg4
 z4:=Tryz.sizeOf4
 v4:=Tryz.zeroValue4
 t5:=Tryz.underlying5
 a5:=Tryz.isAgg5
 z5:=Tryz.sizeOf5
 v5:=Tryz.zeroValue5
 t9:=Tryz.underlying9
 a9:=Tryz.isAgg9
 z9:=Tryz.sizeOf9
 v9:=Tryz.zeroValue9
 t20:=Tryz.underlying20
 a20:=Tryz.isAgg20
 z20:=Tryz.sizeOf20
 v20:=Tryz.zeroValue20
 t37:=Tryz.underlying253
 a37:=Tryz.isAgg253
 z37:=Tryz.sizeOf253
 v37:=Tryz.zeroValue253
 t46:=Tryz.underlying173
 a46:=Tryz.isAgg173
 z46:=Tryz.sizeOf173
 v46:=Tryz.zeroValue173
 t51:=Tryz.underlying222
 a51:=Tryz.isAgg222
 z51:=Tryz.sizeOf222
 v51:=Tryz.zeroValue222
 t53:=Tryz.underlying224
 a53:=Tryz.isAgg224
 z53:=Tryz.sizeOf224
 v53:=Tryz.zeroValue224
 t171:=Tryz.underlying345
 a171:=Tryz.isAgg345
 z171:=Tryz.sizeOf345
 v171:=Tryz.zeroValue345
 t173:=Tryz.underlying347
 a173:=Tryz.isAgg347
 z173:=Tryz.sizeOf347
 v173:=Tryz.zeroValue347
 t212:=Tryz.underlying368
 a212:=Tryz.isAgg368
 z212:=Tryz.sizeOf368
 v212:=Tryz.zeroValue368
 t213:=Tryz.underlying369
 a213:=Tryz.isAgg369
 z213:=Tryz.sizeOf369
 t232:=Tryz.underlying404
 a232:=Tryz.isAgg404
 z232:=Tryz.sizeOf404
 v232:=Tryz.zeroValue404
 t233:=Tryz.underlying405
 a233:=Tryz.isAgg405
 z233:=Tryz.sizeOf405
 v233:=Tryz.zeroValue405
 g17:=by kernel_rfl
 g18:=by kernel_rfl
 g19:=by kernel_rfl
 i0:=by kernel_rfl
 i2:=by kernel_rfl
 i3:=by kernel_rfl
 i4:=by kernel_rfl
 i5:=by kernel_rfl
 i9:=by kernel_rfl
 i20:=by kernel_rfl
 i37:=by kernel_rfl
 i46:=by kernel_rfl
 i51:=by kernel_rfl
 i53:=by kernel_rfl
 i171:=by kernel_rfl
 i173:=by kernel_rfl
 i212:=by kernel_rfl
 i232:=by kernel_rfl
 i233:=by kernel_rfl
 m17:=by kernel_rfl
 m18:=by kernel_rfl
 m19:=by kernel_rfl}
open Go.RowKit Go.Sort Go.Lib in
theorem Tryz.strconv_Itoa (n:Int) (h0:-9223372036854775808≤n) (h1:n≤9223372036854775807) (w:World) (htab:Lib.TabIs Tryz.prog w "internal/strconv.uint64pow10" .u64 Lib.pow10Tab) :
  Calls Tryz.prog 223 #[.int .i64 n] w fun e w'=>e=.returned (.string ⟨(Lib.itoa n).toArray⟩)∧∃k os,w'=grow (w.drewN k) os:=Any.strconv_Itoa Tryz.laysM171 n h0 h1 w htab
end Go.Proofs
namespace Go.VZ
open Go Go.V Go.Proofs Go.RowKit TL
theorem tab_of {A:Nat→Nat→Prop}{w:World}(hg:GlobR A w):Lib.TabIs Tryz.prog w "internal/strconv.uint64pow10" .u64 Lib.pow10Tab:=by
 obtain ⟨vs,ty,fr,hc,hn⟩:=hg.2 2 20 rfl
 have key:∀j,j<20→vs[j]?=some (.int .u64 ((10 ^ j:Nat):Int)):=by
  intro j hj
  have r:=hg.1 2 (.agg ((List.range 20).map fun i=>.int .u64 ((10 ^ i:Nat):Int))) rfl
  cases r with
  | iptr f h1 h2 h3=>
   have hcj:((AV.agg ((List.range 20).map fun i=>.int .u64 ((10 ^ i:Nat):Int))).cells)[j]?=some (.int .u64 ((10 ^ j:Nat):Int)):=by
    simp only[AV.cells,List.getElem?_map,List.getElem?_range hj,Option.map_some]
   obtain ⟨_,k2⟩:=h2 j _ hcj
   have k3:=h3 j _ hcj
   generalize f j=u at k2 k3
   cases k3
   simpa [World.cell?,hc] using k2
 unfold Lib.TabIs World.var?
 rw[show Tryz.prog.globalNamed "internal/strconv.uint64pow10" = some 2 from by kernel_rfl]
 simp only[Option.bind_some,hc,Option.some.injEq]
 apply Array.ext_getElem?
 intro j
 by_cases hj:j<20
 ·rw[key j hj]
  have:Lib.pow10Tab[j]?=some ((10 ^ j:Nat):Int):=by
   have h20:∀j,j<20→Lib.pow10Tab[j]?=some ((10 ^ j:Nat):Int):=by decide +kernel
   exact h20 j hj
  simp[this]
 ·rw[Array.getElem?_eq_none (by omega),Array.getElem?_eq_none]
  have:Lib.pow10Tab.length=20:=by decide +kernel
  simp;omega
theorem itoa_dec3:((List.range 1000).all fun m=>decide (Lib.itoa (m:Int)=dec3 m))=true:=by kernel_rfl
theorem itoa_dec3' {m:Nat}(h:m<1000):Lib.itoa (m:Int)=dec3 m:=of_decide_eq_true (List.all_eq_true.1 itoa_dec3 m (List.mem_range.2 h))
theorem primItoa_ok [DFlag]:PrimOk Tryz.prog 223 primItoa:=by
 intro args h r h' hp B A0 σ w vs hr hl ha
 unfold primItoa at hp
 split at hp<;>first | (cases hp;done) | skip
 rename_i n
 split at hp<;>first | (cases hp;done) | skip
 rename_i hn
 simp only[Option.some.injEq,Prod.mk.injEq] at hp
 obtain ⟨rfl,rfl⟩:=hp
 obtain ⟨m,rfl⟩:=Int.eq_ofNat_of_zero_le hn.1
 obtain ⟨l⟩:=vs
 match l,hl,ha with
 | [u],_,ha=>
  have hu:=ha 0 _ u rfl rfl
  have:u=.int .i64 m:=by
   cases hu with
   | data hd=>cases hd;rfl
  subst this
  refine (Tryz.strconv_Itoa (m:Int) (by omega) (by omega) w (tab_of hr.gr)).mono ?_
  rintro e w' ⟨rfl,k,os,rfl⟩
  have g:Grows w (Go.Sort.grow (w.drewN k) os):=by
   refine ⟨rfl,rfl,rfl,by simp[Go.Sort.grow,World.drewN],fun k hk=>?_,fun _=>by simp[Go.Sort.grow,World.drewN]⟩
   simp only[Go.Sort.grow,World.drewN]
   exact Array.getElem?_append_left hk
  refine ⟨_,rfl,σ,hr.grows g,.grows hr g,?_⟩
  rw[itoa_dec3' (by omega),Int.toNat_natCast]
  exact .data (.str _)
end Go.VZ
