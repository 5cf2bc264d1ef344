/- Secret and Agree, both ways; the laws. -/
import Derived.Test.YtdoegkegjaadeaaGreatDoorSi
import Derived.Test.YtdoegkegjaadeaaGreatDoorSd
import Derived.Test.YtdoegkegjaadeaaGreatDoorSxzc
import Derived.Below
namespace Go.VZ
open Go Go.V Go.Proofs TL
def favS (t:T):List AV:=[.int .i64 1,.int .i64 0,.isl [enc t] .full]
def attF (t:T):Fa:=⟨1,0,[t]⟩
theorem bld35s (t:T):buildV C.P 35 [(0,.int .i64 1),(2,.isl [enc t] .full)]=some (.agg (favS t)):=by
 have e:∀x:AV,buildV C.P 35 [(0,.int .i64 1),(2,.isl [x] .full)]=some (.agg [.int .i64 1,.int .i64 0,.isl [x] .full]):=fun x=>by kernel_rfl
 exact e _
theorem st35s (t:T) (h:H):storeV C.P (h++[.cells z35c .live]) 35 (.ptr h.length 0) (.agg (favS t))=some (h++[.cells (favS t) .live]):=by
 simp[storeV,s35,z35c,favS]
theorem ld35s {h:H}{i:Nat}{t:T}(hi:h[i]?=some (.cells (favS t) .live)):loadV C.P h 35 (.ptr i 0)=some (.agg (favS t)):=by simp[loadV,hi,cellsAt,a35,s35,favS]
theorem strip_fav {g:FuncId}(hb:hasBody C.P g=true) (hm:C.mode g=.strip){l:List Cl}{t:T}{v:AV}(hc:CallP C g [clsV l,encFa (attF t)]=some v) (h:H):callV C h (.func g []) (some [clsV l,.agg (favS t)])=some (v,h):=
 callV_strip hb hm (args':=[clsV l,encFa (attF t)]) (by simp only[favS];rw[enc_eq];simp only[attF,encFa,faC,terms,List.map_cons,List.map_nil];rw[enc_eq];rfl) rfl (by simp) hc
def secE (o:Fa→Cl→Bool) (l:List Cl) (f:Fa):Int × Int:=openE (rightE l f) (ixF (o f) l 0) 0
theorem att_small {t:T}(hz:sizes [t]≤60):smallT (attF t).terms:=⟨by simp[attF],fun x hx=>by
 simp only[attF,List.mem_singleton] at hx
 subst hx
 have:=size_mem (l:=[x]) (t:=x) (by simp)
 omega⟩
set_option maxRecDepth 8000 in
set_option maxHeartbeats 2000000 in
theorem secret10 (l:List Cl) (t:T) (hl:l.length≤10000) (h1:∀c∈l,fewCl c 60=true) (hz:sizes [t]≤60):CallP C 10 [clsV l,enc t]=some (.tuple [.int .i64 (secE openB l (attF t)).1,.int .i64 (secE openB l (attF t)).2]):=by
 refine CallP_W rfl Tryz.func10 rfl (by kernel_rfl) (by simp[Tryz.f10]) fun R hR=>?_
 have fin:∀(st:PT) (h:H) (a e:Int),st.get 4=.int .i64 a→st.get 5=.int .i64 e→secE openB l (attF t)=(a,e)→R .ret st h:=fun st h a e h1 h2 he=>hR _ _ _ (.inr rfl) ⟨.tuple [.int .i64 a,.int .i64 e],by simp[resultV,resV,resVs,Tryz.f10,h1,h2],by rw[he];exact snap_dat rfl rfl⟩
 have hse:secE openB l (attF t)=openE (rightE l (attF t)) (ixF (openB (attF t)) l 0) 0:=rfl
 have bx:∀h,boxV C.P h 25 (enc t)=some (.ptr h.length 0,h++[.cells (enc t).cells .live]):=fun h=>by rw[box25,enc_cells]
 obtain ⟨h0,eh0⟩:∃g:H,g=[.cells (enc t).cells .live]:=⟨_,rfl⟩
 have m0:h0[0]?=some (.cells (enc t).cells .live):=by rw[eh0];rfl
 have hl0:h0.length=1:=by rw[eh0];rfl
 have l0:=ldn25 t m0
 have b23:=fun h=>build23_1 h t
 have b35:=bld35s t
 have e2:=st35s t h0
 obtain ⟨h2,eh2⟩:∃g,g=h0++[.cells (favS t) .live]:=⟨_,rfl⟩
 have m1:h2[1]?=some (.cells (favS t) .live):=by rw[eh2,←hl0];simp
 have l1:=ld35s m1
 rw[←eh2,hl0] at e2
 have c30:=strip_fav (g:=30) (by kernel_rfl) rfl (right30 l (attF t) hl (okF_of h1) (att_small hz))
 simp[go_sem,bx]
 rw[←eh0]
 simp[go_sem,l0,b23,b35,zv35,cells_agg,hl0,e2,l1,c30,show notTuple (AV.isl [enc t] .full)=true from rfl,show notTuple (AV.int .i64 1)=true from rfl]
 by_cases q:rightE l (attF t)=0
 ·have c31:=strip_fav (g:=31) (by kernel_rfl) rfl (first31 l (attF t) (by omega) (pr_of h1 q hz))
  rw[q] at hse
  generalize openE 0 (ixF (openB (attF t)) l 0) 0=p at c31 hse
  simp[go_sem,q,hl0,l1,c31]
  exact fin _ _ p.1 p.2 (by simp[go_sem]) (by simp[go_sem]) hse
 ·simp[go_sem,q]
  exact fin _ _ 0 (rightE l (attF t)) (by simp[go_sem]) (by simp[go_sem]) (by rw[hse,openE,if_neg q])
set_option maxRecDepth 8000 in
set_option maxHeartbeats 2000000 in
theorem secret12 (l:List Cl) (t:T) (hl:l.length≤10000) (h1:∀c∈l,fewCl c 60=true) (hz:sizes [t]≤60):CallP C 12 [clsV l,enc t]=some (.tuple [.int .i64 (secE openR l (attF t)).1,.int .i64 (secE openR l (attF t)).2]):=by
 refine CallP_W rfl Tryz.func12 rfl (by kernel_rfl) (by simp[Tryz.f12]) fun R hR=>?_
 have fin:∀(st:PT) (h:H) (a e:Int),st.get 4=.int .i64 a→st.get 5=.int .i64 e→secE openR l (attF t)=(a,e)→R .ret st h:=fun st h a e h1 h2 he=>hR _ _ _ (.inr rfl) ⟨.tuple [.int .i64 a,.int .i64 e],by simp[resultV,resV,resVs,Tryz.f12,h1,h2],by rw[he];exact snap_dat rfl rfl⟩
 have hse:secE openR l (attF t)=openE (rightE l (attF t)) (ixF (openR (attF t)) l 0) 0:=rfl
 have bx:∀h,boxV C.P h 25 (enc t)=some (.ptr h.length 0,h++[.cells (enc t).cells .live]):=fun h=>by rw[box25,enc_cells]
 obtain ⟨h0,eh0⟩:∃g:H,g=[.cells (enc t).cells .live]:=⟨_,rfl⟩
 have m0:h0[0]?=some (.cells (enc t).cells .live):=by rw[eh0];rfl
 have hl0:h0.length=1:=by rw[eh0];rfl
 have l0:=ldn25 t m0
 have b23:=fun h=>build23_1 h t
 have b35:=bld35s t
 have e2:=st35s t h0
 obtain ⟨h2,eh2⟩:∃g,g=h0++[.cells (favS t) .live]:=⟨_,rfl⟩
 have m1:h2[1]?=some (.cells (favS t) .live):=by rw[eh2,←hl0];simp
 have l1:=ld35s m1
 rw[←eh2,hl0] at e2
 have c32:=strip_fav (g:=32) (by kernel_rfl) rfl (list32 l (attF t) hl (okF_of h1) (att_small hz))
 rw[list_right] at c32
 simp[go_sem,bx]
 rw[←eh0]
 simp[go_sem,l0,b23,b35,zv35,cells_agg,hl0,e2,l1,c32,show notTuple (AV.isl [enc t] .full)=true from rfl,show notTuple (AV.int .i64 1)=true from rfl]
 by_cases q:rightE l (attF t)=0
 ·have c33:=strip_fav (g:=33) (by kernel_rfl) rfl (unsettled33 l (attF t) (by omega) (pr_of h1 q hz))
  rw[q] at hse
  generalize ixF (openR (attF t)) l 0=i at c33 hse
  by_cases q2:i<0
  ·have q2':¬0≤i:=by omega
   simp[go_sem,q,hl0,l1,c33,q2']
   exact hR _ _ _ (.inr rfl) ⟨.tuple [.int .i64 0,.int .i64 15],by simp[resultV,resV,resVs,Tryz.f12,go_sem],by rw[hse,openE,if_pos rfl,if_pos q2];exact snap_dat rfl rfl⟩
  ·have q2':0≤i:=by omega
   simp[go_sem,q,hl0,l1,c33,q2']
   exact fin _ _ i 0 (by simp[go_sem]) (by simp[go_sem]) (by rw[hse,openE,if_pos rfl,if_neg q2])
 ·simp[go_sem,q]
  exact fin _ _ 0 (rightE l (attF t)) (by simp[go_sem]) (by simp[go_sem]) (by rw[hse,openE,if_neg q])
theorem sec_same {l:List Cl}{f:Fa}(h1:∀c∈l,fewCl c 60=true) (hz:sizes f.terms≤60):secE openR l f=secE openB l f:=by
 unfold secE
 by_cases q:rightE l f=0
 ·rw[ixF_congr l 0 fun c hc=>open_same (pr_of h1 q hz c hc)]
 ·rw[openE,openE,if_neg q,if_neg q]
theorem few_cls {l:List Cl}(h:fewCs l 12 60=true):l.length≤12∧∀c∈l,fewCl c 60=true:=by
 simp only[fewCs,Bool.and_eq_true,decide_eq_true_eq,List.all_eq_true] at h
 exact ⟨by omega,h.2⟩
theorem key11 {g:FuncId}(hb:hasBody C.P g=true) (hm:C.mode g=.strip) (l:List Cl) (hl:l.length≤10000){a v:AV}(hd:dats [a]=some [a]) (hsh:short a=true) (hc:CallP C g [clsV l,a]=some v) (hs:scal v=true){h0:H}{o:VObj}(h00:h0[0]?=some o) :
  ∃(u:AV) (h1:H),callV C h0 (.func 11 []) (some [clsV l])=some (u,h1)∧h1[0]?=some o∧callV C h1 (.func g []) (some [u,a])=some (v,h1):=by
 cases l with
 | nil=>
  exact ⟨_,_,call11n h0,h00,callV_strip hb hm (args':=[clsV [],a]) (dats_append (a:=[.isl [] .full]) rfl hd) (by rw[List.all_cons,List.all_cons,hsh];rfl) (by simp) hc⟩
 | cons c l=>
  refine ⟨_,_,call11c c l h0 hl,?_,call_rowC hb hm (by simp) hl hd hsh hc hs⟩
  rw[List.getElem?_append_left (List.getElem?_eq_some_iff.1 h00).1];exact h00
set_option maxRecDepth 8000 in
set_option maxHeartbeats 4000000 in
theorem law3 (l:List Cl) (t:T):CallP C 3 [clsV l,enc t]=some (.bool true):=by
 refine CallP_W rfl Tryz.func3 rfl (by kernel_rfl) (by simp[Tryz.f3]) fun R hR=>?_
 have fin:∀(st:PT) (h:H),st.get 4=.bool true→R .ret st h:=fun st h h6=>hR _ _ _ (.inr rfl) ⟨.bool true,by simp[resultV,resV,Tryz.f3,h6],snap_dat rfl rfl⟩
 have c8:=call8 l
 have bx:∀h,boxV C.P h 25 (enc t)=some (.ptr h.length 0,h++[.cells (enc t).cells .live]):=fun h=>by rw[box25,enc_cells]
 obtain ⟨h0,eh0⟩:∃g:H,g=[.cells (enc t).cells .live]:=⟨_,rfl⟩
 have m0:h0[0]?=some (.cells (enc t).cells .live):=by rw[eh0];rfl
 have hl0:h0.length=1:=by rw[eh0];rfl
 have l0:=ldn25 t m0
 have b23:=fun h=>build23_1 h t
 have c9:=call9' [t] .full 1 60 (by decide) (by decide)
 simp only[List.map_cons,List.map_nil] at c9
 by_cases q1:fewCs l 12 60=true
 rotate_left
 ·have q1':fewCs l 12 60=false:=by simpa using q1
  rw[q1'] at c8
  simp[go_sem,initS,bx,call7,c8]
  exact fin _ _ (by simp[go_sem])
 by_cases q2:fewT [t] 1 60=true
 rotate_left
 ·have q2':fewT [t] 1 60=false:=by simpa using q2
  rw[q1] at c8
  rw[q2'] at c9
  simp[go_sem,bx,call7,c8]
  rw[←eh0]
  simp[go_sem,l0,b23,c9,call7]
  exact fin _ _ (by simp[go_sem])
 rw[q1] at c8
 rw[q2] at c9
 simp[go_sem,bx,call7,c8]
 rw[←eh0]
 obtain ⟨hl,h1⟩:=few_cls q1
 have hz:=few1_size q2
 obtain ⟨u,g,c11,m1,c10⟩:=key11 (g:=10) (by kernel_rfl) rfl l (by omega) (a:=enc t) (dat_enc t) (short_enc t) (secret10 l t (by omega) h1 hz) rfl m0
 have l1:=ldn25 t m1
 have c12:∀h,callV C h (.func 12 []) (some [clsV l,enc t])=some (.tuple [.int .i64 (secE openR l (attF t)).1,.int .i64 (secE openR l (attF t)).2],h):=fun h=>callV_strip (by kernel_rfl) rfl (args':=[clsV l,enc t]) (by rw[enc_eq];rfl) (by simp[short_enc];rfl) (by simp) (secret12 l t (by omega) h1 hz)
 rw[sec_same h1 hz] at c12
 generalize secE openB l (attF t)=p at c10 c12
 simp[go_sem,l0,b23,c9,c11,l1,c10,c12]
 exact fin _ _ (by simp[go_sem])
end Go.VZ

/- What the joins of QuerySecret and QueryAgree share. -/
namespace Go.VZ
open Go Go.V Go.Proofs Go.RowKit TL
theorem calls_of {f:FuncId}{args:List AV}{vs:Array Value}{w:World}(hb:hasBody C.P f=true) (hl:vs.size=args.length)
  (hr:∀(i:Nat) a v,args[i]?=some a→vs[i]?=some v→IRel (fun _ _=>True) w a v) (hg:GlobR (fun _ _=>True) w) (hc:CallP C f args=some (.bool true)) :
  Calls Tryz.prog f vs w (fun e w'=>e=.returned (.bool true)∧Below w.heap.size w w'):=by
 unfold CallP at hc
 split at hc<;>first | (cases hc;done) | skip
 rename_i r h1 hx
 refine (ok.fn f args [] r h1 hb hx w.heap.size (fun _ _=>True) [] w vs (.start hg) hl (fun i a v ha hv=>.data (irel_start (hr i a v ha hv)))).mono ?_
 rintro e w' ⟨v,rfl,σ',k1,k2,k3⟩
 have hs:=snap_sound (k1.stiller (freezeAll_stiller h1)) deep r (.bool true) v hc (k3.step (.stiller k1 (freezeAll_stiller h1)))
 cases hs
 exact ⟨rfl,k2.below⟩
theorem okWide_agg {P:Program}{w:World}{r:Reach}{b0:Nat}{t:TypeId}{fs:Array Field}{v:Value}(ht:P.underlying t=some (.struct fs)) (h:Value.okWide P w r b0 t v):∃cs,v=.agg cs∧cs.size=P.cellsOf t:=by
 unfold Value.okWide at h
 rw[ht] at h
 obtain ⟨cs,h1,h2,_⟩:=h
 exact ⟨cs,h1,h2⟩
section
variable {H:Type}{ec:TypeId × Value→H}{w:World}
theorem dec_termV {n:Nat}{cs:Array Value}{x:DataW H × List MemPlace}(hl:cs.toList.length=4) (h:TR ec w n 25 cs.toList=some x):∃t:T,IRel (fun _ _=>True) w (enc t) (.agg cs):=by
 obtain ⟨t,_,r⟩:=dec_term n cs.toList x hl h
 refine ⟨t,?_⟩
 obtain ⟨k1,_,k3⟩:=enc_ok t
 have e:enc t=.agg (enc t).cells:=by rw[enc_cells];exact enc_eq t
 rw[e]
 exact .agg k3 (by simpa [k1] using hl) fun i a v ha hv=>r i a v ha (by simpa using hv)
end
end Go.VZ
