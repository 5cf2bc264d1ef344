/- Secret and Agree, both ways; the laws. -/
import Derived.Test.YtdoegkegjaadeaaGreatDoorSi
import Derived.Test.YtdoegkegjaadeaaGreatDoorSd
import Derived.Test.YtdoegkegjaadeaaGreatDoorSxzc
import Derived.Below
namespace Go.VZ
open Go Go.V Go.Proofs TL
def agE (o:Fa→Cl→Bool) (l:List Cl) (f:Fa):Int × Int:=if rightE l f=0 then (if f.kind=3 then openE 0 (ixF (o f) l 0) 0 else (0,1)) else (0,rightE l f)
theorem one_small {f:Fa}(hf:fewCl ⟨[],f⟩ 60=true):smallT f.terms:=few_fact hf (by decide) (by decide) f (by simp[factsOf])
set_option maxRecDepth 8000 in
set_option maxHeartbeats 2000000 in
theorem agree14 (l:List Cl) (f:Fa) (hl:l.length≤10000) (h1:∀c∈l,fewCl c 60=true) (hf:fewCl ⟨[],f⟩ 60=true):CallP C 14 [clsV l,encFa f]=some (.tuple [.int .i64 (agE openB l f).1,.int .i64 (agE openB l f).2]):=by
 refine CallP_W rfl Tryz.func14 rfl (by kernel_rfl) (by simp[Tryz.f14]) fun R hR=>?_
 have fin:∀(st:PT) (h:H) (a e:Int),st.get 4=.int .i64 a→st.get 5=.int .i64 e→agE openB l f=(a,e)→R .ret st h:=fun st h a e h1 h2 he=>hR _ _ _ (.inr rfl) ⟨.tuple [.int .i64 a,.int .i64 e],by simp[resultV,resV,resVs,Tryz.f14,h1,h2],by rw[he];exact snap_dat rfl rfl⟩
 have bx:=box35 f
 have m0:([.cells (faC f) .live]:H)[0]?=some (.cells (faC f) .live):=rfl
 have l0:=ld35f m0
 have k0:=ld3f0 m0
 have c30:=call30 l f hl (okF_of h1) (one_small hf)
 by_cases q:rightE l f=0
 ·by_cases q2:f.kind=3
  ·have c31:=call31 l f (by omega) (pr_of h1 q (one_size hf))
   have hse:agE openB l f=openE 0 (ixF (openB f) l 0) 0:=by rw[agE,if_pos q,if_pos q2]
   generalize openE 0 (ixF (openB f) l 0) 0=p at c31 hse
   simp[go_sem,initS,bx,l0,k0,c30,q,q2,c31]
   exact fin _ _ p.1 p.2 (by simp[go_sem]) (by simp[go_sem]) hse
  ·simp[go_sem,initS,bx,l0,k0,c30,q,q2]
   exact fin _ _ 0 1 (by simp[go_sem]) (by simp[go_sem]) (by rw[agE,if_pos q,if_neg q2])
 ·simp[go_sem,initS,bx,l0,c30,q]
  exact fin _ _ 0 (rightE l f) (by simp[go_sem]) (by simp[go_sem]) (by rw[agE,if_neg q])
set_option maxRecDepth 8000 in
set_option maxHeartbeats 2000000 in
theorem agree15 (l:List Cl) (f:Fa) (hl:l.length≤10000) (h1:∀c∈l,fewCl c 60=true) (hf:fewCl ⟨[],f⟩ 60=true):CallP C 15 [clsV l,encFa f]=some (.tuple [.int .i64 (agE openR l f).1,.int .i64 (agE openR l f).2]):=by
 refine CallP_W rfl Tryz.func15 rfl (by kernel_rfl) (by simp[Tryz.f15]) fun R hR=>?_
 have fin:∀(st:PT) (h:H) (a e:Int),st.get 4=.int .i64 a→st.get 5=.int .i64 e→agE openR l f=(a,e)→∀x:Ex,x=.normal∨x=.ret→R x st h:=fun st h a e h1 h2 he x hx=>hR _ _ _ hx ⟨.tuple [.int .i64 a,.int .i64 e],by simp[resultV,resV,resVs,Tryz.f15,h1,h2],by rw[he];exact snap_dat rfl rfl⟩
 have bx:=box35 f
 have m0:([.cells (faC f) .live]:H)[0]?=some (.cells (faC f) .live):=rfl
 have l0:=ld35f m0
 have k0:=ld3f0 m0
 have c32:=call32 l f hl (okF_of h1) (one_small hf)
 by_cases q:rightE l f=0
 ·by_cases q2:f.kind=3
  ·have c33:=call33 l f (by omega) (pr_of h1 q (one_size hf))
   have hse:agE openR l f=openE 0 (ixF (openR f) l 0) 0:=by rw[agE,if_pos q,if_pos q2]
   generalize ixF (openR f) l 0=i at c33 hse
   by_cases q3:i<0
   ·have q3':¬0≤i:=by omega
    simp[go_sem,initS,bx,l0,k0,c32,q,q2,c33,q3']
    exact fin _ _ 0 15 (by simp[go_sem]) (by simp[go_sem]) (by rw[hse,openE,if_pos rfl,if_pos q3]) _ (.inr rfl)
   ·have q3':0≤i:=by omega
    simp[go_sem,initS,bx,l0,k0,c32,q,q2,c33,q3']
    exact fin _ _ i 0 (by simp[go_sem]) (by simp[go_sem]) (by rw[hse,openE,if_pos rfl,if_neg q3]) _ (.inr rfl)
  ·simp[go_sem,initS,bx,l0,k0,c32,q,q2]
   exact fin _ _ 0 1 (by simp[go_sem]) (by simp[go_sem]) (by rw[agE,if_pos q,if_neg q2]) _ (.inr rfl)
 ·simp[go_sem,initS,bx,l0,c32,q]
  exact fin _ _ 0 (rightE l f) (by simp[go_sem]) (by simp[go_sem]) (by rw[agE,if_neg q]) _ (.inr rfl)
theorem one13 (f:Fa):CallP C 13 [encFa f]=some (.bool (fewCl ⟨[],f⟩ 60)):=by
 refine CallP_W rfl Tryz.func13 rfl (by kernel_rfl) (by simp[Tryz.f13]) fun R hR=>?_
 have bx:=box35 f
 have m0:([.cells (faC f) .live]:H)[0]?=some (.cells (faC f) .live):=rfl
 have l0:=ld35f m0
 have bl:=bld37 f
 have c34:=call34f f 60 (by decide) (by decide)
 simp[go_sem,initS,bx,l0,bl,c34,show notTuple (encFa f)=true from rfl]
 exact hR _ _ _ (.inr rfl) ⟨.bool (fewCl ⟨[],f⟩ 60),by simp[resultV,resV,Tryz.f13,go_sem],snap_dat rfl rfl⟩
theorem call13 (f:Fa) (h:H):callV C h (.func 13 []) (some [encFa f])=some (.bool (fewCl ⟨[],f⟩ 60),h):=callV_strip (by kernel_rfl) rfl (args':=[encFa f]) rfl rfl (by simp) (one13 f)
theorem ag_same {l:List Cl}{f:Fa}(h1:∀c∈l,fewCl c 60=true) (hz:sizes f.terms≤60):agE openR l f=agE openB l f:=by
 unfold agE
 by_cases q:rightE l f=0
 ·rw[ixF_congr l 0 fun c hc=>open_same (pr_of h1 q hz c hc)]
 ·rw[if_neg q,if_neg q]
theorem few_cls {l:List Cl}(h:fewCs l 12 60=true):l.length≤12∧∀c∈l,fewCl c 60=true:=by
 simp only[fewCs,Bool.and_eq_true,decide_eq_true_eq,List.all_eq_true] at h
 exact ⟨by omega,h.2⟩
theorem key11 {g:FuncId}(hb:hasBody C.P g=true) (hm:C.mode g=.strip) (l:List Cl) (hl:l.length≤10000){a v:AV}(hd:dats [a]=some [a]) (hsh:short a=true) (hc:CallP C g [clsV l,a]=some v) (hs:scal v=true){h0:H}{o:VObj}(h00:h0[0]?=some o) :
  ∃(u:AV) (h1:H),callV C h0 (.func 11 []) (some [clsV l])=some (u,h1)∧h1[0]?=some o∧callV C h1 (.func g []) (some [u,a])=some (v,h1):=by
 cases l with
 | nil=>
  exact ⟨_,_,call11n h0,h00,callV_strip hb hm (args':=[clsV [],a]) (dats_append (a:=[.isl [] .full]) rfl hd) (by rw[List.all_cons,List.all_cons,hsh];rfl) (by simp) hc⟩
 | cons c l=>
  refine ⟨_,_,call11c c l h0 hl,?_,call_rowC hb hm (by simp) hl hd hsh hc hs⟩
  rw[List.getElem?_append_left (List.getElem?_eq_some_iff.1 h00).1];exact h00
set_option maxRecDepth 8000 in
set_option maxHeartbeats 4000000 in
theorem law4 (l:List Cl) (f:Fa):CallP C 4 [clsV l,encFa f]=some (.bool true):=by
 refine CallP_W rfl Tryz.func4 rfl (by kernel_rfl) (by simp[Tryz.f4]) fun R hR=>?_
 have fin:∀(st:PT) (h:H),st.get 4=.bool true→R .ret st h:=fun st h h6=>hR _ _ _ (.inr rfl) ⟨.bool true,by simp[resultV,resV,Tryz.f4,h6],snap_dat rfl rfl⟩
 have c8:=call8 l
 have c13:=call13 f
 have bx:=box35 f
 have m0:([.cells (faC f) .live]:H)[0]?=some (.cells (faC f) .live):=rfl
 have l0:=ld35f m0
 by_cases q1:fewCs l 12 60=true
 rotate_left
 ·have q1':fewCs l 12 60=false:=by simpa using q1
  rw[q1'] at c8
  simp[go_sem,initS,bx,call7,c8]
  exact fin _ _ (by simp[go_sem])
 by_cases q2:fewCl ⟨[],f⟩ 60=true
 rotate_left
 ·have q2':fewCl ⟨[],f⟩ 60=false:=by simpa using q2
  rw[q1] at c8
  rw[q2'] at c13
  simp[go_sem,initS,bx,call7,c8,l0,c13]
  exact fin _ _ (by simp[go_sem])
 rw[q1] at c8
 rw[q2] at c13
 obtain ⟨hl,h1⟩:=few_cls q1
 have hz:=one_size q2
 obtain ⟨u,g,c11,m1,c14⟩:=key11 (g:=14) (by kernel_rfl) rfl l (by omega) (a:=encFa f) rfl rfl (agree14 l f (by omega) h1 q2) rfl m0
 have l1:=ld35f m1
 have c15:∀h,callV C h (.func 15 []) (some [clsV l,encFa f])=some (.tuple [.int .i64 (agE openR l f).1,.int .i64 (agE openR l f).2],h):=fun h=>callV_strip (by kernel_rfl) rfl (args':=[clsV l,encFa f]) rfl rfl (by simp) (agree15 l f (by omega) h1 q2)
 rw[ag_same h1 hz] at c15
 generalize agE openB l f=p at c14 c15
 simp[go_sem,initS,bx,call7,c8,l0,c13,c11,l1,c14,c15]
 exact fin _ _ (by simp[go_sem])
end Go.VZ

/- What the joins of QuerySecret and QueryAgree share. -/
namespace Go.VZ
open Go Go.V Go.Proofs Go.RowKit TL
theorem calls_of {f:FuncId}{args:List AV}{vs:Array Value}{w:World}(hb:hasBody C.P f=true) (hl:vs.size=args.length)
  (hr:∀(i:Nat) a v,args[i]?=some a→vs[i]?=some v→IRel (fun _ _=>True) w a v) (hg:GlobR (fun _ _=>True) w) (hc:CallP C f args=some (.bool true)) :
  Calls Tryz.prog f vs w (fun e w'=>e=.returned (.bool true)∧Below w.heap.size w w'):=by
 unfold CallP at hc
 split at hc<;>first | (cases hc;done) | skip
 rename_i r h1 hx
 refine (ok.fn f args [] r h1 hb hx w.heap.size (fun _ _=>True) [] w vs (.start hg) hl (fun i a v ha hv=>.data (irel_start (hr i a v ha hv)))).mono ?_
 rintro e w' ⟨v,rfl,σ',k1,k2,k3⟩
 have hs:=snap_sound (k1.stiller (freezeAll_stiller h1)) deep r (.bool true) v hc (k3.step (.stiller k1 (freezeAll_stiller h1)))
 cases hs
 exact ⟨rfl,k2.below⟩
theorem okWide_agg {P:Program}{w:World}{r:Reach}{b0:Nat}{t:TypeId}{fs:Array Field}{v:Value}(ht:P.underlying t=some (.struct fs)) (h:Value.okWide P w r b0 t v):∃cs,v=.agg cs∧cs.size=P.cellsOf t:=by
 unfold Value.okWide at h
 rw[ht] at h
 obtain ⟨cs,h1,h2,_⟩:=h
 exact ⟨cs,h1,h2⟩
section
variable {H:Type}{ec:TypeId × Value→H}{w:World}
theorem dec_factV {n:Nat}{cs:Array Value}{x:DataW H × List MemPlace}(hl:cs.toList.length=3) (h:TR ec w n 35 cs.toList=some x):∃f:Fa,IRel (fun _ _=>True) w (encFa f) (.agg cs):=by
 obtain ⟨f,_,_,r⟩:=dec_fact hl h
 exact ⟨f,.agg (fa_one f) (by simpa [faC] using hl) fun i a v ha hv=>r i a v ha (by simpa using hv)⟩
end
end Go.VZ
