/- The program's step: walked. -/
import Derived.Test.YtdoegkegjaadeaaGreatDoorSg
import Derived.Test.YtdoegkegjaadeaaGreatDoorSc
import Derived.Test.YtdoegkegjaadeaaGreatDoorV35
import Derived.Test.YtdoegkegjaadeaaGreatDoorSd
namespace Go.VZ
open Go Go.V Go.Proofs TL
theorem stQ {h g:H}{s:Nat}{x y v:AV}{ps:List (T × T)}(hs:h[s]?=some (.cells [x,y] .live)) (r:RowQ g v ps):storeV C.P h 248 (.ptr s 0) v=some (h.set s (.cells [v,y] .live)):=by
 have z:sizeV C.P 248=some 1:=by kernel_rfl
 rcases r with ⟨_,rfl,_⟩ | ⟨_,_,rfl,_⟩<;>simp[storeV,hs,z]
theorem RowQ.mv {h:H}{v:AV}{ps:List (T × T)}(r:RowQ h v ps){n k:Nat}(hn:h.length≤n):v.mv n k=v:=by
 rcases r with ⟨x,rfl,hx⟩ | ⟨id,pre,rfl,hid,_⟩
 ·exact isl_mv fun t e=>absurd e (hx t)
 ·have:¬id=n:=by have:=(List.getElem?_eq_some_iff.1 hid).1;omega
  simp[AV.mv,this]
def Stepped (s:Nat) (a b:T) (ps bs:List (T × T)) (r:AV) (h':H):Prop:=∃e:Int,r=.int .i64 e ∧
 if a.cmp b=0 then e=0∧Took h' s ps bs
 else if alikeU a b=true then e=0∧Took h' s (zipU a b++ps) bs
 else match chooseU a b with
  | .bad e'=>e=e'
  | .ok x y=>if okU x y ps bs=true then e=0∧Took h' s (putP x y ps) (putS x y bs++[(x,y)]) else e=3
def NK282 (a b:T) (s i3 i4 L:Nat) (v1 vb:AV) (ps bs:List (T × T)) (m:Nat) (st:PT) (h:H):Prop:=∃(k:Nat) (v5:AV),m=a.kids.length-k∧k≤a.kids.length∧st.get 0=.ptr s 0∧st.get 3=.ptr i3 0∧st.get 4=.ptr i4 0∧st.get 5=v5∧st.get 39=.int .i64 a.kids.length∧st.get 40=.int .i64 k ∧
 h[i3]?=some (.cells (enc a).cells .live)∧h[i4]?=some (.cells (enc b).cells .live)∧h[s]?=some (.cells [v1,vb] .live)∧RowQ h v1 ps∧RowS h vb bs∧RowS h v5 ((zipU a b).take k)∧(∀i,idOf v5=some i→L≤i)∧L≤h.length
set_option maxRecDepth 8000 in
set_option maxHeartbeats 8000000 in
theorem step282 (a b:T) (ps bs:List (T × T)) (h0:H) (s:Nat) (t:Took h0 s ((a,b)::ps) bs) (hv:∀p∈(a,b)::ps,validE p.1=0∧validE p.2=0) (hb:∀p∈bs,validE p.1=0∧validE p.2=0) (hpl:ps.length≤90000) (hbl:bs.length≤4000) :
  ∃r h',Go.V.Call C 282 [.ptr s 0] h0=some (r,h')∧Stepped s a b ps bs r h':=by
 refine Call_WQ rfl Tryz.func282 rfl (by kernel_rfl) (by simp[Tryz.f282]) fun R hR=>?_
 obtain ⟨vp,vb,hs,rp,rb,hn⟩:=t
 obtain ⟨A,A4,hA,hA0,hA1,hld,hL,hL4,hmv⟩:=rp.head
 have hlen1:=rp.len
 obtain ⟨va,vbb⟩:=hv _ List.mem_cons_self
 have hv':∀p∈ps,validE p.1=0∧validE p.2=0:=fun p hp=>hv p (List.mem_cons_of_mem _ hp)
 dsimp only at hld va vbb
 have sa:=(nodes_zero va).2.1
 have sb:=(nodes_zero vbb).2.1
 have hsl:=(List.getElem?_eq_some_iff.1 hs).1
 have fin:∀(st:PT) (h:H) (e:Int) (w:Ex),(w=.normal∨w=.ret)→st.get 2=.int .i64 e→Stepped s a b ps bs (.int .i64 e) h→R w st h:=fun st h e w hw g2 hq=>hR _ _ _ hw ⟨.int .i64 e,by simp[resultV,resV,Tryz.f282,g2],hq⟩
 simp[go_sem]
 change W C 282 R _ _ _ h0
 refine W_mixedP 1 _ (fun st' h'=>st'.get 0=.ptr s 0∧st'.get 3=.ptr (h0.length+14) 0∧st'.get 4=.ptr (h0.length+15) 0∧h'[h0.length+14]?=some (.cells (enc a).cells .live)∧h'[h0.length+15]?=some (.cells (enc b).cells .live)∧∀j,j<h0.length→h'[j]?=h0[j]?) (by rw[mixC];decide) (by kernel_rfl) ?_ ?_
 ·generalize hH0:h0++List.replicate _ VObj.void=H0
  have pl:Pl h0 H0 18:=hH0▸Pl.mk' h0 18
  have hlen:=pl.len
  clear hH0
  have hsm:H0[s]?=some (.cells [vp,vb] .live):=pl.get hs
  have l0:=ldS0 hsm
  have hmA:=fun k=>hmv H0.length k fun i hi=>by have:=rp.lt hi;omega
  obtain ⟨lA,lA4⟩:=hld H0 fun i hi=>pl.old i (rp.lt hi)
  have nA:∀k,(lids A).contains (h0.length+k)=false:=fun k=>by
   rw[hL]
   cases hvp:idOf vp with
   | none=>rfl
   | some i=>have:=rp.lt hvp;simp;omega
  have nA4:∀k,(lids A4).contains (h0.length+k)=false:=fun k=>by rw[hL4,←hL];exact nA k
  refine MX_pure (.ptr s 0) rfl rfl (pl.isV (i:=0) (by decide)) (by simp[opN,go_sem]) (by simp[AV.mv];omega) ?_
  refine MX_pure (.ptr s 0) rfl rfl (pl.isV (i:=1) (by decide)) (by simp[opN,go_sem]) (by simp[AV.mv];omega) ?_
  refine MX_pure (.ptr s 0) rfl rfl (pl.isV (i:=2) (by decide)) (by simp[opN,go_sem]) (by simp[AV.mv];omega) ?_
  refine MX_load (.ptr s 0) vp (by simp[go_sem]) l0 (lids_no (by omega)) (pl.isV (i:=3) (by decide)) (hmA _).2.2 ?_
  refine MX_pure A rfl rfl (pl.isV (i:=4) (by decide)) (by simp[opN,go_sem,hA]) (hmA _).1 ?_
  refine MX_pure A rfl rfl (pl.isV (i:=5) (by decide)) (by simp[opN,go_sem,hA0]) (hmA _).1 ?_
  refine MX_load A (enc a) (by simp[go_sem]) lA (nA _) (pl.isV (i:=6) (by decide)) (mv_enc _ _ _) ?_
  refine MX_pure (.ptr s 0) rfl rfl (pl.isV (i:=7) (by decide)) (by simp[opN,go_sem]) (by simp[AV.mv];omega) ?_
  refine MX_pure (.ptr s 0) rfl rfl (pl.isV (i:=8) (by decide)) (by simp[opN,go_sem]) (by simp[AV.mv];omega) ?_
  refine MX_pure (.ptr s 0) rfl rfl (pl.isV (i:=9) (by decide)) (by simp[opN,go_sem]) (by simp[AV.mv];omega) ?_
  refine MX_load (.ptr s 0) vp (by simp[go_sem]) l0 (lids_no (by omega)) (pl.isV (i:=10) (by decide)) (hmA _).2.2 ?_
  refine MX_pure A rfl rfl (pl.isV (i:=11) (by decide)) (by simp[opN,go_sem,hA]) (hmA _).1 ?_
  refine MX_pure A4 rfl rfl (pl.isV (i:=12) (by decide)) (by simp[opN,go_sem,hA1]) (hmA _).2.1 ?_
  refine MX_load A4 (enc b) (by simp[go_sem]) lA4 (nA4 _) (pl.isV (i:=13) (by decide)) (mv_enc _ _ _) ?_
  refine MX_alloc _ zv25f (pl.isV (i:=14) (by decide)) ?_
  rw[show VObj.mv H0.length (h0.length+14) (.cells (AV.agg zc).cells .live)=.cells zc .live from rfl]
  obtain ⟨H1,eH1⟩:∃g,g=H0.set (h0.length+14) (.cells zc .live):=⟨_,rfl⟩
  have hl1:H1.length=H0.length:=by rw[eH1];simp
  have q8:H1[h0.length+14]?=some (.cells zc .live):=by rw[eH1];exact List.getElem?_set_self (by omega)
  have u9:isVoid H1[h0.length+15]?=true:=by rw[eH1];exact isV_set (pl.isV (i:=15) (by decide)) (by omega)
  have u10:isVoid H1[h0.length+16]?=true:=by rw[eH1];exact isV_set (pl.isV (i:=16) (by decide)) (by omega)
  have u11:isVoid H1[h0.length+17]?=true:=by rw[eH1];exact isV_set (pl.isV (i:=17) (by decide)) (by omega)
  have o1:∀j,j<h0.length→H1[j]?=h0[j]?:=fun j hj=>by rw[eH1,List.getElem?_set_ne (by omega),pl.old j hj]
  rw[←eH1]
  refine MX_alloc _ zv25f u9 ?_
  rw[show VObj.mv H1.length (h0.length+15) (.cells (AV.agg zc).cells .live)=.cells zc .live from rfl]
  obtain ⟨H2,eH2⟩:∃g,g=H1.set (h0.length+15) (.cells zc .live):=⟨_,rfl⟩
  have hl2:H2.length=H0.length:=by rw[eH2];simp[hl1]
  have r8:H2[h0.length+14]?=some (.cells zc .live):=by rw[eH2,List.getElem?_set_ne (by omega)];exact q8
  have r9:H2[h0.length+15]?=some (.cells zc .live):=by rw[eH2];exact List.getElem?_set_self (by omega)
  have w10:isVoid H2[h0.length+16]?=true:=by rw[eH2];exact isV_set u10 (by omega)
  have w11:isVoid H2[h0.length+17]?=true:=by rw[eH2];exact isV_set u11 (by omega)
  have o2:∀j,j<h0.length→H2[j]?=h0[j]?:=fun j hj=>by rw[eH2,List.getElem?_set_ne (by omega),o1 j hj]
  rw[←eH2]
  refine MX_store (h0.length+14) 0 (enc a) _ (by simp[go_sem]) (by simp[go_sem]) (st25zz a r8) (by omega) w10 ?_
  rw[mv_cellsT]
  have t9:(H2.set (h0.length+14) (.cells (enc a).cells .live))[h0.length+15]?=some (.cells zc .live):=by rw[List.getElem?_set_ne (by omega)];exact r9
  refine MX_store (h0.length+15) 0 (enc b) _ (by simp[go_sem]) (by simp[go_sem]) (st25zz b t9) (by omega) (isV_set w11 (by omega)) ?_
  rw[mv_cellsT]
  refine ⟨?_,?_⟩
  ·unfold fpOk
   generalize hb:Region.before _=bb
   have hb1:(bb.getD 16 0).testBit 14=true:=by rw[←hb];kernel_rfl
   have hb2:(bb.getD 17 0).testBit 15=true:=by rw[←hb];kernel_rfl
   clear hb
   rw[hL,hL4]
   have oa:∀k,¬h0.length+k=s:=fun k=>by omega
   have ob:∀k,¬s=h0.length+k:=fun k=>by omega
   simp[Array.getD_eq_getD_getElem?] at hb1 hb2
   cases hvp:idOf vp with
   | none=>
    simp[lids,meet,List.range,List.range.loop,oa]
    exact ⟨hb1,hb2⟩
   | some i=>
    have hi:=rp.lt hvp
    have oc:∀k,¬h0.length+k=i:=fun k=>by omega
    have od:∀k,¬i=h0.length+k:=fun k=>by omega
    simp[lids,meet,List.range,List.range.loop,oa,oc]
    exact ⟨hb1,hb2⟩
  ·refine ⟨by simp[go_sem],by simp[go_sem],by simp[go_sem],?_,List.getElem?_set_self (by simp[hl2];omega),fun j hj=>?_⟩
   ·rw[List.getElem?_set_ne (by omega)];exact List.getElem?_set_self (by omega)
   ·rw[List.getElem?_set_ne (by omega),List.getElem?_set_ne (by omega)];exact o2 j hj
 ·rintro st' h' ⟨g0,g3,g4,m3,m4,old⟩
  have hlen':h0.length+15<h'.length:=(List.getElem?_eq_some_iff.1 m4).1
  have hs':h'[s]?=some (.cells [vp,vb] .live):=by rw[old s hsl];exact hs
  have rp':RowQ h' vp ((a,b)::ps):=rp.keep fun i hi=>old i (rp.lt hi)
  have rb':RowS h' vb bs:=rb.keep fun i hi=>old i (rb.lt hi)
  have ivp:=fun i (hi:idOf vp=some i)=>rp.lt hi
  have ivb:=fun i (hi:idOf vb=some i)=>rb.lt hi
  generalize hi3:h0.length+14=i3 at *
  have hi4:h0.length+15=i3+1:=by omega
  rw[hi4] at g4 m4 hlen'
  have hN:h0.length≤i3:=by omega
  clear hi3 hi4 hL hL4 hmv hld hA hA0 hA1 old rp rb hs
  obtain ⟨v1,hsl1,rq,hv1⟩:=rp'.tail
  have l0:=ldS0 hs'
  have t1:=stQ hs' rq
  obtain ⟨h1,eh1⟩:∃h1,h1=h'.set s (.cells [v1,vb] .live):=⟨_,rfl⟩
  have hl1:h1.length=h'.length:=by rw[eh1];simp
  have k1:∀j,j≠s→h1[j]?=h'[j]?:=fun j hj=>by rw[eh1,List.getElem?_set_ne (fun e=>hj e.symm)]
  have hs1:h1[s]?=some (.cells [v1,vb] .live):=by rw[eh1];exact List.getElem?_set_self (by omega)
  have rq1:RowQ h1 v1 ps:=rq.keep fun i hi=>k1 i (rp'.ne hs' i (hv1 i hi))
  have rb1:RowS h1 vb bs:=rb'.keep fun i hi=>k1 i (rb'.ne hs' i hi)
  have n3:h1[i3]?=some (.cells (enc a).cells .live):=by rw[k1 _ (by omega)];exact m3
  have n4:h1[i3+1]?=some (.cells (enc b).cells .live):=by rw[k1 _ (by omega)];exact m4
  have hd1:∀i,idOf v1=some i→idOf vb≠some i:=fun i hi=>hn i (hv1 i hi)
  have tk:Took h1 s ps bs:=⟨v1,vb,hs1,rq1,rb1,hd1⟩
  have cs:=call318 a b (by omega) (by omega)
  have hka:a.kids.length≤8:=node_kids (nodesE_node (nodes_zero va).1)
  have hkb:b.kids.length≤8:=node_kids (nodesE_node (nodes_zero vbb).1)
  have ca:=call319 a b (by omega) (by omega)
  have la:=ld25h n3
  have lb:=ld25h n4
  rw[←eh1] at t1
  simp[go_sem,g0,g3,g4,l0,hsl1,t1,la,lb,cs]
  by_cases q1:a.cmp b=0
  ·simp[go_sem,q1]
   exact fin _ _ 0 _ (.inr rfl) (by simp[go_sem]) ⟨0,rfl,by rw[if_pos q1];exact ⟨rfl,tk⟩⟩
  simp[go_sem,q1,g3,g4,la,lb,ca]
  by_cases q2:alikeU a b=true
  ·have hkk:a.kids.length=b.kids.length:=by
    simp only[alikeU,Bool.and_eq_true,decide_eq_true_eq] at q2
    exact q2.2
   have hzl:(zipU a b).length=a.kids.length:=by simp[zipU,hkk]
   have l3:=ld23b n3
   simp[go_sem,q2,g3,l3,len23t]
   refine W_loop (NK282 a b s i3 (i3+1) h1.length v1 vb ps bs) a.kids.length ⟨0,.isl [] .full,rfl,Nat.zero_le _,by simp[go_sem,g0],by simp[go_sem,g3],by simp[go_sem,g4],by simp[go_sem],by simp[go_sem],by simp[go_sem],n3,n4,hs1,rq1,rb1,.inl ⟨rfl,rfl⟩,fun i hi=>(by cases hi),Nat.le_refl _⟩ ?_
   have hL3:i3+1<h1.length:=by omega
   have hLs:s<h1.length:=by omega
   have hLv:∀i,idOf v1=some i→i<h1.length:=fun i hi=>rq1.lt hi
   have hLb:∀i,idOf vb=some i→i<h1.length:=fun i hi=>rb1.lt hi
   generalize h1.length=L at hL3 hLs hLv hLb
   clear l3 la lb tk t1 l0 hs1 rq1 rb1 n3 n4 k1 eh1 hl1 h1 g0 g3 g4
   rintro m st h ⟨k,v5,rfl,hk,g0,g3,g4,g5,g39,g40,n3,n4,hs1,rq1,rb1,r5,hi5,hLh⟩
   have l3:=ld23b n3
   have l4:=ld23b n4
   by_cases hlt:k<a.kids.length
   ·have hlt':(k:Int)<a.kids.length:=by omega
    have hix:=idx23t a.kids k hlt
    have hiy:=idx23t b.kids k (by omega)
    have w2:IntKind.i64.wrap ((k:Int)+1)=((k+1:Nat):Int):=by rw[wrap_in (by omega)];omega
    obtain ⟨v',h2,hap,ho,hkp,hid⟩:=appQ (ys:=[(a.kids[k],b.kids[k])]) (w:=.isl [encB (a.kids[k],b.kids[k])] .full) r5 (.inl ⟨.full,rfl,fun t e=>by cases e⟩) (by simp only[List.length_take,List.length_cons,List.length_nil];omega)
    have etk:(zipU a b).take k++[(a.kids[k],b.kids[k])]=(zipU a b).take (k+1):=by
     rw[←List.take_append_getElem (by omega:k<(zipU a b).length)];simp[zipU]
    rw[etk] at ho
    simp[go_sem,g39,g40,hlt']
    refine W_regionS 10 _ (by simp[mixC]) rfl ?_
    simp[go_sem,g3,g4,g5,g40,l3,l4,hix,hiy,ld25,bld250,nt_B,build248_1,hap,-Int.natCast_add,w2]
    have hne5:∀j,j<L→idOf v5≠some j:=fun j hj e=>by have:=hi5 j e;omega
    refine ⟨?_,a.kids.length-(k+1),by omega,k+1,v',rfl,hlt,by simp[go_sem,g0],by simp[go_sem,g3],by simp[go_sem,g4],by simp[go_sem],by simp[go_sem,g39],by simp[go_sem],hkp.get n3 (hne5 _ (by omega)),hkp.get n4 (hne5 _ (by omega)),hkp.get hs1 (hne5 _ hLs),rq1.keep fun i hi=>hkp.2 i (rq1.lt hi) (hne5 _ (hLv i hi)),rb1.keep fun i hi=>hkp.2 i (rb1.lt hi) (hne5 _ (hLb i hi)),ho,fun i hi=>?_,by have:=hkp.1;omega⟩
    ·rcases r5 with ⟨_,rfl⟩ | ⟨id,rfl,hd⟩
     ·simp[go_sem,idsOk,ldIds,apIds,ldId,appId,mslId]
     ·have:=hi5 id rfl
      have z1:¬i3=id:=by omega
      have z2:¬i3+1=id:=by omega
      simp[go_sem,idsOk,ldIds,apIds,ldId,appId,mslId,z1,z2]
    ·rcases hid i hi with e | ⟨e,_⟩
     ·omega
     ·cases e
   ·have:k=a.kids.length:=by omega
    subst this
    rw[List.take_of_length_le (by omega)] at r5
    have l0:=ldS0 hs1
    obtain ⟨v',h2,hap,ho,hkp,hid⟩:=appQ r5 rq1 (by omega)
    have hne5:∀j,j<L→idOf v5≠some j:=fun j hj e=>by have:=hi5 j e;omega
    have hs2:=hkp.get hs1 (hne5 _ hLs)
    have hq:=RowQ.of ho (by rw[List.length_append];omega)
    have st2:=stQ hs2 hq
    have rb2:RowS h2 vb bs:=rb1.keep fun i hi=>hkp.2 i (rb1.lt hi) (hne5 _ (hLb i hi))
    simp[go_sem,g0,g5,g39,g40,l0,hap,st2]
    refine fin _ _ 0 _ (.inr rfl) (by simp[go_sem]) ⟨0,rfl,?_⟩
    rw[if_neg q1,if_pos q2]
    refine ⟨rfl,v',vb,List.getElem?_set_self (List.getElem?_eq_some_iff.1 hs2).1,hq.keep fun i hi=>List.getElem?_set_ne fun e=>hq.ne hs2 i hi e.symm,rb2.keep fun i hi=>List.getElem?_set_ne fun e=>rb2.ne hs2 i hi e.symm,fun i hi hj=>?_⟩
    have:=hLb i hj
    rcases hid i hi with e | ⟨_,e⟩
    ·omega
    ·rw[e] at hi;have:=hi5 i hi;omega
  have stepN:∀(e:Int) (h:H),(match chooseU a b with
    | .bad e'=>e=e'
    | .ok x y=>if okU x y ps bs=true then e=0∧Took h s (putP x y ps) (putS x y bs++[(x,y)]) else e=3)→Stepped s a b ps bs (.int .i64 e) h:=fun e h hh=>⟨e,rfl,by rw[if_neg q1,if_neg q2];exact hh⟩
  have hab:a≠b:=fun e=>q1 (cmp_zero.2 e)
  have tail:∀(x y:T) (h2:H),Took h2 s ps bs→x.kind=1→y.kind≠1→validE x=0→validE y=0→chooseU a b=fitU x y→(fitsB x y=false→∀h,Stepped s a b ps bs (.int .i64 11) h)∧(fitsB x y=true→occ x y=true→∀h,Stepped s a b ps bs (.int .i64 12) h) ∧
    (fitsB x y=true→occ x y=false→∃e h',callV C h2 (.func 323 []) (some [.ptr s 0,enc x,enc y])=some (.int .i64 e,h')∧Stepped s a b ps bs (.int .i64 e) h'):=by
   intro x y h2 tk2 kx ky vx vy hch
   have hi:(x.sort≠0∧(y.kind≠2∨y.sort≠x.sort))↔fitsB x y=false:=by rw[fitsB_U vx vy kx ky,Bool.not_eq_false',decide_eq_true_eq]
   unfold fitU at hch
   refine ⟨fun h h'=>stepN _ _ ?_,fun h ho h'=>stepN _ _ ?_,fun h ho=>?_⟩
   ·rw[hch,if_pos (hi.2 h)]
   ·rw[hch,if_neg (fun q=>by rw[hi.1 q] at h;cases h),if_pos ho]
   ·obtain ⟨e,h',c1,c2⟩:=bindU x y ps bs h2 s tk2 kx vx vy hv' hb (by omega) hbl
    exact ⟨e,h',by rw[callV_open (by kernel_rfl) rfl];exact c1,stepN _ _ (by rw[hch,if_neg (fun q=>by rw[hi.1 q] at h;cases h),if_neg (by simp[ho])];exact c2)⟩
  have var1:∀x:T,x.kind=1→∀h,callV C h (.func 320 []) (some [enc x])=some (.bool true,h):=fun x hx h=>by rw[call320,isVr,hx];rfl
  have var0:∀x:T,x.kind≠1→∀h,callV C h (.func 320 []) (some [enc x])=some (.bool false,h):=fun x hx h=>by rw[call320,isVr,decide_eq_false hx]
  by_cases ka:a.kind=1
  ·have cva:=var1 a ka
   by_cases kb:b.kind=1
   ·have cvb:=var1 b kb
    have hch:chooseU a b=twoU a b:=by unfold chooseU twoU;rw[if_pos ka,if_pos kb]
    obtain ⟨r,h2,c1,hQ⟩:=two321 a b h1 s (by omega) (by omega) (Stepped s a b ps bs) (fun x y hxy g=>by
     rw[←hch] at hxy
     obtain ⟨kx,_,hxy2⟩:=choose_ok va vbb hab hxy
     have vx:validE x=0:=by rcases hxy2 with ⟨rfl,_⟩ | ⟨rfl,_⟩<;>assumption
     have vy:validE y=0:=by rcases hxy2 with ⟨_,rfl⟩ | ⟨_,rfl⟩<;>assumption
     obtain ⟨e,h',c1,c2⟩:=bindU x y ps bs (h1++g) s (tk.app g) kx vx vy hv' hb (by omega) hbl
     exact ⟨e,h',c1,stepN _ _ (by rw[hxy];exact c2)⟩) (fun hxy g=>stepN _ _ (by rw[hch,hxy]))
    have c2:callV C h1 (.func 321 []) (some [.ptr s 0,enc a,enc b])=some (r,h2):=by rw[callV_open (by kernel_rfl) rfl];exact c1
    obtain ⟨e,rfl,hQ2⟩:=hQ
    simp[go_sem,q2,g0,g3,g4,la,lb,cva,cvb,c2]
    exact fin _ _ e _ (.inr rfl) (by simp[go_sem]) ⟨e,rfl,hQ2⟩
   ·have cvb:=var0 b kb
    obtain ⟨t1,t2,t3⟩:=tail a b h1 tk ka kb va vbb (by unfold chooseU;rw[if_pos ka,if_neg kb])
    have cf:=call113 a b (by omega) (by omega)
    have co:=call322 a b (by omega) (by omega)
    cases f1:fitsB a b
    ·simp[go_sem,q2,g3,g4,la,lb,cva,cvb,cf,f1]
     exact fin _ _ 11 _ (.inr rfl) (by simp[go_sem]) (t1 f1 _)
    ·cases f2:occ a b
     ·obtain ⟨e,h2,c2,hQ⟩:=t3 f1 f2
      simp[go_sem,q2,g0,g3,g4,la,lb,cva,cvb,cf,f1,co,f2,c2]
      exact fin _ _ e _ (.inr rfl) (by simp[go_sem]) hQ
     ·simp[go_sem,q2,g3,g4,la,lb,cva,cvb,cf,f1,co,f2]
      exact fin _ _ 12 _ (.inr rfl) (by simp[go_sem]) (t2 f1 f2 _)
  ·have cva:=var0 a ka
   by_cases kb:b.kind=1
   ·have cvb:=var1 b kb
    have w1:=st25on b n3
    have n4':(h1.set i3 (.cells (enc b).cells .live))[i3+1]?=some (.cells (enc b).cells .live):=by rw[List.getElem?_set_ne (by omega)];exact n4
    have w2:=st25on a n4'
    obtain ⟨h2,eh2⟩:∃h2,h2=(h1.set i3 (.cells (enc b).cells .live)).set (i3+1) (.cells (enc a).cells .live):=⟨_,rfl⟩
    have k2:∀j,j<h0.length→h2[j]?=h1[j]?:=fun j hj=>by rw[eh2,List.getElem?_set_ne (by omega),List.getElem?_set_ne (by omega)]
    have p3:h2[i3]?=some (.cells (enc b).cells .live):=by rw[eh2,List.getElem?_set_ne (by omega)];exact List.getElem?_set_self (by omega)
    have p4:h2[i3+1]?=some (.cells (enc a).cells .live):=by rw[eh2];exact List.getElem?_set_self (by simp;omega)
    rw[←eh2] at w2
    have tk2:Took h2 s ps bs:=⟨v1,vb,by rw[k2 s hsl];exact hs1,rq1.keep fun i hi=>k2 i (ivp i (hv1 i hi)),rb1.keep fun i hi=>k2 i (ivb i hi),hd1⟩
    have la2:=ld25h p3
    have lb2:=ld25h p4
    obtain ⟨t1,t2,t3⟩:=tail b a h2 tk2 kb ka vbb va (by unfold chooseU;rw[if_neg ka,if_pos kb])
    have cf:=call113 b a (by omega) (by omega)
    have co:=call322 b a (by omega) (by omega)
    cases f1:fitsB b a
    ·simp[go_sem,q2,g3,g4,la,lb,cva,cvb,w1,w2,la2,lb2,cf,f1]
     exact fin _ _ 11 _ (.inr rfl) (by simp[go_sem]) (t1 f1 _)
    ·cases f2:occ b a
     ·obtain ⟨e,h3,c2,hQ⟩:=t3 f1 f2
      simp[go_sem,q2,g0,g3,g4,la,lb,cva,cvb,w1,w2,la2,lb2,cf,f1,co,f2,c2]
      exact fin _ _ e _ (.inr rfl) (by simp[go_sem]) hQ
     ·simp[go_sem,q2,g3,g4,la,lb,cva,cvb,w1,w2,la2,lb2,cf,f1,co,f2]
      exact fin _ _ 12 _ (.inr rfl) (by simp[go_sem]) (t2 f1 f2 _)
   ·have cvb:=var0 b kb
    simp[go_sem,q2,g3,g4,la,lb,cva,cvb]
    exact fin _ _ 11 _ (.inr rfl) (by simp[go_sem]) (stepN _ _ (by unfold chooseU;rw[if_neg ka,if_neg kb]))
end Go.VZ

/- The program's unification of pairs: the sort of its bindings by contract, its steps, walked. -/
namespace Go.VZ
open Go Go.V Go.Proofs TL
theorem cellsB_inj:∀l m:List (T × T),cellsB l=cellsB m→l=m
 | [],[],_=>rfl
 | [],b::m,h=>by have:=congrArg List.length h;rw[cellsB_len,cellsB_len] at this;simp at this
 | a::l,[],h=>by have:=congrArg List.length h;rw[cellsB_len,cellsB_len] at this;simp at this
 | (a1,a2)::l,(b1,b2)::m,h=>by
  rw[cellsB_cons,cellsB_cons] at h
  simp only[enc_cells,List.cons_append,List.nil_append,List.cons.injEq] at h
  obtain ⟨h1,h2,h3,h4,h5,h6,h7,h8,h9⟩:=h
  rw[cellsB_inj l m h9,enc_inj a1 b1 (by rw[enc_eq,enc_eq,h1,h2,h3,h4]),enc_inj a2 b2 (by rw[enc_eq,enc_eq,h5,h6,h7,h8])]
theorem srtB_len (l:List (T × T)):(srtB l).length=l.length:=List.length_mergeSort l
theorem srtB_nil:srtB []=[]:=by
 have:=srtB_len []
 simpa using this
theorem call158 {h:H}{v:AV}{l:List (T × T)}(r:RowS h v l) (hs:∀b∈l,b.1.size<4000000∧b.2.size<4000000) (hd:l.Pairwise fun a b=>a.1≠b.1) (hl:l.length<1000000000):∃h',callV C h (.func 158 []) (some [v,.func 324 []])=some (.tuple [],h')∧RowS h' v (srtB l)∧h'.length=h.length:=by
 rw[callV_open (by kernel_rfl) rfl]
 rcases r with ⟨rfl,rfl⟩ | ⟨id,rfl,hid⟩
 ·exact ⟨h,Call_prim (C:=C) (fn:=Tryz.f158) Tryz.func158 rfl,.inl ⟨srtB_nil,rfl⟩,rfl⟩
 ·refine ⟨h.set id (.cells (cellsB (srtB l)) .live),Call_prim (C:=C) (fn:=Tryz.f158) Tryz.func158 ?_,.inr ⟨id,by rw[srtB_len],List.getElem?_set_self (List.getElem?_eq_some_iff.1 hid).1⟩,by simp⟩
  have hpr:∀a,C.prim 158 a h=primSortB a h:=fun a=>by
   have:C.prim=Go.VZ.prim:=rfl
   rw[this];rfl
  rw[hpr]
  have e:∃l':List (T × T),l.length=l'.length∧l'.length<1000000000∧(∀b∈l',b.1.size<4000000∧b.2.size<4000000)∧l'.Pairwise (fun a b=>a.1≠b.1)∧h[id]?=some (.cells (cellsB l') .live):=⟨l,rfl,hl,hs,hd,hid⟩
  have ec:e.choose=l:=by
   have hc:=e.choose_spec.2.2.2.2
   generalize e.choose=m at hc
   rw[hid] at hc
   simp only[Option.some.injEq,VObj.cells.injEq,and_true] at hc
   exact (cellsB_inj _ _ hc).symm
  have hm:primSortB [.msl id 0 8 l.length none,.func 324 []] h=@dite _ (∃l':List (T × T),l.length=l'.length∧l'.length<1000000000∧(∀b∈l',b.1.size<4000000∧b.2.size<4000000)∧l'.Pairwise (fun a b=>a.1≠b.1)∧h[id]?=some (.cells (cellsB l') .live)) (Classical.propDecidable _) (fun e=>some (.tuple [],h.set id (.cells (cellsB (srtB e.choose)) .live))) (fun _=>none):=rfl
  rw[hm,dif_pos e,ec]
theorem asc283 {h:H}{v:AV}{l:List (T × T)}(r:RowS h v l) (hs:∀b∈l,b.1.size<4000000∧b.2.size<4000000) (hd:l.Pairwise fun a b=>a.1≠b.1) (hl:l.length<1000000000):∃h',Go.V.Call C 283 [v] h=some (v,h')∧RowS h' v (srtB l):=by
 have r0:RowS (h++[.tok 0 86]) v l:=r.keep fun i hi=>List.getElem?_append_left (r.lt hi)
 obtain ⟨h',c1,r1,_⟩:=call158 r0 hs hd hl
 refine ⟨h',Call_W rfl Tryz.func283 rfl (by kernel_rfl) (by simp[Tryz.f283]) fun R hR=>?_,r1⟩
 simp[go_sem,initS,c1]
 exact hR _ _ _ (.inr rfl) ⟨v,by simp[resultV,resV,Tryz.f283,go_sem],rfl⟩
theorem choose_bad {a b:T}{e:Int}(h:chooseU a b=.bad e):e≠0:=by
 unfold chooseU fitU at h
 split at h<;>(try split at h)<;>(try split at h)<;>(try split at h)<;>first | (cases h;done) | (simp only[Ch.bad.injEq] at h;omega)
theorem snap_tup2 {hf:H}{v x:AV}(n:Nat) (e:Int) (e1:snap hf (n+2) v=some x):snap hf (n+4) (.tuple [v,.int .i64 e])=some (.tuple [x,.int .i64 e]):=by
 have k1:∀(m:Nat) (z:Int),snap hf (m+1) (.int .i64 z)=some (.int .i64 z):=fun _ _=>rfl
 have k3:snaps hf (n+3) [v,.int .i64 e]=some [x,.int .i64 e]:=by simp only[snaps,e1,k1]
 have k4:snap hf (n+4) (.tuple [v,.int .i64 e])=(match snaps hf (n+3) [v,.int .i64 e] with
  | some l=>some (.tuple l)
  | none=>none):=rfl
 rw[k4,k3]
theorem snap_tupB {h:H}{v:AV}{l:List (T × T)}(r:RowS h v l) (hl:l.length≤100000) (e:Int):snap (freezeAll h) deep (.tuple [v,.int .i64 e])=some (.tuple [binds l,.int .i64 e]):=by
 rcases r with ⟨rfl,rfl⟩ | ⟨id,rfl,hid⟩
 ·exact snap_tuple rfl rfl (by simp)
 ·have hf:(freezeAll h)[id]?=some (.cells (cellsB ([]++l)) .frozen):=freezeAll_live h id hid
  obtain ⟨m,e0⟩:∃m,deep=m+4:=⟨999996,rfl⟩
  have em:m=999996:=by unfold deep at e0;omega
  rw[e0]
  exact snap_tup2 m e (snapB (c:=none) hf (by simpa using hl) (m+1) (by omega))
def NL227 (U:List T) (K:Nat) (r:List (T × T)) (e:Int) (m:Nat) (st:PT) (h:H):Prop:=∃ps s,runG insE m ps s=some (r,e)∧InvU U K ps s∧st.get 4=.ptr 1 0∧Took h 1 ps s
theorem bld305 (l:List (T × T)):buildV C.P 305 [(0,binds l)]=some (.agg [binds l,.isl [] .full]):=by
 have e:∀es:List AV,buildV C.P 305 [(0,.isl es .unk)]=some (.agg [.isl es .unk,.isl [] .full]):=fun es=>by kernel_rfl
 exact e _
theorem box305 (v:AV) (_hv:notTuple v=true) (h:H):boxV C.P h 305 (.agg [v,.isl [] .full])=some (.ptr h.length 0,h++[.cells [v,.isl [] .full] .live]):=by
 have z:sizeV C.P 305=some 2:=by kernel_rfl
 simp[boxV,z,cells_agg,notTuple]
set_option maxRecDepth 8000 in
set_option maxHeartbeats 8000000 in
theorem solve227 (U:List T) (K:Nat) (hK:K≤89000) (hU:U.length≤4000) (n:Nat) (ps0 r:List (T × T)) (e:Int) (hi0:InvU U K ps0 []) (hr0:runG insE n ps0 []=some (r,e)):CallP C 227 [binds ps0]=some (.tuple [binds (srtB r),.int .i64 e]):=by
 refine CallP_W rfl Tryz.func227 rfl (by kernel_rfl) (by simp[Tryz.f227]) fun R hR=>?_
 have hb:=bld305 ps0
 have hx:=box305 (binds ps0) rfl
 have hnt:notTuple (binds ps0)=true:=rfl
 simp[go_sem,hnt,hb,hx]
 refine W_loop (NL227 U K r e) n ⟨ps0,[],hr0,hi0,by simp[go_sem],binds ps0,.isl [] .full,rfl,.inl ⟨.unk,rfl,fun t e=>by cases e⟩,.inl ⟨rfl,rfl⟩,fun i hi=>by cases hi⟩ ?_
 clear hr0 hi0 hb hx
 rintro n st h ⟨ps,s,hrun,hinv,g4,tk⟩
 obtain ⟨vp,vb,hs,rp,rb,hn⟩:=id tk
 have l0:=ldS0 hs
 have l1:=ldS1 hs
 have hln:=rp.len
 match ps,n,hrun,hinv,tk,rp,hln with
 | [],n,hrun,hinv,tk,rp,hln=>
  have hh:s=r∧(0:Int)=e:=by simpa [runG] using hrun
  obtain ⟨rfl,rfl⟩:=hh
  have hsl:=hinv.slen
  obtain ⟨h',c1,r1⟩:=asc283 rb (fun b hb=>⟨by have:=(nodes_zero (hinv.bval b hb).1).2.1;omega,by have:=(nodes_zero (hinv.bval b hb).2).2.1;omega⟩) hinv.diff (by omega)
  have c2:callV C h (.func 283 []) (some [vb])=some (vb,h'):=by rw[callV_open (by kernel_rfl) rfl];exact c1
  simp only[List.length_nil] at hln
  simp[go_sem,g4,l0,l1,hln,c2]
  refine hR _ _ _ (.inr rfl) ⟨.tuple [vb,.int .i64 0],by simp[resultV,resVs,resV,Tryz.f227,go_sem],?_⟩
  exact snap_tupB r1 (by rw[srtB_len];omega) 0
 | (a,b)::ps,0,hrun,_,_,_,_=>simp[runG] at hrun
 | (a,b)::ps,n+1,hrun,hinv,tk,rp,hln=>
  have hpl:=hinv.plen
  have hsl:=hinv.slen
  simp only[List.length_cons] at hpl
  obtain ⟨rr,h',c1,e1,rfl,hst⟩:=step282 a b ps s h 1 tk hinv.valid hinv.bval (by omega) (by omega)
  have c2:callV C h (.func 282 []) (some [.ptr 1 0])=some (.int .i64 e1,h'):=by rw[callV_open (by kernel_rfl) rfl];exact c1
  have fin:∀e2:Int,e1=e2→e2≠0→some (([]:List (T × T)),e2)=some (r,e)→∀(st:PT) (h:H) (x:Ext),st.get 2=.isl [] x→st.get 3=.int .i64 e1→R .ret st h:=fun e2 he hne hr st h x g2 g3=>by
   simp only[Option.some.injEq,Prod.mk.injEq] at hr
   obtain ⟨rfl,rfl⟩:=hr
   subst he
   refine hR _ _ _ (.inr rfl) ⟨.tuple [.isl [] x,.int .i64 e1],by simp[resultV,resVs,resV,Tryz.f227,g2,g3],?_⟩
   rw[srtB_nil]
   exact snap_tuple rfl rfl (by simp)
  have hN0:0<((a,b)::ps).length:=by simp
  generalize ((a,b)::ps).length=N at hln hN0
  rw[runG] at hrun
  simp[go_sem,g4,l0,hln,hN0,c2]
  by_cases q1:a.cmp b=0
  ·rw[if_pos q1] at hrun hst
   obtain ⟨rfl,tk2⟩:=hst
   simp[go_sem]
   exact ⟨n,by omega,ps,s,hrun,hinv.skip,by simp[go_sem,g4],tk2⟩
  rw[if_neg q1] at hrun hst
  by_cases q2:alikeU a b=true
  ·rw[if_pos q2] at hrun hst
   obtain ⟨rfl,tk2⟩:=hst
   simp[go_sem]
   exact ⟨n,by omega,_,s,hrun,hinv.kids,by simp[go_sem,g4],tk2⟩
  rw[if_neg q2] at hrun hst
  obtain ⟨va,vbb⟩:=hinv.valid _ List.mem_cons_self
  have hab:a≠b:=fun e=>q1 (cmp_zero.2 e)
  generalize hcu:chooseU a b=cu at hrun hst
  cases cu with
  | bad e2=>
   dsimp only at hrun hst
   have hne:=choose_bad hcu
   have he:e1≠0:=by rw[hst];exact hne
   simp[go_sem,he]
   exact fin e2 hst hne hrun _ _ _ (by simp[go_sem];rfl) (by simp[go_sem])
  | ok x y=>
   dsimp only at hrun hst
   by_cases q3:okU x y ps s=true
   ·rw[if_pos q3] at hrun hst
    obtain ⟨rfl,tk2⟩:=hst
    simp[go_sem]
    exact ⟨n,by omega,_,_,hrun,(hinv.bind hab hcu q3).1,by simp[go_sem,g4],tk2⟩
   ·rw[if_neg q3] at hrun hst
    subst hst
    simp[go_sem]
    exact fin 3 rfl (by decide) hrun _ _ _ (by simp[go_sem];rfl) (by simp[go_sem])
end Go.VZ

/- slices.Grow and slices.Concat at rows of terms: walked. -/
namespace Go.VZ
open Go Go.V Go.Proofs TL
theorem isStr3:isStrT C.P 3=false:=by kernel_rfl
theorem isInt3:isIntT C.P 3=true:=by kernel_rfl
section
variable {cf:FuncId}{ops:Array Oper}{d:Tmp}{ty:TypeId}{p:String}{af:Array Edge}{l:List Oper}{s:PT}{h:H}{K:PT→H→Prop}
@[go_sem] theorem OWappendZ23 (x y:Operand):OW C cf ops (⟨some d,.call {callee:=.builtin .append,args:=#[x,y],argTypes:=#[23,3]},ty,p,af,none⟩::l) s h K↔bO (bi2 (ev s x) (ev s y) (appZV C.P h 23)) fun z=>OW C cf ops l (s.set d z.1) z.2 K:=OWappendZ 23 3 x y (by decide) isStr3 isInt3
end
theorem zs_Zs (n:Nat):Zs (zs n):=by
 intro x hx
 obtain ⟨l,h1,h2⟩:=List.mem_flatten.1 hx
 have:=(List.mem_replicate.1 h1).2
 subst this
 simp only[zc,List.mem_cons,List.not_mem_nil,or_false] at h2
 rcases h2 with rfl | rfl | rfl | rfl<;>simp
theorem zs_len (n:Nat):(zs n).length=4*n:=by
 induction n with
 | zero=>rfl
 | succ n ih=>rw[zs_succ,List.length_append,ih];simp[zc];omega
theorem apZ23 (h:H) (n:Nat) (h0:0<n) (hn:n≤100000):appZV C.P h 23 (.isl [] .full) (.int .i64 n)=some (.msl h.length 0 4 n none,h++[.cells (zs n) .live]):=by
 have h1:¬(n:Int)=0:=by omega
 have h2:(0:Int)≤n:=by omega
 have h3:n*(bytesV C.P 25).get!=n*56:=by kernel_rfl
 have h4:n*57≤35184372088832:=by omega
 have h5:¬n=0:=by omega
 simp[appZV,appendZ,u23,s25,b25,zv25,z25,szOk,h2,h4,h5,cells_agg,zs,zc]
set_option maxHeartbeats 2000000 in
theorem grow281 (n:Nat) (hn:n≤1000) (h0:H):∃v h',Go.V.Call C 281 [.isl [] .full,.int .i64 n] h0=some (v,h')∧RowZ (4*n) h' v []∧Keep h0 h' none:=by
 by_cases q:n=0
 ·subst q
  refine ⟨.isl [] .full,h0,Call_W rfl Tryz.func281 rfl (by kernel_rfl) (by simp[Tryz.f281]) fun R hR=>?_,.inl ⟨rfl,rfl⟩,.refl _ _⟩
  have l0:lenV C.P 23 (.isl [] .full)=some (.int .i64 0):=len23 [] _
  have c0:capV C.P 23 (.isl [] .full)=some (.int .i64 0):=by simp[capV,u23]
  have w0:IntKind.i64.wrap 0=0:=by decide
  simp[go_sem,initS,l0,c0,w0]
  exact hR _ _ _ (.inr rfl) ⟨.isl [] .full,by simp[resultV,resV,Tryz.f281,go_sem],rfl⟩
 ·refine ⟨.msl h0.length 0 4 0 none,h0++[.cells (zs n) .live],Call_W rfl Tryz.func281 rfl (by kernel_rfl) (by simp[Tryz.f281]) fun R hR=>?_,.inr ⟨h0.length,zs n,rfl,by simp[cellsT],zs_Zs n,by rw[zs_len];simp⟩,.append _ _ _⟩
  have l0:lenV C.P 23 (.isl [] .full)=some (.int .i64 0):=len23 [] _
  have c0:capV C.P 23 (.isl [] .full)=some (.int .i64 0):=by simp[capV,u23]
  have w0:IntKind.i64.wrap 0=0:=by decide
  have wn:IntKind.i64.wrap (n:Int)=n:=wrap_in (by omega)
  have n0:¬(n:Int)<0:=by omega
  have n1:(0:Int)<n:=by omega
  have n2:0<n:=by omega
  have a1:=apZ23 h0 n n2 (by omega)
  have e1:sliceV C.P 23 (.isl [] .full) none (some (.int .i64 0)) none=some (.isl [] .full):=by simp[sliceV,u23,s25,bndO,bndV,szOk]
  have e2:sliceV C.P 23 (.msl h0.length 0 4 n none) none (some (.int .i64 0)) none=some (.msl h0.length 0 4 0 none):=by simp[sliceV,u23,s25,bndO,bndV]
  simp[go_sem,initS,l0,c0,w0,wn,n0,n2,e1,a1,e2]
  exact hR _ _ _ (.inr rfl) ⟨.msl h0.length 0 4 0 none,by simp[resultV,resV,Tryz.f281,go_sem],rfl⟩
end Go.VZ

/- slices.Concat at rows of terms: walked. -/
namespace Go.VZ
open Go Go.V Go.Proofs TL
theorem u301:C.P.underlying 301=some (.slice 23):=by kernel_rfl
theorem z23:zeroOk C.P 23=true:=by kernel_rfl
theorem len301 (l:List (List T)) (x:Ext):lenV C.P 301 (.isl (l.map terms) x)=some (.int .i64 l.length):=by simp[lenV,u301]
theorem idx301 (l:List (List T)) (k:Nat) (hk:k<l.length) (x:Ext):indexAddrV C.P 301 (.isl (l.map terms) x) (.int .i64 k)=some (.iptr (terms l[k]) 0):=by
 simp[indexAddrV,u301,s23,hk,terms,AV.cells]
theorem ld23t (l:List T) (h:H):loadV C.P h 23 (.iptr (terms l) 0)=some (terms l):=by simp[loadV,cellsAt,a23,s23,terms,AV.cells]
theorem build301 (l m:List T) (h:H):buildSliceV C.P h 301 2 [(0,terms l),(1,terms m)]=some (.isl [terms l,terms m] .full,h):=buildSlice_dats u301 s23 z23 rfl (by omega) rfl rfl rfl (by simp) rfl
theorem appZ {N:Nat}{h:H}{v:AV}{xs:List T}(ys:List T) (r:RowZ N h v xs) (hN:N≤80000) (hl:4*(xs.length+ys.length)≤N):∃v' h',appendW C.P true h 23 v (terms ys)=some (v',h')∧RowZ N h' v' (xs++ys)∧Keep h h' (idOf v):=by
 have e4:srcV h 4 (terms ys)=some (cellsT ys,ys.length):=by
  have:szOk 4 (ys.map enc)=true:=by cases ys<;>simp[szOk,enc_cells]
  simp only[srcV,terms,this,if_true,List.length_map]
  rw[List.flatMap_map];rfl
 simp only[appendW,Bool.not_true,Bool.false_eq_true,if_false]
 rcases r with ⟨rfl,rfl⟩ | ⟨id,rest,rfl,hid,hz,hle⟩
 ·by_cases h0:ys.length=0
  ·have:ys=[]:=List.length_eq_zero_iff.1 h0
   subst this
   refine ⟨.isl [] .full,h,?_,.inl ⟨rfl,rfl⟩,.refl _ _⟩
   simp only[knownCap,Bool.false_eq_true,if_false,appendN,u23,s25,b25,z25,e4]
   simp
  ·refine ⟨.msl h.length 0 4 ys.length none,h++[.cells (cellsT ys) .live],?_,.inr ⟨h.length,[],rfl,by simp,fun x hx=>by simp at hx,by simpa using hl⟩,.append _ _ _⟩
   simp only[knownCap,Bool.false_eq_true,if_false,appendN,u23,s25,b25,z25,e4]
   have h2:ys.length*57≤35184372088832:=by omega
   simp[h0,h2,szOk]
 ·have hcl:=cellsT_len xs
  by_cases h0:ys.length=0
  ·have:ys=[]:=List.length_eq_zero_iff.1 h0
   subst this
   refine ⟨.msl id 0 4 xs.length none,h,?_,.inr ⟨id,rest,by simp,by simpa using hid,hz,by simpa using hle⟩,.refl _ _⟩
   simp only[knownCap,Bool.false_eq_true,if_false,appendN,u23,s25,b25,z25,e4]
   simp
  ·have hidl:=(List.getElem?_eq_some_iff.1 hid).1
   refine ⟨.msl h.length 0 4 (xs.length+ys.length) none,h.set id (.cells (cellsT xs++rest) .dead)++[.cells (cellsT (xs++ys)) .live],?_,.inr ⟨h.length,[],by simp,by rw[List.getElem?_append_right (by simp)];simp,fun x hx=>by simp at hx,by simpa using hl⟩,⟨by simp,fun j hj hn=>?_⟩⟩
   ·simp only[knownCap,Bool.false_eq_true,if_false,appendN,u23,s25,b25,z25,e4,hid]
    rw[if_neg (by simp),if_neg h0,if_pos ⟨trivial,trivial,by rw[List.length_append];omega,by omega⟩]
    have e1:(cellsT xs++rest).take (xs.length*4)=cellsT xs:=by rw[List.take_append_of_le_length (by omega),List.take_of_length_le (by omega)]
    rw[e1,show cellsT (xs++ys)=cellsT xs++cellsT ys from List.flatMap_append]
   ·have:id≠j:=fun e=>hn (by rw[e];rfl)
    rw[List.getElem?_append_left (by simpa using hj),List.getElem?_set_ne this]
def sumL (l:List (List T)):Nat:=(l.map List.length).sum
def NA226 (l:List (List T)) (x:Ext) (m:Nat) (st:PT) (_h:H):Prop:=∃k:Nat,m=l.length-k∧k≤l.length∧st.get 0=.isl (l.map terms) x∧st.get 3=.int .i64 (sumL (l.take k))∧st.get 9=.isl (l.map terms) x∧st.get 10=.int .i64 l.length∧st.get 11=.int .i64 k
def NB226 (l:List (List T)) (x:Ext) (m:Nat) (st:PT) (h:H):Prop:=∃(k:Nat) (v:AV),m=l.length-k∧k≤l.length∧st.get 25=.isl (l.map terms) x∧st.get 26=.int .i64 l.length∧st.get 27=.int .i64 k∧st.get 6=v∧RowZ (4*sumL l) h v (l.take k).flatten
theorem sumL_take (l:List (List T)) (k:Nat):sumL (l.take k)≤sumL l:=by
 have:sumL l=sumL (l.take k)+sumL (l.drop k):=by
  unfold sumL
  rw[←List.sum_append,←List.map_append,List.take_append_drop]
 omega
theorem sumL_flat (l:List (List T)):l.flatten.length=sumL l:=by rw[List.length_flatten];rfl
set_option maxRecDepth 8000 in
set_option maxHeartbeats 8000000 in
theorem concat226 (l:List (List T)) (hl:l.length≤1000) (hs:sumL l≤1000):CallP C 226 [.isl (l.map terms) .unk]=some (terms l.flatten):=by
 refine CallP_W rfl Tryz.func226 rfl (by kernel_rfl) (by simp[Tryz.f226]) fun R hR=>?_
 have hln:=len301 l .unk
 simp[go_sem,hln]
 refine W_loop (NA226 l .unk) l.length ⟨0,rfl,Nat.zero_le _,by simp[go_sem],by simp[go_sem,sumL],by simp[go_sem],by simp[go_sem],by simp[go_sem]⟩ ?_
 rintro m st h ⟨k,rfl,hk,g0,g3,g9,g10,g11⟩
 by_cases hlt:k<l.length
 ·have hlt':(k:Int)<l.length:=by omega
  have hix:=idx301 l k hlt .unk
  have hlk:=len23t l[k]
  have e1:sumL (l.take (k+1))=sumL (l.take k)+l[k].length:=by
   unfold sumL
   rw[←List.take_append_getElem hlt,List.map_append,List.sum_append];simp
  have hle:=sumL_take l (k+1)
  have w1:IntKind.i64.wrap ((sumL (l.take k):Int)+l[k].length)=((sumL (l.take (k+1)):Nat):Int):=by rw[wrap_in (by omega)];omega
  have w2:IntKind.i64.wrap ((k:Int)+1)=((k+1:Nat):Int):=by rw[wrap_in (by omega)];omega
  have n0:¬((sumL (l.take (k+1)):Nat):Int)<0:=by omega
  simp[go_sem,g3,g9,g10,g11,hlt',hix,ld23t,hlk,-Int.natCast_add,w1,w2,n0]
  exact ⟨l.length-(k+1),by omega,k+1,rfl,hlt,by simp[go_sem,g0],by simp[go_sem],by simp[go_sem,g9],by simp[go_sem,g10],by simp[go_sem]⟩
 ·have hk2:k=l.length:=by omega
  subst hk2
  rw[List.take_length] at g3
  obtain ⟨v,h2,c1,r1,k1⟩:=grow281 (sumL l) hs h
  have c2:callV C h (.func 281 []) (some [.isl [] .full,.int .i64 (sumL l)])=some (v,h2):=by rw[callV_open (by kernel_rfl) rfl];exact c1
  simp[go_sem,g0,g3,g10,g11,c2,hln]
  refine W_loop (NB226 l .unk) l.length ⟨0,v,rfl,Nat.zero_le _,by simp[go_sem],by simp[go_sem],by simp[go_sem],by simp[go_sem],by simpa using r1⟩ ?_
  clear r1 k1 c1 c2 g0 g3 g9 g10 g11 hk hlt
  rintro m st h ⟨k,v,rfl,hk,g25,g26,g27,g6,r⟩
  by_cases hlt:k<l.length
  ·have hlt':(k:Int)<l.length:=by omega
   have hix:=idx301 l k hlt .unk
   have w2:IntKind.i64.wrap ((k:Int)+1)=((k+1:Nat):Int):=by rw[wrap_in (by omega)];omega
   have e1:(l.take (k+1)).flatten=(l.take k).flatten++l[k]:=by rw[←List.take_append_getElem hlt,List.flatten_append];simp
   have hle:=sumL_take l (k+1)
   have e2:((l.take k).flatten++l[k]).length≤sumL l:=by rw[←e1,sumL_flat];exact hle
   rw[List.length_append] at e2
   obtain ⟨v',h2,ha,r2,_⟩:=appZ l[k] r (by omega) (by omega)
   rw[←e1] at r2
   simp[go_sem,g6,g25,g26,g27,hlt',hix,ld23t,ha,-Int.natCast_add,w2]
   exact ⟨l.length-(k+1),by omega,k+1,v',rfl,hlt,by simp[go_sem,g25],by simp[go_sem,g26],by simp[go_sem],by simp[go_sem],r2⟩
  ·have hk2:k=l.length:=by omega
   subst hk2
   rw[List.take_length] at r
   simp[go_sem,g6,g26,g27]
   refine hR _ _ _ (.inr rfl) ⟨v,?_,snap_rowZ r (by omega)⟩
   rcases r with ⟨_,rfl⟩ | ⟨id,rest,rfl,_⟩<;>simp[resultV,resV,Tryz.f226,go_sem]
theorem call226 (l m:List T) (x:Ext) (hs:l.length+m.length≤1000) (h:H):callV C h (.func 226 []) (some [.isl [terms l,terms m] x])=some (terms (l++m),h):=by
 have e:=concat226 [l,m] (by simp) (by simp[sumL];omega)
 have:[l,m].flatten=l++m:=by simp
 rw[this] at e
 exact callV_strip (by kernel_rfl) rfl (args':=[.isl ([l,m].map terms) .unk]) rfl (by simp[short]) (by simp) e
end Go.VZ

/- Two rows of terms unified: the program's way walked; it answers as the reference does. -/
namespace Go.VZ
open Go Go.V Go.Proofs TL
theorem append248 {h:H}{v:AV}{xs ys:List (T × T)}{x:Ext}(o:OwnR 250 h v (xs.map encB)) (hl:xs.length+ys.length≤100000000000) :
  ∃v' h',appendW C.P false h 248 v (.isl (ys.map encB) x)=some (v',h')∧OwnR 250 h' v' ((xs++ys).map encB)∧Keep h h' (idOf v)∧(idOf v'=idOf v∨idOf v=none∧idOf v'=some h.length):=by
 have:=append_own (x:=x) u248 s250 b250 z250 rfl o (szOk_B xs) (szOk_B ys) (by simp only[List.length_map];omega)
 rwa [←List.map_append] at this
theorem call227 (ps r:List (T × T)) (e:Int) (x:Ext) (h:H) (hs:CallP C 227 [binds ps]=some (.tuple [binds r,.int .i64 e])):callV C h (.func 227 []) (some [.isl (ps.map encB) x])=some (.tuple [binds r,.int .i64 e],h):=
 callV_strip (by kernel_rfl) rfl (args':=[binds ps]) rfl (by simp[short]) (by simp) hs
def NA162 (l m:List T) (d:Nat) (st:PT) (_h:H):Prop:=∃k:Nat,d=(l++m).length-k∧k≤(l++m).length∧st.get 0=terms l∧st.get 1=terms m∧st.get 22=terms (l++m)∧st.get 23=.int .i64 (l++m).length∧st.get 24=.int .i64 k
def NB162 (l m:List T) (d:Nat) (st:PT) (h:H):Prop:=∃(k:Nat) (v:AV),d=l.length-k∧k≤l.length∧st.get 0=terms l∧st.get 1=terms m∧st.get 9=v∧st.get 40=.int .i64 l.length∧st.get 41=.int .i64 k∧OwnR 250 h v (((l.zip m).take k).map encB)
set_option maxRecDepth 8000 in
set_option maxHeartbeats 8000000 in
theorem lists162 (l m:List T) (hvl:∀t∈l,validE t=0) (hvm:∀t∈m,validE t=0) (hlm:l.length=m.length) (hl8:l.length≤8) (r:List (T × T)) (e:Int)
  (hs:CallP C 227 [binds (l.zip m)]=some (.tuple [binds r,.int .i64 e])):CallP C 162 [terms l,terms m]=some (.tuple [binds r,.int .i64 e]):=by
 refine CallP_W rfl Tryz.func162 rfl (by kernel_rfl) (by simp[Tryz.f162]) fun R hR=>?_
 have hll:=len23t l
 have hlm':=len23t m
 rw[←hlm] at hlm'
 have q1:¬(200:Int)<l.length:=by omega
 have q1':¬200<l.length:=by omega
 have hb:=build301 l m
 have hc:=fun x h=>call226 l m x (by omega) h
 have hlc:=len23t (l++m)
 have nt1:notTuple (terms l)=true:=rfl
 have nt2:notTuple (terms m)=true:=rfl
 simp[go_sem,hll,hlm',q1,nt1,nt2,hb,hc,hlc,-List.length_append,-List.map_append]
 refine W_loop (NA162 l m) (l++m).length ⟨0,by simp,by simp,by simp[go_sem],by simp[go_sem],by simp[go_sem],by simp[go_sem],by simp[go_sem]⟩ ?_
 rintro d st h ⟨k,rfl,hk,g0,g1,g22,g23,g24⟩
 by_cases hlt:k<(l++m).length
 ·have hix:=idx23t (l++m) k hlt
  have hva:validE (l++m)[k]=0:=by
   rcases List.mem_append.1 (List.getElem_mem hlt) with q | q
   ·exact hvl _ q
   ·exact hvm _ q
  have cv:=call111 (l++m)[k] (by have:=(nodes_zero hva).2.1;omega)
  have hkl:k<16:=by rw[List.length_append] at hlt;omega
  have w2:IntKind.i64.wrap ((k:Int)+1)=((k+1:Nat):Int):=by rw[wrap_in (by omega)];omega
  generalize (l++m)[k]=t at hix hva cv
  generalize hN:(l++m).length=N at hlt g23
  generalize hE:terms (l++m)=E at hix g22
  have hlt':(k:Int)<N:=by omega
  rw[hva] at cv
  have s1:storeV C.P (h++[.cells zc .live]) 25 (.ptr h.length 0) (enc t)=some (h++[.cells (enc t).cells .live]):=by
   rw[st25zz t (by simp)];simp
  have l1:loadV C.P (h++[.cells (enc t).cells .live]) 25 (.ptr h.length 0)=some (enc t):=ld25h (by simp)
  simp[go_sem,g22,g23,g24,hlt',hix,ld25,zv25f,s1,l1,cv,-Int.natCast_add,w2]
  exact ⟨N-(k+1),by omega,k+1,by rw[hN],by omega,by simp[go_sem,g0],by simp[go_sem,g1],by simp[go_sem,g22,hE],by simp[go_sem,g23,hN],by simp[go_sem]⟩
 ·have hN':k=(l++m).length:=by omega
  rw[←hN'] at g23
  simp[go_sem,g0,g1,g23,g24,hll,hlm']
  refine W_loop (NB162 l m) l.length ⟨0,.isl [] (.tok h.length),by simp,by simp,by simp[go_sem,g0],by simp[go_sem,g1],by simp[go_sem],by simp[go_sem],by simp[go_sem],.inr ⟨h.length,rfl,by simp⟩⟩ ?_
  clear hN' hlt hk g22 g23 g24 g1 g0
  rintro d st h ⟨k,v,rfl,hk,g0,g1,g9,g40,g41,go⟩
  have hzl:(l.zip m).length=l.length:=by simp[hlm]
  by_cases hlt:k<l.length
  ·have hlt':(k:Int)<l.length:=by omega
   have hix:=idx23t l k hlt
   have hiy:=idx23t m k (by omega)
   have w2:IntKind.i64.wrap ((k:Int)+1)=((k+1:Nat):Int):=by rw[wrap_in (by omega)];omega
   obtain ⟨v',h2,hap,ho,hkp,hid⟩:=append248 (ys:=[(l[k],m[k])]) (x:=.full) go (by simp only[List.length_take,List.length_cons,List.length_nil];omega)
   have etk:(l.zip m).take k++[(l[k],m[k])]=(l.zip m).take (k+1):=by
    rw[←List.take_append_getElem (by omega:k<(l.zip m).length)];simp
   rw[etk] at ho
   simp only[List.map_cons,List.map_nil] at hap
   simp[go_sem,g40,g41,hlt']
   refine W_regionS 16 _ (by simp[mixC]) rfl ?_
   simp[go_sem,g0,g1,g9,g41,hix,hiy,ld25,bld250,nt_B,build248_1,hap,-Int.natCast_add,w2]
   refine ⟨?_,l.length-(k+1),by omega,k+1,v',rfl,hlt,by simp[go_sem,g0],by simp[go_sem,g1],by simp[go_sem],by simp[go_sem,g40],by simp[go_sem],ho⟩
   rcases go with rfl | ⟨id,rfl,hd⟩
   ·simp[go_sem,idsOk,ldIds,apIds,ldId,appId,mslId]
   ·simp[go_sem,idsOk,ldIds,apIds,ldId,appId,mslId]
  ·have:k=l.length:=by omega
   subst this
   rw[List.take_of_length_le (by omega)] at go
   obtain ⟨xx,rfl,hxx⟩:=own_ext go
   have cs:=fun h=>call227 (l.zip m) r e xx h hs
   simp[go_sem,g40,g41,g9,cs]
   exact hR _ _ _ (.inr rfl) ⟨.tuple [binds r,.int .i64 e],by simp[resultV,resVs,resV,Tryz.f162,go_sem,binds],snap_tuple rfl rfl (by simp)⟩
theorem varsU_le (l:List T):(varsU l).length≤sizes l:=by
 have h1:(varsU l).length≤(walkTs single l).length:=List.length_filter_le _ _
 have h2:=walkTs_len single (fun _=>by simp[single]) l
 omega
theorem le_trichB {l:List (T × T)}:ascB (srtB l):=by
 have:=List.pairwise_mergeSort (le:=fun x y:T × T=>!decide (y.1.cmp x.1<0)) (fun a b c h1 h2=>by
  simp only[Bool.not_eq_true',decide_eq_false_iff_not] at *
  exact le_trans h1 h2) (fun a b=>by
  rw[Bool.or_eq_true]
  simp only[Bool.not_eq_true',decide_eq_false_iff_not]
  by_cases h:b.1.cmp a.1<0
  ·right
   intro h2
   have:=cmp_anti a.1 b.1
   omega
  ·exact .inl h) l
 exact this.imp fun h=>by simpa [le] using h
theorem choose_codes {a b:T}{e:Int}(h:chooseU a b=.bad e):e=11∨e=12:=by
 unfold chooseU fitU at h
 split at h<;>(try split at h)<;>(try split at h)<;>(try split at h)<;>first | (cases h;done) | (simp only[Ch.bad.injEq] at h;omega)
theorem run_codes {ins:T × T→List (T × T)→List (T × T)}:∀(n:Nat) (ps s r:List (T × T)) (e:Int),runG ins n ps s=some (r,e)→e=0∨(r=[]∧(e=3∨e=11∨e=12))
 | n,[],s,r,e,h=>by
  simp only[runG,Option.some.injEq,Prod.mk.injEq] at h
  exact .inl h.2.symm
 | 0,_::_,s,r,e,h=>by simp[runG] at h
 | n+1,(a,b)::ps,s,r,e,h=>by
  rw[runG] at h
  by_cases h1:a.cmp b=0
  ·rw[if_pos h1] at h;exact run_codes n _ _ _ _ h
  rw[if_neg h1] at h
  by_cases h2:alikeU a b=true
  ·rw[if_pos h2] at h;exact run_codes n _ _ _ _ h
  rw[if_neg h2] at h
  cases hc:chooseU a b with
  | bad e'=>
   rw[hc] at h
   simp only[Option.some.injEq,Prod.mk.injEq] at h
   obtain ⟨rfl,rfl⟩:=h
   have:=choose_codes hc
   exact .inr ⟨rfl,by omega⟩
  | ok x y=>
   rw[hc] at h
   dsimp only at h
   by_cases h3:okU x y ps s=true
   ·rw[if_pos h3] at h;exact run_codes n _ _ _ _ h
   ·rw[if_neg h3] at h
    simp only[Option.some.injEq,Prod.mk.injEq] at h
    obtain ⟨rfl,rfl⟩:=h
    exact .inr ⟨rfl,.inl rfl⟩
theorem srtB_perm (l:List (T × T)):(srtB l).Perm l:=List.mergeSort_perm l _
theorem lists_same {l m:List T}(hvl:∀t∈l,validE t=0) (hvm:∀t∈m,validE t=0) (hlm:l.length=m.length) (hl8:l.length≤8) (hsz:sizes l+sizes m≤200) :
  ∃r e,CallP C 109 [terms l,terms m]=some (.tuple [binds r,.int .i64 e])∧CallP C 162 [terms l,terms m]=some (.tuple [binds r,.int .i64 e])∧(e=0∨e=3∨e=11∨e=12)∧(∀b∈r,validE b.1=0∧validE b.2=0)∧r.length≤200:=by
 have hs2:sizes (l++m)=sizes l+sizes m:=by
  clear hvl hvm hlm hl8 hsz
  induction l with
  | nil=>simp[sizes]
  | cons a l ih=>rw[List.cons_append,sizes,sizes,ih];omega
 have hU:(varsU (l++m)).length≤200:=by have:=varsU_le (l++m);omega
 have hi:=invU_start hvl hvm
 obtain ⟨n,⟨rE,e⟩,hr⟩:=ends _ _ _ _ hi (Nat.le_refl _) (Nat.le_refl _)
 obtain ⟨rO,hrO,hp,ha⟩:=run_perm n _ _ _ rE e (.refl _) .nil hr
 have h169:=solve169 (varsU (l++m)) (l.length+400*(varsU (l++m)).length) (by omega) (by omega) n (l.zip m) rO e hi hrO
 have h227:=solve227 (varsU (l++m)) (l.length+400*(varsU (l++m)).length) (by omega) (by omega) n (l.zip m) rE e hi hr
 have hcod:=run_codes n _ _ _ _ hr
 have good:rE.Pairwise (fun a b=>a.1≠b.1)∧(∀b∈rE,validE b.1=0∧validE b.2=0)∧rE.length≤200:=by
  have nil:rE=[]→rE.Pairwise (fun a b=>a.1≠b.1)∧(∀b∈rE,validE b.1=0∧validE b.2=0)∧rE.length≤200:=fun h=>by subst h;exact ⟨.nil,by simp,by simp⟩
  rcases hcod with rfl | ⟨h,_⟩
  ·rcases run_inv n _ _ rE hi hr with h | h
   ·exact nil h
   ·exact ⟨h.diff,h.bval,by have:=h.slen;omega⟩
  ·exact nil h
 obtain ⟨g1,g2,g3⟩:=good
 have hq:=srtB_perm rE
 have heq:srtB rE=rO:=asc_eq (hq.trans hp) le_trichB ha ((hq.symm.pairwise_iff fun {a b}(k:a.1≠b.1)=>fun e=>k e.symm).1 g1)
 rw[heq] at h227
 refine ⟨rO,e,lists109 l m hvl hvm hlm hl8 rO e h169,lists162 l m hvl hvm hlm hl8 rO e h227,?_,fun b hb=>g2 b (hp.mem_iff.2 hb),by rw[←hp.length_eq];exact g3⟩
 rcases hcod with h | ⟨_,h⟩
 ·exact .inl h
 ·exact .inr h
end Go.VZ

/- New names for variables: the plain law. -/
namespace Go.VZ
open Go Go.V Go.Proofs TL
def valD (l:List UInt8):Nat:=l.foldl (fun a b=>10*a+(b.toNat-48)) 0
theorem valD_dec3 {n:Nat}(hn:n<1000):valD (dec3 n)=n:=by
 unfold dec3
 split
 ·simp only[valD,List.foldl,UInt8.toNat_ofNat'];omega
 ·split
  ·simp only[valD,List.foldl,UInt8.toNat_ofNat'];omega
  ·simp only[valD,List.foldl,UInt8.toNat_ofNat'];omega
def qn (n:Nat):ByteArray:=⟨(113::dec3 n).toArray⟩
theorem qn_inj {m n:Nat}(hm:m<1000) (hn:n<1000) (h:qn m=qn n):m=n:=by
 have h1:dec3 m=dec3 n:=by
  have:=congrArg ByteArray.data h
  simpa [qn] using this
 rw[←valD_dec3 hm,h1,valD_dec3 hn]
theorem qn_name {n:Nat}(hn:n<1000):nameB (qn n)=true:=by
 have key:∀m:Fin 1000,nameB (qn m.val)=true:=by decide +kernel
 exact key ⟨n,hn⟩
def memN (s:ByteArray) (l:List ByteArray):Bool:=l.any fun x=>decide (x=s)
theorem memN_iff {s:ByteArray}{l:List ByteArray}:memN s l=true↔s∈l:=by
 simp[memN]
theorem memN_not {s:ByteArray}{l:List ByteArray}:memN s l=false↔s∉l:=by
 rw[←memN_iff];simp
def tkn (own:List ByteArray) (n:Nat):Nat:=((List.range n).filter fun m=>memN (qn m) own).length
theorem tkn_succ (own:List ByteArray) (n:Nat):tkn own (n+1)=tkn own n+if memN (qn n) own=true then 1 else 0:=by
 unfold tkn
 rw[List.range_succ,List.filter_append,List.length_append]
 congr 1
 by_cases h:memN (qn n) own=true<;>simp[h]
theorem nodup_len {α:Type} [DecidableEq α]:∀ {l m:List α},l.Nodup→(∀x∈l,x∈m)→l.length≤m.length
 | [],_,_,_=>Nat.zero_le _
 | a::l,m,hn,hs=>by
  have h1:=List.nodup_cons.1 hn
  have h2:=nodup_len (l:=l) (m:=m.erase a) h1.2 fun x hx=>(List.mem_erase_of_ne (fun e=>h1.1 (by rw[←e];exact hx))).2 (hs x (List.mem_cons_of_mem _ hx))
  have h3:=List.length_erase_of_mem (hs a List.mem_cons_self)
  have h4:0<m.length:=List.length_pos_of_mem (hs a List.mem_cons_self)
  rw[List.length_cons];omega
theorem tkn_le (own:List ByteArray){n:Nat}(hn:n≤1000):tkn own n≤own.length:=by
 have h1:(((List.range n).filter fun m=>memN (qn m) own).map qn).Nodup:=by
  refine List.pairwise_map.2 (List.Pairwise.imp_of_mem ?_ (List.nodup_range.filter _))
  intro a b ha hb hne e
  have h1:=List.mem_range.1 (List.mem_filter.1 ha).1
  have h2:=List.mem_range.1 (List.mem_filter.1 hb).1
  exact hne (qn_inj (by omega) (by omega) e)
 have h2:=nodup_len h1 (m:=own) fun x hx=>by
  obtain ⟨m,hm,rfl⟩:=List.mem_map.1 hx
  exact memN_iff.1 (List.mem_filter.1 hm).2
 rw[List.length_map] at h2
 exact h2
def skipQ (own:List ByteArray):Nat→Nat→Nat
 | 0,n=>n
 | f+1,n=>if memN (qn n) own=true then skipQ own f (n+1) else n
def nQ (own:List ByteArray) (n:Nat):Nat:=skipQ own (own.length+1) n
def namesQ (own:List ByteArray):List T→Nat→List (T × T)
 | [],_=>[]
 | x::l,n=>(x,.mk 1 (qn (nQ own n)) x.sort [])::namesQ own l (nQ own n+1)
def NumQ (own:List ByteArray) (k n:Nat):Prop:=n≤k+tkn own n∧n<1000
theorem NumQ.le {own:List ByteArray}{k n:Nat}(h:NumQ own k n):n≤k+own.length:=by
 have:=tkn_le own (Nat.le_of_lt h.2)
 have:=h.1
 omega
theorem NumQ.skip {own:List ByteArray}{k n:Nat}(h:NumQ own k n) (hk:k+own.length<999) (hm:memN (qn n) own=true):NumQ own k (n+1):=by
 have h1:=h.le
 have h2:=h.1
 have h3:=tkn_succ own n
 rw[if_pos hm] at h3
 exact ⟨by omega,by omega⟩
theorem NumQ.use {own:List ByteArray}{k n:Nat}(h:NumQ own k n) (hk:k+own.length<999):NumQ own (k+1) (n+1):=by
 have h1:=h.le
 have h2:=h.1
 have h3:=tkn_succ own n
 exact ⟨by omega,by omega⟩
theorem skipQ_spec {own:List ByteArray}{k:Nat}(hk:k+own.length<999):∀(f n:Nat),NumQ own k n→own.length+1≤f+tkn own n→memN (qn (skipQ own f n)) own=false∧NumQ own k (skipQ own f n)∧n≤skipQ own f n
 | 0,n,h,hf=>by
  have:=tkn_le own (Nat.le_of_lt h.2)
  omega
 | f+1,n,h,hf=>by
  rw[skipQ]
  by_cases hm:memN (qn n) own=true
  ·rw[if_pos hm]
   have h3:=tkn_succ own n
   rw[if_pos hm] at h3
   obtain ⟨a,b,c⟩:=skipQ_spec hk f (n+1) (h.skip hk hm) (by omega)
   exact ⟨a,b,by omega⟩
  ·rw[if_neg hm]
   exact ⟨by simpa using hm,h,Nat.le_refl _⟩
theorem nQ_spec {own:List ByteArray}{k n:Nat}(hk:k+own.length<999) (h:NumQ own k n):memN (qn (nQ own n)) own=false∧NumQ own k (nQ own n)∧n≤nQ own n:=skipQ_spec hk _ _ h (by omega)
theorem namesQ_fst (own:List ByteArray):∀(l:List T) (n:Nat),(namesQ own l n).map (·.1)=l
 | [],_=>rfl
 | x::l,n=>by rw[namesQ,List.map_cons,namesQ_fst own l]
theorem namesQ_len (own:List ByteArray) (l:List T) (n:Nat):(namesQ own l n).length=l.length:=by
 have:=congrArg List.length (namesQ_fst own l n)
 simpa using this
theorem namesQ_mem {own:List ByteArray}:∀ {l:List T}{k n:Nat},k+l.length+own.length<999→NumQ own k n→∀b∈namesQ own l n,∃m,m<1000∧b.2=.mk 1 (qn m) b.1.sort []
 | [],_,_,_,_,b,hb=>by simp[namesQ] at hb
 | x::l,k,n,hk,h,b,hb=>by
  simp only[List.length_cons] at hk
  obtain ⟨h1,h2,h3⟩:=nQ_spec (by omega) h
  rw[namesQ] at hb
  rcases List.mem_cons.1 hb with rfl | hb
  ·exact ⟨_,h2.2,rfl⟩
  ·exact namesQ_mem (k:=k+1) (by omega) (h2.use (by omega)) b hb
theorem getB_cases:∀(l:List (T × T)) (t:T),getB l t=t∨∃b∈l,b.1.cmp t=0∧getB l t=b.2
 | [],t=>.inl rfl
 | b::l,t=>by
  rw[getB]
  by_cases h:b.1.cmp t=0
  ·rw[if_pos h];exact .inr ⟨b,List.mem_cons_self,h,rfl⟩
  ·rw[if_neg h]
   rcases getB_cases l t with e | ⟨c,hc,e⟩
   ·exact .inl e
   ·exact .inr ⟨c,List.mem_cons_of_mem _ hc,e⟩
theorem nodesEs_all:∀ {l:List T},(∀k∈l,nodesE k=0)→nodesEs l=0
 | [],_=>rfl
 | a::l,h=>by rw[nodesEs];exact thn_zero.2 ⟨h a List.mem_cons_self,nodesEs_all fun k hk=>h k (List.mem_cons_of_mem _ hk)⟩
theorem sizes_map {f:T→T}:∀ {l:List T},(∀k∈l,(f k).size=k.size)→sizes (l.map f)=sizes l
 | [],_=>rfl
 | a::l,h=>by rw[List.map_cons,sizes,sizes,h a List.mem_cons_self,sizes_map fun k hk=>h k (List.mem_cons_of_mem _ hk)]
theorem depths_map {f:T→T}:∀ {l:List T},(∀k∈l,(f k).depth=k.depth)→depths (l.map f)=depths l
 | [],_=>rfl
 | a::l,h=>by rw[List.map_cons,depths,depths,h a List.mem_cons_self,depths_map fun k hk=>h k (List.mem_cons_of_mem _ hk)]
theorem badN_congr {a b:T}(hk:a.kind=b.kind) (hs:a.sort=b.sort) (hl:a.kids.length=b.kids.length):badN a=badN b:=by unfold badN;rw[hk,hs,hl]
theorem rename_ok {l:List (T × T)}(hl:∀b∈l,∃m,m<1000∧b.2=.mk 1 (qn m) b.1.sort []):∀t:T,nodesE t=0→(putB l t).size=t.size∧(putB l t).depth=t.depth∧nodesE (putB l t)=0:=by
 refine T.ind fun t ih h=>?_
 have hn:=nodesE_node h
 rw[putB_eq]
 by_cases hk:t.kind=1
 ·rw[if_pos hk]
  have hkid:=node_leaf hn (.inl hk)
  rcases getB_cases l t with e | ⟨b,hb,h0,e⟩
  ·rw[e];exact ⟨rfl,rfl,h⟩
  ·obtain ⟨m,hm,e2⟩:=hl b hb
   have hbt:b.1=t:=cmp_zero.1 h0
   rw[e,e2,hbt]
   refine ⟨?_,?_,?_⟩
   ·rw[size_kids t,hkid,T.size]
   ·rw[depth_eq t,hkid,T.depth]
   ·rw[nodesE_eq]
    refine thn_zero.2 ⟨?_,rfl⟩
    unfold nodeE at hn ⊢
    have h1:badN t=false:=by
     by_cases q:badN t=true
     ·rw[if_pos q] at hn;cases hn
     ·simpa using q
    have h2:badN (.mk 1 (qn m) t.sort [])=false:=by
     rw[←h1];exact badN_congr hk.symm rfl (by rw[hkid];rfl)
    rw[h2,if_neg (by simp)]
    simp only[T.name,T.kids,qn_name hm]
    simp
 ·rw[if_neg hk]
  rw[nodesE_eq] at h
  obtain ⟨h1,h2⟩:=thn_zero.1 h
  have hz:=nodesEs_zero h2
  have hi:=fun k hk=>ih k hk (hz k hk)
  refine ⟨?_,?_,?_⟩
  ·rw[size_kids t,T.size,sizes_map fun k hk=>(hi k hk).1]
  ·rw[depth_eq t,T.depth,depths_map fun k hk=>(hi k hk).2.1]
  ·rw[nodesE_eq]
   refine thn_zero.2 ⟨?_,nodesEs_all fun k hk=>?_⟩
   ·have e1:badN (.mk t.kind t.name t.sort (t.kids.map (putB l)))=badN t:=badN_congr rfl rfl (by simp[T.kids])
    unfold nodeE
    rw[e1]
    simp only[T.name,T.kids,List.length_map]
    exact hn
   ·obtain ⟨k0,hk0,rfl⟩:=List.mem_map.1 hk
    exact (hi k0 hk0).2.2
theorem rename_valid {l:List (T × T)}(hl:∀b∈l,∃m,m<1000∧b.2=.mk 1 (qn m) b.1.sort []){t:T}(h:validE t=0):validE (putB l t)=0∧(putB l t).size=t.size:=by
 obtain ⟨h1,h2,h3⟩:=nodes_zero h
 obtain ⟨a,b,c⟩:=rename_ok hl t h1
 refine ⟨?_,a⟩
 unfold validE
 rw[c,if_neg (by omega)];rfl
theorem getB_filter:∀ {l:List (T × T)}(t:T),(l.map (·.1)).Nodup→getB (l.filter fun b=>decide (b.2≠b.1)) t=getB l t
 | [],_,_=>rfl
 | b::l,t,hn=>by
  rw[List.map_cons] at hn
  obtain ⟨h1,h2⟩:=List.nodup_cons.1 hn
  have ih:=getB_filter t h2
  rw[List.filter_cons]
  by_cases e:b.2=b.1
  ·rw[if_neg (by simp[e]),ih,getB]
   by_cases h0:b.1.cmp t=0
   ·rw[if_pos h0,e]
    have hbt:b.1=t:=cmp_zero.1 h0
    rcases getB_cases l t with q | ⟨c,hc,hc0,_⟩
    ·rw[q,hbt]
    ·exfalso
     have:c.1=t:=cmp_zero.1 hc0
     exact h1 (List.mem_map.2 ⟨c,hc,by rw[this,hbt]⟩)
   ·rw[if_neg h0]
  ·rw[if_pos (by simp[e]),getB,getB,ih]
theorem putB_filter {l:List (T × T)}(hn:(l.map (·.1)).Nodup):∀t:T,putB (l.filter fun b=>decide (b.2≠b.1)) t=putB l t:=by
 refine T.ind fun t ih=>?_
 rw[putB_eq,putB_eq,getB_filter t hn]
 split
 ·rfl
 ·congr 1
  exact List.map_congr_left ih
theorem putCl_filter {l:List (T × T)}(hn:(l.map (·.1)).Nodup) (c:Cl):putCl (l.filter fun b=>decide (b.2≠b.1)) c=putCl l c:=by
 have hf:∀f:Fa,putFa (l.filter fun b=>decide (b.2≠b.1)) f=putFa l f:=fun f=>by
  unfold putFa
  congr 1
  exact List.map_congr_left fun t _=>putB_filter hn t
 unfold putCl
 rw[hf]
 congr 1
 exact List.map_congr_left fun f _=>hf f
end Go.VZ

/- The decimal digits of small numbers, the document's way: run closed. -/
namespace Go.VZ
open Go Go.V Go.Proofs TL
noncomputable def runD (m:Nat) (f:FuncId) (args:List AV) (v:AV):Bool:=match callR C m f args [] with
 | some (r,h)=>match snap (freezeAll h) deep r with
  | some u=>AV.same u v
  | none=>false
 | none=>false
theorem runD_P {m:Nat}{f:FuncId}{args:List AV}{s:ByteArray}(h:runD m f args (.str s)=true):CallP C f args=some (.str s):=by
 unfold runD at h
 split at h<;>first | (cases h;done) | skip
 rename_i r h1 hx
 split at h<;>first | (cases h;done) | skip
 rename_i u hu
 have e:u=.str s:=by
  cases u<;>simp[AV.same] at h
  rw[h]
 subst e
 unfold CallP
 rw[Call_of m hx]
 exact hu
theorem digits_a:(List.range' 0 50).all (fun n=>runD 100 167 [.int .i64 n] (.str ⟨(dec3 n).toArray⟩))=true:=by kernel_rfl
theorem digits_b:(List.range' 50 50).all (fun n=>runD 100 167 [.int .i64 n] (.str ⟨(dec3 n).toArray⟩))=true:=by kernel_rfl
theorem digits_c:(List.range' 100 50).all (fun n=>runD 100 167 [.int .i64 n] (.str ⟨(dec3 n).toArray⟩))=true:=by kernel_rfl
theorem digits_d:(List.range' 150 50).all (fun n=>runD 100 167 [.int .i64 n] (.str ⟨(dec3 n).toArray⟩))=true:=by kernel_rfl
theorem digits167 {n:Nat}(hn:n<200):CallP C 167 [.int .i64 n]=some (.str ⟨(dec3 n).toArray⟩):=by
 have key:runD 100 167 [.int .i64 n] (.str ⟨(dec3 n).toArray⟩)=true:=by
  by_cases h1:n<50
  ·exact List.all_eq_true.1 digits_a n (by rw[List.mem_range'_1];omega)
  by_cases h2:n<100
  ·exact List.all_eq_true.1 digits_b n (by rw[List.mem_range'_1];omega)
  by_cases h3:n<150
  ·exact List.all_eq_true.1 digits_c n (by rw[List.mem_range'_1];omega)
  ·exact List.all_eq_true.1 digits_d n (by rw[List.mem_range'_1];omega)
 exact runD_P key
theorem call167 {n:Nat}(hn:n<200) (h:H):callV C h (.func 167 []) (some [.int .i64 n])=some (.str ⟨(dec3 n).toArray⟩,h):=callV_strip (by kernel_rfl) rfl rfl rfl (by simp) (digits167 hn)
end Go.VZ

/- The document's helpers for new names: walked. -/
namespace Go.VZ
open Go Go.V Go.Proofs TL
theorem qcat (n:Nat):(⟨#[113]⟩:ByteArray)++⟨(dec3 n).toArray⟩=qn n:=by
 apply ByteArray.ext
 rw[ByteArray.data_append]
 simp[qn]
theorem var39 (n:ByteArray) (s:Int):CallP C 39 [.str n,.int .i64 s]=some (enc (.mk 1 n s [])):=by
 refine CallP_W rfl Tryz.func39 rfl (by kernel_rfl) (by simp[Tryz.f39]) fun R hR=>?_
 have b:buildV C.P 25 [(0,.int .i64 1),(1,.str n),(2,.int .i64 s)]=some (.agg [.int .i64 1,.str n,.int .i64 s,.isl [] .full]):=by
  have e:∀(n:ByteArray) (s:Int),buildV C.P 25 [(0,.int .i64 1),(1,.str n),(2,.int .i64 s)]=some (.agg [.int .i64 1,.str n,.int .i64 s,.isl [] .full]):=fun n s=>by kernel_rfl
  exact e _ _
 have s1:storeV C.P [.cells [.int .i64 0,.str ⟨#[]⟩,.int .i64 0,.isl [] .full] .live] 25 (.ptr 0 0) (.agg [.int .i64 1,.str n,.int .i64 s,.isl [] .full])=some [.cells [.int .i64 1,.str n,.int .i64 s,.isl [] .full] .live]:=by simp[storeV,s25]
 have l1:loadV C.P [.cells [.int .i64 1,.str n,.int .i64 s,.isl [] .full] .live] 25 (.ptr 0 0)=some (.agg [.int .i64 1,.str n,.int .i64 s,.isl [] .full]):=by simp[loadV,cellsAt,a25,s25]
 simp[go_sem,initS,zv25,b,s1,notTuple]
 refine hR _ _ _ (.inr rfl) ⟨.agg [.int .i64 1,.str n,.int .i64 s,.isl [] .full],by simp[resultV,resV,Tryz.f39,go_sem,l1],?_⟩
 exact snap_dat (by rw[enc_eq];rfl) rfl
theorem call39 (n:ByteArray) (s:Int) (h:H):callV C h (.func 39 []) (some [.str n,.int .i64 s])=some (enc (.mk 1 n s []),h):=callV_strip (by kernel_rfl) rfl rfl rfl (by simp) (var39 n s)
def NI166 (l:List T) (s:ByteArray) (m:Nat) (st:PT) (_h:H):Prop:=∃k:Nat,m=l.length-k∧k≤l.length∧st.get 0=terms l∧st.get 1=.str s∧st.get 5=.int .i64 k∧memN s (l.map T.name)=memN s ((l.drop k).map T.name)
theorem fa25_1i (e:AV):fieldAddrV C.P 25 (.iptr e 0) 1=some (.iptr e 1):=by kernel_rfl
theorem fa25_2i (e:AV):fieldAddrV C.P 25 (.iptr e 0) 2=some (.iptr e 2):=by kernel_rfl
theorem ld9i (t:T) (h:H):loadV C.P h 9 (.iptr (enc t) 1)=some (.str t.name):=by simp[loadV,cellsAt,a9,s9,enc_cells]
theorem ld3i2 (t:T) (h:H):loadV C.P h 3 (.iptr (enc t) 2)=some (.int .i64 t.sort):=by simp[loadV,cellsAt,a3,s3,enc_cells]
set_option maxHeartbeats 2000000 in
theorem taken166 (l:List T) (s:ByteArray) (hl:l.length<4000000):CallP C 166 [terms l,.str s]=some (.bool (memN s (l.map T.name))):=by
 refine CallP_W rfl Tryz.func166 rfl (by kernel_rfl) (by simp[Tryz.f166]) fun R hR=>?_
 have fin:∀(st:PT) (h:H) (b:Bool),st.get 4=.bool b→memN s (l.map T.name)=b→R .ret st h:=fun st h b h4 hb=>hR _ _ _ (.inr rfl) ⟨.bool b,by simp[resultV,resV,Tryz.f166,h4],by
  rw[hb];exact snap_dat rfl rfl⟩
 simp[go_sem]
 refine W_loop (NI166 l s) l.length ⟨0,rfl,Nat.zero_le _,by simp[go_sem],by simp[go_sem],by simp[go_sem],by simp⟩ ?_
 rintro m st h ⟨k,rfl,hk,g0,g1,g5,hd⟩
 by_cases hlt:k<l.length
 ·have hlt':(k:Int)<l.length:=by omega
  have hix:=idx23t l k hlt
  have w2:IntKind.i64.wrap ((k:Int)+1)=((k+1:Nat):Int):=by rw[wrap_in (by omega)];omega
  rw[List.drop_eq_getElem_cons hlt,List.map_cons,memN,memN,List.any_cons] at hd
  by_cases q:l[k].name=s
  ·simp[go_sem,g0,g1,g5,len23t,hlt',hix,fa25_1i,ld9i,eql_str,q]
   exact fin _ _ true (by simp[go_sem]) (by rw[memN,hd];simp[q])
  ·simp[go_sem,g0,g1,g5,len23t,hlt',hix,fa25_1i,ld9i,eql_str,q,-Int.natCast_add,w2]
   exact ⟨l.length-(k+1),by omega,k+1,rfl,hlt,by simp[go_sem,g0],by simp[go_sem,g1],by simp[go_sem],by rw[memN,hd];simp[q,memN]⟩
 ·have:k=l.length:=by omega
  subst this
  simp[go_sem,g0,g5,len23t]
  exact fin _ _ false (by simp[go_sem]) (by rw[hd];simp[memN])
theorem call166 (l:List T) (s:ByteArray) (hl:l.length<4000000) (h:H):callV C h (.func 166 []) (some [terms l,.str s])=some (.bool (memN s (l.map T.name)),h):=callV_strip (by kernel_rfl) rfl rfl rfl (by simp) (taken166 l s hl)
def NI168 (x y:T) (l:List (T × T)) (m:Nat) (st:PT) (h:H):Prop:=∃(k:Nat) (v:AV) (o:List (T × T)) (d:Bool),m=l.length-k∧k≤l.length∧o.length≤k+d.toNat∧h[0]?=some (.cells (enc x).cells .live)∧h[1]?=some (.cells (enc y).cells .live)∧st.get 0=binds l∧st.get 4=.ptr 0 0∧st.get 5=.ptr 1 0∧st.get 7=v∧st.get 8=.bool d∧st.get 9=.int .i64 k ∧
 OwnR 86 h v (o.map encB)∧insO (x,y) l=(if d=true then o++l.drop k else o++insO (x,y) (l.drop k))
set_option maxRecDepth 8000 in
set_option maxHeartbeats 4000000 in
theorem bind168 (x y:T) (l:List (T × T)) (hx:x.size<4000000) (hy:y.size<4000000) (hs:small l) (hl:l.length<4000000) (hne:x.cmp y≠0):CallP C 168 [binds l,enc x,enc y]=some (binds (insO (x,y) l)):=by
 refine CallP_W rfl Tryz.func168 rfl (by kernel_rfl) (by simp[Tryz.f168]) fun R hR=>?_
 have lx:loadV C.P [.cells (enc x).cells .live,.cells (enc y).cells .live,.tok 0 86] 25 (.ptr 0 0)=some (enc x):=ld25h rfl
 have ly:loadV C.P [.cells (enc x).cells .live,.cells (enc y).cells .live,.tok 0 86] 25 (.ptr 1 0)=some (enc y):=ld25h rfl
 have cs:=call69 x y hx hy
 simp[go_sem,box25f,lx,ly,cs,hne]
 refine W_loop (NI168 x y l) l.length ⟨0,.isl [] (.tok 3),[],false,rfl,Nat.zero_le _,by simp,rfl,rfl,by simp[go_sem],by simp[go_sem],by simp[go_sem],by simp[go_sem],by simp[go_sem],by simp[go_sem],.inr ⟨3,rfl,rfl⟩,by simp⟩ ?_
 clear lx ly
 rintro m st h ⟨k,v,o,d,rfl,hk,hol,m0,m1,g0,g4,g5,g7,g8,g9,go,law⟩
 have lx:=ld25h m0
 have ly:=ld25h m1
 have hdt:d.toNat≤1:=by cases d<;>decide
 by_cases hlt:k<l.length
 ·have hlt':(k:Int)<l.length:=by omega
  have hix:indexAddrV C.P 46 (binds l) (.int .i64 k)=some (.iptr (encB l[k]) 0):=idx46 l k hlt _
  have hb:=hs _ (List.getElem_mem hlt)
  have w2:IntKind.i64.wrap ((k:Int)+1)=((k+1:Nat):Int):=by rw[wrap_in (by omega)];omega
  have edr:=List.drop_eq_getElem_cons hlt
  have c118:=call118 x l[k].1 hx hb.1
  have lb:=ld25i0 l[k]
  obtain ⟨v1,h1,ha1,ho1,hk1,hd1⟩:=append46 (ys:=[l[k]]) (x:=.full) go (by simp only[List.length_cons,List.length_nil];omega)
  simp only[List.map_cons,List.map_nil] at ha1
  cases d
  ·by_cases q:x.cmp l[k].1<0
   ·obtain ⟨v2,h2,ha2,ho2,hk2,hd2⟩:=append46 (ys:=[(x,y)]) (x:=.full) go (by simp only[List.length_cons,List.length_nil];omega)
    obtain ⟨v3,h3,ha3,ho3,hk3,hd3⟩:=append46 (ys:=[l[k]]) (x:=.full) ho2 (by simp only[List.length_cons,List.length_nil,List.length_append];omega)
    simp only[List.map_cons,List.map_nil] at ha2 ha3
    have bl:=bld86 x y
    simp[go_sem,g0,g4,g5,g7,g8,g9,len46b,hlt',hix,fa86i_0,lx,ly,lb,c118,q,bl,nt_B,build46_1,ha2,ha3,ld86,-Int.natCast_add,w2]
    refine ⟨l.length-(k+1),by omega,k+1,v3,_,true,rfl,hlt,?_,hk3.get (hk2.get m0 (own_not go m0)) (own_not ho2 (hk2.get m0 (own_not go m0))),hk3.get (hk2.get m1 (own_not go m1)) (own_not ho2 (hk2.get m1 (own_not go m1))),by simp[go_sem,g0],by simp[go_sem,g4],by simp[go_sem,g5],by simp[go_sem],by simp[go_sem],by simp[go_sem],ho3,?_⟩
    ·simp at hol ⊢;omega
    ·rw[law,edr];simp[insO,q]
   ·simp[go_sem,g0,g4,g7,g8,g9,len46b,hlt',hix,fa86i_0,lx,lb,c118,q,nt_B,build46_1,ha1,ld86,-Int.natCast_add,w2]
    refine ⟨l.length-(k+1),by omega,k+1,v1,_,false,rfl,hlt,by simp at hol ⊢;omega,hk1.get m0 (own_not go m0),hk1.get m1 (own_not go m1),by simp[go_sem,g0],by simp[go_sem,g4],by simp[go_sem,g5],by simp[go_sem],by simp[go_sem,g8],by simp[go_sem],ho1,?_⟩
    rw[law,edr];simp[insO,q]
  ·simp[go_sem,g0,g4,g7,g8,g9,len46b,hlt',hix,lx,nt_B,build46_1,ha1,ld86,-Int.natCast_add,w2]
   refine ⟨l.length-(k+1),by omega,k+1,v1,_,true,rfl,hlt,by simp at hol ⊢;omega,hk1.get m0 (own_not go m0),hk1.get m1 (own_not go m1),by simp[go_sem,g0],by simp[go_sem,g4],by simp[go_sem,g5],by simp[go_sem],by simp[go_sem,g8],by simp[go_sem],ho1,?_⟩
   rw[law,edr];simp
 ·have:k=l.length:=by omega
  subst this
  have fin:∀(st:PT) (h:H) (r:List (T × T)) (x2:Ext),st.get 6=.isl (r.map encB) x2→insO (x,y) l=r→R .ret st h:=fun st h r x2 h6 he=>by
   refine hR _ _ _ (.inr rfl) ⟨.isl (r.map encB) x2,by simp[resultV,resV,Tryz.f168,h6],?_⟩
   rw[he];exact snap_dat rfl rfl
  cases d
  ·obtain ⟨v2,h2,ha2,ho2,hk2,hd2⟩:=append46 (ys:=[(x,y)]) (x:=.full) go (by simp only[List.length_cons,List.length_nil];omega)
   simp only[List.map_cons,List.map_nil] at ha2
   obtain ⟨x2,rfl⟩:=ho2.isl
   have bl:=bld86 x y
   simp[go_sem,g0,g4,g5,g7,g8,g9,len46b,lx,ly,bl,nt_B,build46_1,ha2]
   exact fin _ _ (o++[(x,y)]) x2 (by simp[go_sem]) (by rw[law];simp[insO])
  ·obtain ⟨x2,rfl⟩:=go.isl
   simp[go_sem,g0,g7,g8,g9,len46b]
   exact fin _ _ o x2 (by simp[go_sem]) (by rw[law];simp)
theorem call168 (x y:T) (l:List (T × T)) (e:Ext) (hx:x.size<4000000) (hy:y.size<4000000) (hs:small l) (hl:l.length<4000000) (hne:x.cmp y≠0) (h:H):callV C h (.func 168 []) (some [.isl (l.map encB) e,enc x,enc y])=some (binds (insO (x,y) l),h):=
 callV_strip (by kernel_rfl) rfl (args':=[binds l,enc x,enc y]) (by rw[enc_eq x,enc_eq y];rfl) (by simp[short_enc];rfl) (by simp) (bind168 x y l hx hy hs hl hne)
end Go.VZ

/- New names for the variables of a clause: the document's way walked. -/
namespace Go.VZ
open Go Go.V Go.Proofs TL
theorem add_str (x y:Operand) (a b:ByteArray) (hs:a.size+b.size<9223372036854775807):binV C.P .add 9 x y (.str a) (.str b)=some (.str (a++b)):=by
 have e:pureVal C.P (do eqGuard BinOp.add 9 x y (.string a) (.string b);binOp .add 9 (.string a) (.string b))=some (.string (a++b)):=by
  have h1:¬(9223372036854775807:Int)<(a.size:Int)+b.size:=by omega
  simp[eqGuard,binOp,Op.stringOp,h1]
  try rfl
 simp only[binV,toVal,toScalar,e,ofConst,ofScalar]
theorem dec3_len (n:Nat):(dec3 n).length≤3:=by unfold dec3;split<;>(try split)<;>simp
theorem addq (x y:Operand) (n:Nat):binV C.P .add 9 x y (.str ⟨#[113]⟩) (.str ⟨(dec3 n).toArray⟩)=some (.str (qn n)):=by
 rw[add_str,qcat]
 have h1:(⟨#[113]⟩:ByteArray).size=1:=rfl
 have h2:(⟨(dec3 n).toArray⟩:ByteArray).size=(dec3 n).length:=by simp[ByteArray.size]
 have:=dec3_len n
 omega
theorem insO_end {b:T × T}:∀ {l:List (T × T)},(∀c∈l,¬b.1.cmp c.1<0)→insO b l=l++[b]
 | [],_=>rfl
 | c::l,h=>by
  rw[insO,if_neg (h c List.mem_cons_self),insO_end fun d hd=>h d (List.mem_cons_of_mem _ hd)];rfl
def difB (b:T × T):Bool:=decide (b.2≠b.1)
def NO108 (c:Cl) (f:Fa) (own vs:List T) (L:List (T × T)) (m:Nat) (st:PT) (h:H):Prop:=∃(k n:Nat) (x:Ext),m=vs.length-k∧k≤vs.length∧NumQ (own.map T.name) k n∧L.drop k=namesQ (own.map T.name) (vs.drop k) n ∧
 h[0]?=some (.cells (clC c) .live)∧h[1]?=some (.cells (faC f) .live)∧h[2]?=some (.cells z37c .live)∧st.get 2=.ptr 0 0∧st.get 3=.ptr 1 0∧st.get 4=.ptr 2 0∧st.get 5=terms own∧st.get 6=terms vs∧st.get 7=.isl (((L.take k).filter difB).map encB) x∧st.get 8=.int .i64 n∧st.get 9=.int .i64 k
def NN108 (c:Cl) (f:Fa) (own vs:List T) (L:List (T × T)) (k n':Nat) (x:Ext) (m:Nat) (st:PT) (h:H):Prop:=∃n:Nat,NumQ (own.map T.name) k n∧skipQ (own.map T.name) m n=n'∧(own.map T.name).length+1≤m+tkn (own.map T.name) n ∧
 h[0]?=some (.cells (clC c) .live)∧h[1]?=some (.cells (faC f) .live)∧h[2]?=some (.cells z37c .live)∧st.get 2=.ptr 0 0∧st.get 3=.ptr 1 0∧st.get 4=.ptr 2 0∧st.get 5=terms own∧st.get 6=terms vs∧st.get 7=.isl (((L.take k).filter difB).map encB) x∧st.get 8=.int .i64 n∧st.get 9=.int .i64 k
theorem sizes_le_mul {n:Nat}:∀ {l:List T},(∀t∈l,t.size≤n)→sizes l≤n*l.length
 | [],_=>by simp[sizes]
 | a::l,h=>by
  have h1:=h a List.mem_cons_self
  have h2:=sizes_le_mul fun t ht=>h t (List.mem_cons_of_mem _ ht)
  rw[sizes,List.length_cons,Nat.mul_succ];omega
theorem len_sizes:∀l:List T,l.length≤sizes l
 | []=>by simp[sizes]
 | a::l=>by have:=size_pos a;have:=len_sizes l;rw[sizes,List.length_cons];omega
theorem call71x (l:List (T × T)) (c:Cl) (x:Ext) (hs:small l) (hl:l.length<4000000) (hv:∀f∈factsOf c,smallT f.terms) (hb:c.body.length≤10000) (h:H):callV C h (.func 71 []) (some [.isl (l.map encB) x,encCl c])=some (encCl (putCl l c),h):=callV_strip (by kernel_rfl) rfl (args':=[binds l,encCl c]) rfl (by simp[short];rfl) (by simp) (apply71 l c hs hl hv hb)
theorem st37zy {h:H}{i:Nat}(c:Cl) (hi:h[i]?=some (.cells z37c .live)):storeV C.P h 37 (.ptr i 0) (encCl c)=some (h.set i (.cells (clC c) .live)):=by
 simp[storeV,hi,s37,encCl,clC,faC,z37c]
set_option maxRecDepth 8000 in
set_option maxHeartbeats 16000000 in
theorem apart108 (c:Cl) (f:Fa) (hc:okC c) (hf:∀t∈f.terms,t.size≤400) (hfl:f.terms.length≤100) (hsz:(varsRs (termsOf c)).length+(varsRs f.terms).length<190):CallP C 108 [encCl c,encFa f]=some (encCl (putCl (namesQ ((varsRs f.terms).map T.name) (varsRs (termsOf c)) 0) c)):=by
 refine CallP_W rfl Tryz.func108 rfl (by kernel_rfl) (by simp[Tryz.f108]) fun R hR=>?_
 have hfs:sizes f.terms<4000000:=by have:=sizes_le_mul (n:=400) hf;omega
 obtain ⟨h0,eh0⟩:∃g:H,g=[.cells (clC c) .live,.cells (faC f) .live,.cells z37c .live]:=⟨_,rfl⟩
 have m0:h0[0]?=some (.cells (clC c) .live):=by rw[eh0];rfl
 have m1:h0[1]?=some (.cells (faC f) .live):=by rw[eh0];rfl
 have m2:h0[2]?=some (.cells z37c .live):=by rw[eh0];rfl
 have l1:=ld23f m1
 have l0:=ld37c m0
 rw[eh0] at l1 l0
 have c1:=fun h=>call68 f.terms .unk (fun t ht=>by have:=hf t ht;omega) hfs h
 have hst:=hc.small
 have htl:(termsOf c).length<4000000:=by have:=len_sizes (termsOf c);have:=hc.2.1;omega
 have c2:=call56 c htl (by have:=hc.1;omega)
 have c3:=fun h=>call68 (termsOf c) .unk (fun t ht=>by have:=hst t ht;omega) (by have:=hc.2.1;omega) h
 have vown:∀t∈varsRs f.terms,t.size<4000000:=varsRs_small fun t ht=>by have:=hf t ht;omega
 have vvs:∀t∈varsRs (termsOf c),t.size≤400:=fun t ht=>by have:=varsRs_small (n:=401) (fun t ht=>by have:=hst t ht;omega) t ht;omega
 have hsrt:(varsRs (termsOf c)).Pairwise lt:=setS_sorted _
 change ∀h,callV C h (.func 68 []) (some [terms f.terms])=_ at c1
 change ∀h,callV C h (.func 68 []) (some [terms (termsOf c)])=_ at c3
 have bx:=box35 f
 simp[go_sem,box37,bx,zv37,cells_agg,l0,l1,c1,c2,c3]
 clear c1 c2 c3 l0 l1 bx eh0 m0 m1 m2 h0
 have hnd:((namesQ ((varsRs f.terms).map T.name) (varsRs (termsOf c)) 0).map (·.1)).Nodup:=by
  rw[namesQ_fst]
  exact hsrt.imp fun {a b} h (e:a=b)=>lt_ne (by rw[e] at h;exact h)
 have hLm:=namesQ_mem (own:=(varsRs f.terms).map T.name) (l:=varsRs (termsOf c)) (k:=0) (n:=0) (by simp;omega) ⟨Nat.zero_le _,by decide⟩
 have hLf:=namesQ_fst ((varsRs f.terms).map T.name) (varsRs (termsOf c)) 0
 have hLl:=namesQ_len ((varsRs f.terms).map T.name) (varsRs (termsOf c)) 0
 have hLd:namesQ ((varsRs f.terms).map T.name) (varsRs (termsOf c)) 0=namesQ ((varsRs f.terms).map T.name) (varsRs (termsOf c)) 0:=rfl
 generalize hL:namesQ ((varsRs f.terms).map T.name) (varsRs (termsOf c)) 0=L at hnd hLm hLf hLl hR hLd
 generalize varsRs f.terms=own at *
 generalize varsRs (termsOf c)=vs at *
 have hown:(own.map T.name).length=own.length:=List.length_map _
 have hLs:small L:=fun b hb=>by
  obtain ⟨m,_,e⟩:=hLm b hb
  have h1:b.1∈vs:=by rw[←hLf];exact List.mem_map.2 ⟨b,hb,rfl⟩
  have:=vvs _ h1
  exact ⟨by omega,by rw[e];simp[T.size,sizes]⟩
 have hLs2:∀k,small ((L.take k).filter difB):=fun k b hb=>hLs b (List.mem_of_mem_take (List.mem_filter.1 hb).1)
 refine W_loop (NO108 c f own vs L) vs.length ⟨0,0,.tok 3,rfl,Nat.zero_le _,⟨Nat.zero_le _,by decide⟩,by simp[hL],rfl,rfl,rfl,by simp[go_sem],by simp[go_sem],by simp[go_sem],by simp[go_sem],by simp[go_sem],by simp[go_sem],by simp[go_sem],by simp[go_sem]⟩ ?_
 rintro m st h ⟨k,n,x,rfl,hk,hnum,hdr,m0,m1,m2,g2,g3,g4,g5,g6,g7,g8,g9⟩
 have lvs:=len23t vs
 by_cases hlt:k<vs.length
 ·have hlt':(k:Int)<vs.length:=by omega
  have hix:=idx23t vs k hlt
  obtain ⟨n',en'⟩:∃n',n'=nQ (own.map T.name) n:=⟨_,rfl⟩
  obtain ⟨hfree,hnum',_⟩:=nQ_spec (by omega) hnum
  rw[List.drop_eq_getElem_cons hlt,namesQ,←en'] at hdr
  rw[←en'] at hfree hnum'
  have hkL:k<L.length:=by omega
  rw[List.drop_eq_getElem_cons hkL] at hdr
  have hLk:L[k]=(vs[k],.mk 1 (qn n') vs[k].sort []):=(List.cons.inj hdr).1
  have hLd1:L.drop (k+1)=namesQ (own.map T.name) (vs.drop (k+1)) (n'+1):=(List.cons.inj hdr).2
  have hsx:=vvs _ (List.getElem_mem hlt)
  have hle':=hnum'.le
  simp[go_sem,g6,g9,lvs,hlt']
  refine W_loop (NN108 c f own vs L k n' x) (own.length+1) ⟨n,hnum,by rw[en',nQ,hown],by omega,m0,m1,m2,by simp[go_sem,g2],by simp[go_sem,g3],by simp[go_sem,g4],by simp[go_sem,g5],by simp[go_sem,g6],by simp[go_sem,g7],by simp[go_sem,g8],by simp[go_sem,g9]⟩ ?_
  clear m0 m1 m2 g2 g3 g4 g5 g6 g7 g8 g9 hnum en'
  rintro m st h ⟨n,hnum,hsk,hfu,m0,m1,m2,g2,g3,g4,g5,g6,g7,g8,g9⟩
  have hle:=hnum.le
  have htk:=tkn_le (own.map T.name) (Nat.le_of_lt hnum.2)
  have c1:=call167 (n:=n) (by omega)
  have c2:=call166 own (qn n) (by omega)
  have w1:IntKind.i64.wrap ((n:Int)+1)=((n+1:Nat):Int):=by rw[wrap_in (by omega)];omega
  match m,hsk,hfu with
  | 0,hsk,hfu=>omega
  | m+1,hsk,hfu=>
   rw[skipQ] at hsk
   cases hm:memN (qn n) (own.map T.name)
   ·rw[hm,if_neg (by simp)] at hsk
    subst hsk
    have c3:=call39 (qn n) vs[k].sort
    have w2:IntKind.i64.wrap ((k:Int)+1)=((k+1:Nat):Int):=by rw[wrap_in (by omega)];omega
    obtain ⟨N,eN⟩:∃N,N=T.mk 1 (qn n) vs[k].sort []:=⟨_,rfl⟩
    rw[←eN] at c3 hLk
    have hsN:N.size=1:=by rw[eN];simp[T.size,sizes]
    have c4:=call69 N vs[k] (by omega) (by omega)
    have etk:(L.take (k+1)).filter difB=(L.take k).filter difB++(if difB (vs[k],N)=true then [(vs[k],N)] else []):=by
     rw[←List.take_append_getElem hkL,List.filter_append,hLk]
     by_cases q:difB (vs[k],N)=true<;>simp[q]
    simp[go_sem,g5,g8,c1,addq,c2,hm]
    change W C 108 R _ _ _ h
    refine W_mixedP 10 _ (fun st' h'=>st'.get 2=.ptr 0 0∧st'.get 3=.ptr 1 0∧st'.get 4=.ptr 2 0∧st'.get 5=terms own∧st'.get 6=terms vs∧st'.get 7=.isl (((L.take k).filter difB).map encB) x∧st'.get 8=.int .i64 n∧st'.get 9=.int .i64 k∧st'.get 10=.ptr (h.length+9) 0∧h'[h.length+9]?=some (.cells (enc N).cells .live)∧∀j,j<h.length→h'[j]?=h[j]?) (by rw[mixC];decide) (by kernel_rfl) ?_ ?_
    ·generalize hH0:h++List.replicate _ VObj.void=H0
     have pl:Pl h H0 11:=hH0▸Pl.mk' h 11
     have hlen:=pl.len
     clear hH0
     refine MX_pure (.int .i64 n) rfl rfl (pl.isV (i:=0) (by decide)) (by simp[opN,go_sem,g8]) rfl ?_
     refine MX_call (args:=[.tmp 30]) [.int .i64 n] (.str ⟨(dec3 n).toArray⟩) (by kernel_rfl) rfl (by simp[go_sem]) rfl (c1 _) (pl.isV (i:=1) (by decide)) rfl ?_
     refine MX_pure (.str (qn n)) rfl rfl (pl.isV (i:=2) (by decide)) (by simp[opN,go_sem,addq]) rfl ?_
     refine MX_pure (terms vs) rfl rfl (pl.isV (i:=3) (by decide)) (by simp[opN,go_sem,g6]) rfl ?_
     refine MX_pure (.int .i64 k) rfl rfl (pl.isV (i:=4) (by decide)) (by simp[opN,go_sem,g9]) rfl ?_
     refine MX_pure (.iptr (enc vs[k]) 0) rfl rfl (pl.isV (i:=5) (by decide)) (by simp[opN,go_sem,hix]) rfl ?_
     refine MX_pure (.iptr (enc vs[k]) 2) rfl rfl (pl.isV (i:=6) (by decide)) (by simp[opN,go_sem,fa25_2i]) rfl ?_
     refine MX_load (.iptr (enc vs[k]) 2) (.int .i64 vs[k].sort) (by simp[go_sem]) (ld3i2 vs[k] H0) (by simp[lids]) (pl.isV (i:=7) (by decide)) rfl ?_
     refine MX_call (args:=[.tmp 32,.tmp 37]) [.str (qn n),.int .i64 vs[k].sort] (enc N) (by kernel_rfl) rfl (by simp[go_sem]) rfl (c3 _) (pl.isV (i:=8) (by decide)) (mv_enc _ _ _) ?_
     refine MX_alloc _ zv25f (pl.isV (i:=9) (by decide)) ?_
     rw[show VObj.mv H0.length (h.length+9) (.cells (AV.agg zc).cells .live)=.cells zc .live from rfl]
     obtain ⟨H1,eH1⟩:∃g,g=H0.set (h.length+9) (.cells zc .live):=⟨_,rfl⟩
     have hl1:H1.length=H0.length:=by rw[eH1];simp
     have q9:H1[h.length+9]?=some (.cells zc .live):=by rw[eH1];exact List.getElem?_set_self (by omega)
     have u10:isVoid H1[h.length+10]?=true:=by rw[eH1];exact isV_set (pl.isV (i:=10) (by decide)) (by omega)
     have o1:∀j,j<h.length→H1[j]?=h[j]?:=fun j hj=>by rw[eH1,List.getElem?_set_ne (by omega),pl.old j hj]
     rw[←eH1]
     refine MX_store (h.length+9) 0 (enc N) _ (by simp[go_sem]) (by simp[go_sem]) (st25zz N q9) (by omega) u10 ?_
     rw[mv_cellsT]
     refine ⟨?_,?_⟩
     ·unfold fpOk
      generalize hb:Region.before _=bb
      have hb1:(bb.getD 10 0).testBit 9=true:=by rw[←hb];kernel_rfl
      clear hb
      simp[Array.getD_eq_getD_getElem?] at hb1
      simp[lids,meet,List.range,List.range.loop]
      exact hb1
     ·exact ⟨by simp[go_sem,g2],by simp[go_sem,g3],by simp[go_sem,g4],by simp[go_sem,g5],by simp[go_sem,g6],by simp[go_sem,g7],by simp[go_sem,g8],by simp[go_sem,g9],by simp[go_sem],List.getElem?_set_self (by omega),fun j hj=>by rw[List.getElem?_set_ne (by omega)];exact o1 j hj⟩
    rintro st' h' ⟨g2,g3,g4,g5,g6,g7,g8,g9,g10,m10,old⟩
    have n0:h'[0]?=some (.cells (clC c) .live):=by rw[old 0 (List.getElem?_eq_some_iff.1 m0).1];exact m0
    have n1:h'[1]?=some (.cells (faC f) .live):=by rw[old 1 (List.getElem?_eq_some_iff.1 m1).1];exact m1
    have n2:h'[2]?=some (.cells z37c .live):=by rw[old 2 (List.getElem?_eq_some_iff.1 m2).1];exact m2
    have l1:=ld25h m10
    clear m0 m1 m2 old m10
    have fin:∀(st':PT) (x':Ext),st'.get 7=.isl (((L.take (k+1)).filter difB).map encB) x'→st'.get 2=.ptr 0 0→st'.get 3=.ptr 1 0→st'.get 4=.ptr 2 0→st'.get 5=terms own→st'.get 6=terms vs→st'.get 8=.int .i64 (n+1:Nat)→st'.get 9=.int .i64 (k+1:Nat)→NO108 c f own vs L (vs.length-(k+1)) st' h':=fun st' x' a7 a2 a3 a4 a5 a6 a8 a9=>
     ⟨k+1,n+1,x',rfl,hlt,hnum.use (by omega),hLd1,n0,n1,n2,a2,a3,a4,a5,a6,a7,a8,a9⟩
    by_cases q:N.cmp vs[k]=0
    ·have hdf:difB (vs[k],N)=false:=by simp[difB,cmp_zero.1 q]
     rw[hdf,if_neg (by simp),List.append_nil] at etk
     simp[go_sem,g6,g8,g9,g10,hix,l1,ld25,c4,q,-Int.natCast_add,w1,w2]
     exact ⟨vs.length-(k+1),by omega,fin _ x (by simp[go_sem,g7,etk]) (by simp[go_sem,g2]) (by simp[go_sem,g3]) (by simp[go_sem,g4]) (by simp[go_sem,g5]) (by simp[go_sem,g6]) (by simp[go_sem]) (by simp[go_sem])⟩
    ·have hdf:difB (vs[k],N)=true:=by simp[difB];exact fun e=>q (cmp_zero.2 e)
     rw[hdf,if_pos rfl] at etk
     have hins:insO (vs[k],N) ((L.take k).filter difB)=(L.take k).filter difB++[(vs[k],N)]:=insO_end fun b hb=>by
      have h1:=(List.mem_filter.1 hb).1
      obtain ⟨i,hi,rfl⟩:=List.mem_take_iff_getElem.1 h1
      have hiv:i<vs.length:=by omega
      have h2:L[i].1=vs[i]:=by
       have:(L.map (·.1))[i]?=vs[i]?:=by rw[hLf]
       rw[List.getElem?_map,List.getElem?_eq_getElem (by omega),List.getElem?_eq_getElem hiv] at this
       simpa using this
      have h3:=List.pairwise_iff_getElem.1 hsrt i k hiv hlt (by omega)
      have h4:=cmp_anti vs[i] vs[k]
      unfold lt at h3
      rw[h2];dsimp only;omega
     have c5:=call168 vs[k] N ((L.take k).filter difB) x (by omega) (by omega) (hLs2 k) (by have:=List.length_filter_le difB (L.take k);have:=List.length_take_le k L;omega) (fun e=>q (by rw[cmp_zero.1 e];exact cmp_refl _))
     rw[hins,←etk] at c5
     simp[go_sem,g6,g7,g8,g9,g10,hix,l1,ld25,c4,q,c5,-Int.natCast_add,w1,w2]
     exact ⟨vs.length-(k+1),by omega,fin _ .unk (by simp[go_sem];rfl) (by simp[go_sem,g2]) (by simp[go_sem,g3]) (by simp[go_sem,g4]) (by simp[go_sem,g5]) (by simp[go_sem,g6]) (by simp[go_sem]) (by simp[go_sem])⟩
   ·rw[hm,if_pos rfl] at hsk
    have h3:=tkn_succ (own.map T.name) n
    rw[hm,if_pos rfl] at h3
    simp[go_sem,g5,g8,c1,addq,c2,hm,-Int.natCast_add,w1]
    exact ⟨m,by omega,n+1,hnum.skip (by omega) hm,hsk,by omega,m0,m1,m2,by simp[go_sem,g2],by simp[go_sem,g3],by simp[go_sem,g4],by simp[go_sem,g5],by simp[go_sem,g6],by simp[go_sem,g7],by simp[go_sem],by simp[go_sem,g9]⟩
 ·have hk2:k=vs.length:=by omega
  subst hk2
  rw[List.take_of_length_le (by omega)] at g7
  have l0:=ld37c m0
  have c1:=call71x (L.filter difB) c x (fun b hb=>hLs b (List.mem_filter.1 hb).1) (by have:=List.length_filter_le difB L;omega) hc.smallT (by have:=hc.1;omega)
  rw[show putCl (L.filter difB) c=putCl L c from putCl_filter hnd c] at c1
  have s1:=st37zy (putCl L c) m2
  have hl2:=(List.getElem?_eq_some_iff.1 m2).1
  have l2:=ld37c (c:=putCl L c) (List.getElem?_set_self (a:=.cells (clC (putCl L c)) .live) hl2)
  simp[go_sem,g2,g4,g6,g7,g9,lvs,l0,c1,s1]
  exact hR _ _ _ (.inr rfl) ⟨encCl (putCl L c),by simp[resultV,resV,Tryz.f108,go_sem,g4,l2],snap_dat rfl rfl⟩
end Go.VZ

/- Maps of names. -/
namespace Go.VZ
open Go Go.V Go.Proofs TL
def mapL (ns:List ByteArray):List (AV × AV):=ns.map fun n=>(.str n,.bool true)
def entL (ns:List ByteArray) (i:Nat):List MapEntry:=ns.zipIdx i |>.map fun p=>{key:=.string p.1,val:=.int .i64 p.2,born:=0}
theorem keysL:∀(ns:List ByteArray) (i:Nat),keyEntries (mapL ns) i=some (entL ns i)
 | [],i=>rfl
 | n::ns,i=>by
  have ih:=keysL ns (i+1)
  simp only[mapL,entL,List.map_cons] at ih ⊢
  simp only[keyEntries,ih,toVal,toScalar,List.zipIdx_cons,List.map_cons]
theorem findN (s:ByteArray):∀(ns:List ByteArray) (i j:Nat),∃r,Instr.findNow .string (.string s) (entL ns i) j=some r∧(s∈ns→∃k v,r=some (j+k,v)∧ns[k]?=some s)∧(s∉ns→r=none)
 | [],i,j=>⟨none,rfl,by simp,fun _=>rfl⟩
 | n::ns,i,j=>by
  obtain ⟨r,h1,h2,h3⟩:=findN s ns (i+1) (j+1)
  have e:Instr.sameNow .string (.string s) (.string n)=some (decide (s=n)):=by rw[←beqB];rfl
  have u:Instr.findNow .string (.string s) (entL (n::ns) i) j=(match Instr.sameNow .string (.string s) (.string n) with
   | some true=>some (some (j,.int .i64 (i:Nat)))
   | some false=>Instr.findNow .string (.string s) (entL ns (i+1)) (j+1)
   | none=>none):=rfl
  rw[u,e]
  by_cases q:s=n
  ·rw[decide_eq_true q]
   exact ⟨_,rfl,fun _=>⟨0,_,rfl,by simp[q]⟩,fun h=>absurd (by rw[q];exact List.mem_cons_self) h⟩
  ·rw[decide_eq_false q]
   refine ⟨r,h1,fun h=>?_,fun h=>h3 fun hm=>h (List.mem_cons_of_mem _ hm)⟩
   obtain ⟨k,v,e,hk⟩:=h2 ((List.mem_cons.1 h).resolve_left q)
   exact ⟨k+1,v,by rw[e];congr 2;omega,by simpa using hk⟩
theorem ck9 (b:Bool) (a:ByteArray):pureVal Tryz.prog (Instr.checkKey b 10000 9 (.string a))=some ():=by cases b<;>kernel_rfl
theorem findS (b:Bool) (s:ByteArray) (ns:List ByteArray):∃r,findV Tryz.prog b 9 (.str s) (mapL ns)=some r∧(s∈ns→∃k,r=some k∧ns[k]?=some s)∧(s∉ns→r=none):=by
 obtain ⟨r,h1,h2,h3⟩:=findN s ns 0 0
 refine ⟨r.map (·.1),?_,fun h=>?_,fun h=>by rw[h3 h];rfl⟩
 ·have e1:toVal (.str s)=some (.string s):=rfl
  unfold findV
  rw[e1,keysL]
  dsimp only
  unfold asksV
  rw[pureVal_bind,ck9]
  simp only[Option.bind_some]
  unfold Instr.findKey
  rw[pureVal_bind,pv_under Tryz.underlying9]
  simp only[Option.bind_some,h1]
  rfl
 ·obtain ⟨k,v,e,hk⟩:=h2 h
  exact ⟨k,by rw[e];simp,hk⟩
theorem u246:C.P.underlying 246=some (.map 9 4):=Tryz.underlying246
theorem lk246 {h:H}{q:Nat}{ns:List ByteArray}(s:ByteArray) (hq:h[q]?=some (.map (mapL ns))):lookupV C.P h 246 (.mp q) (.str s) false=some (.bool (memN s ns)):=by
 obtain ⟨r,h1,h2,h3⟩:=findS (mapL ns).isEmpty s ns
 unfold lookupV
 rw[u246]
 dsimp only
 rw[hq]
 dsimp only
 rw[show findV C.P (mapL ns).isEmpty 9 (.str s) (mapL ns)=some r from h1]
 cases hm:memN s ns
 ·rw[h3 (memN_not.1 hm)]
  dsimp only
  rw[show zeroV C.P 4=some (.bool false) from zv4];rfl
 ·obtain ⟨k,rfl,hk⟩:=h2 (memN_iff.1 hm)
  have:(mapL ns)[k]?=some (.str s,.bool true):=by simp[mapL,hk]
  simp[this]
theorem up246 {h:H}{q:Nat}{ns:List ByteArray}(s:ByteArray) (hq:h[q]?=some (.map (mapL ns))):∃ns',mapUpdateV C.P h 246 (.mp q) (.str s) (.bool true)=some (h.set q (.map (mapL ns')))∧∀x,x∈ns'↔x=s∨x∈ns:=by
 obtain ⟨r,h1,h2,h3⟩:=findS false s ns
 unfold mapUpdateV
 rw[u246]
 dsimp only
 rw[hq]
 dsimp only
 rw[show findV C.P false 9 (.str s) (mapL ns)=some r from h1]
 by_cases hm:s∈ns
 ·obtain ⟨k,rfl,hk⟩:=h2 hm
  have e1:(mapL ns)[k]?=some (.str s,.bool true):=by simp[mapL,hk]
  refine ⟨ns,?_,fun x=>⟨.inr,fun h=>h.elim (fun e=>by rw[e];exact hm) id⟩⟩
  have e2:(mapL ns).set k (.str s,.bool true)=mapL ns:=by
   apply List.ext_getElem?
   intro j
   rw[List.getElem?_set]
   split
   ·rename_i e;subst e
    have:=(List.getElem?_eq_some_iff.1 e1).1
    rw[if_pos this,e1]
   ·rfl
  have e3:Instr.sameBits 10000 (.string s) (.string s)=true:=by
   have:∀n,Instr.sameBits (n+1) (.string s) (.string s)=(s==s):=fun n=>by simp[Instr.sameBits]
   rw[this 9999,beqB];simp
  simp only[e1,toVal,toScalar,e3,e2,notTuple]
  rfl
 ·rw[h3 hm]
  refine ⟨ns++[s],?_,fun x=>by rw[List.mem_append,List.mem_singleton];exact or_comm⟩
  simp[toVal,toScalar,notTuple,mapL]
end Go.VZ
