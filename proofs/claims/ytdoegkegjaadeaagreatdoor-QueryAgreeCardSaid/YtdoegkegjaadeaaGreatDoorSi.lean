/- New names for the variables of a clause: the program's way walked. -/
import Derived.Test.YtdoegkegjaadeaaGreatDoorSh
namespace Go.VZ
open Go Go.V Go.Proofs TL
theorem itoa223 {n:Nat}(hn:n<1000):CallP C 223 [.int .i64 n]=some (.str ⟨(dec3 n).toArray⟩):=by
 have hp:C.prim 223 [.int .i64 n] []=some (.str ⟨(dec3 n).toArray⟩,[]):=by
  have h1:C.prim 223 [.int .i64 n] []=primItoa [.int .i64 n] []:=by
   have:C.prim=Go.VZ.prim:=rfl
   rw[this]
   unfold Go.VZ.prim
   rw[if_neg (by decide),if_neg (by decide),if_neg (by decide),if_neg (by decide),if_pos rfl]
  have h2:(0:Int)≤n∧(n:Int)<1000:=by omega
  rw[h1,primItoa,if_pos h2];rfl
 have hc:Go.V.Call C 223 [.int .i64 n] []=some (.str ⟨(dec3 n).toArray⟩,[]):=Call_prim (C:=C) (fn:=Tryz.f223) Tryz.func223 hp
 unfold CallP
 rw[hc]
 rfl
theorem call223 {n:Nat}(hn:n<1000) (h:H):callV C h (.func 223 []) (some [.int .i64 n])=some (.str ⟨(dec3 n).toArray⟩,h):=callV_strip (by kernel_rfl) rfl rfl rfl (by simp) (itoa223 hn)
theorem memN_congr {s:ByteArray}{l m:List ByteArray}(h:∀x,x∈l↔x∈m):memN s l=memN s m:=by
 rw[Bool.eq_iff_iff,memN_iff,memN_iff];exact h s
theorem call49x (fs:List Fa) (x:Ext) (hs:∀t∈allTerms fs,t.size<4000000) (hl:sizes (allTerms fs)≤10000) (hfl:fs.length≤10000) (hne:allTerms fs≠[]) (h:H):callV C h (.func 49 []) (some [.isl (fs.map encFa) x])=some (terms (varsF fs),h):=callV_strip (by kernel_rfl) rfl (args':=[factsV fs]) rfl (by simp[short]) (by simp) (vars49 fs hs hl hfl hne)
theorem call65x (l:List (T × T)) (f:Fa) (x:Ext) (hs:small l) (hl:l.length<4000000) (hv:smallT f.terms) (h:H):callV C h (.func 65 []) (some [.isl (l.map encB) x,encFa f])=some (encFa (putFa l f),h):=callV_strip (by kernel_rfl) rfl (args':=[binds l,encFa f]) rfl (by simp[short];rfl) (by simp) (put65 l f hs hl hv)
theorem own_notO {e:TypeId}{h:H}{v:AV}{xs:List AV}(o:OwnR e h v xs){i:Nat}{x:VObj}(hi:h[i]?=some x) (hx:∀u ty,x≠.tok u ty):idOf v≠some i:=by
 intro hv
 rcases o with rfl | ⟨id,rfl,hid⟩
 ·cases hv
 ·simp only[idOf,Option.some.injEq] at hv
  subst hv
  rw[hi] at hid
  simp only[Option.some.injEq] at hid
  exact hx _ _ hid
theorem bldV (n:ByteArray) (s:Int):buildV C.P 25 [(0,.int .i64 1),(1,.str n),(2,.int .i64 s)]=some (.agg [.int .i64 1,.str n,.int .i64 s,.isl [] .full]):=by
 have e:∀(n:ByteArray) (s:Int),buildV C.P 25 [(0,.int .i64 1),(1,.str n),(2,.int .i64 s)]=some (.agg [.int .i64 1,.str n,.int .i64 s,.isl [] .full]):=fun n s=>by kernel_rfl
 exact e _ _
def newB (x:T) (n:ByteArray) (s:Int):AV:=.agg [.int .i64 x.kind,.str x.name,.int .i64 x.sort,terms x.kids,.int .i64 1,.str n,.int .i64 s,.isl [] .full]
theorem bldN (x:T) (n:ByteArray) (s:Int):buildV C.P 86 [(0,enc x),(1,.agg [.int .i64 1,.str n,.int .i64 s,.isl [] .full])]=some (newB x n s):=by
 rw[enc_eq x]
 have e:∀(k s s':Int) (n n':ByteArray) (l:List AV),buildV C.P 86 [(0,.agg [.int .i64 k,.str n,.int .i64 s,.isl l .unk]),(1,.agg [.int .i64 1,.str n',.int .i64 s',.isl [] .full])]=some (.agg [.int .i64 k,.str n,.int .i64 s,.isl l .unk,.int .i64 1,.str n',.int .i64 s',.isl [] .full]):=fun k s s' n n' l=>by kernel_rfl
 exact e _ _ _ _ _ _
theorem buildN (h:H) (x:T) (n:ByteArray) (s:Int):buildSliceV C.P h 46 1 [(0,newB x n s)]=some (.isl [encB (x,.mk 1 n s [])] .full,h):=buildSlice_dats u46 s86 z86 rfl (by omega) rfl rfl rfl (by simp) rfl
theorem ntA (l:List AV):notTuple (.agg l)=true:=rfl
theorem ntI (k:IntKind) (n:Int):notTuple (.int k n)=true:=rfl
theorem ntS (s:ByteArray):notTuple (.str s)=true:=rfl
theorem nt_N (x:T) (n:ByteArray) (s:Int):notTuple (newB x n s)=true:=rfl
def Base161 (c:Cl) (f:Fa) (ns:List ByteArray) (st:PT) (h:H):Prop:=h[0]?=some (.cells (clC c) .live)∧h[1]?=some (.cells (faC f) .live)∧h[2]?=some (.cells z37c .live)∧h[3]?=some (.map (mapL ns))∧st.get 2=.ptr 0 0∧st.get 3=.ptr 1 0∧st.get 4=.ptr 2 0∧st.get 5=.mp 3
def NA161 (c:Cl) (f:Fa) (own:List T) (m:Nat) (st:PT) (h:H):Prop:=∃(k:Nat) (ns:List ByteArray),m=own.length-k∧k≤own.length∧Base161 c f ns st h∧(∀x,x∈ns↔x∈(own.take k).map T.name)∧st.get 18=terms own∧st.get 19=.int .i64 own.length∧st.get 20=.int .i64 k
def NO161 (c:Cl) (f:Fa) (ns:List ByteArray) (own vs:List T) (L:List (T × T)) (m:Nat) (st:PT) (h:H):Prop:=∃(k n:Nat) (v:AV),m=vs.length-k∧k≤vs.length∧NumQ (own.map T.name) k n∧L.drop k=namesQ (own.map T.name) (vs.drop k) n∧Base161 c f ns st h ∧
 st.get 8=v∧st.get 9=.int .i64 n∧st.get 30=terms vs∧st.get 31=.int .i64 vs.length∧st.get 32=.int .i64 k∧OwnR 86 h v ((L.take k).map encB)
def NN161 (c:Cl) (f:Fa) (ns:List ByteArray) (own vs:List T) (L:List (T × T)) (k n' i11:Nat) (x:T) (v:AV) (m:Nat) (st:PT) (h:H):Prop:=∃n:Nat,NumQ (own.map T.name) k n∧skipQ (own.map T.name) m n=n'∧(own.map T.name).length+1≤m+tkn (own.map T.name) n∧Base161 c f ns st h∧h[i11]?=some (.cells (enc x).cells .live) ∧
 st.get 8=v∧st.get 9=.int .i64 n∧st.get 11=.ptr i11 0∧st.get 30=terms vs∧st.get 31=.int .i64 vs.length∧st.get 32=.int .i64 k∧OwnR 86 h v ((L.take k).map encB)
def NP161 (c:Cl) (L:List (T × T)) (i12:Nat) (x:Ext) (m:Nat) (st:PT) (h:H):Prop:=∃(k:Nat) (v:AV),m=c.body.length-k∧k≤c.body.length∧h[2]?=some (.cells z37c .live)∧h[i12]?=some (.cells (v::faC (putFa L c.head)) .live)∧st.get 4=.ptr 2 0∧st.get 8=.isl (L.map encB) x∧st.get 12=.ptr i12 0∧st.get 63=factsV c.body∧st.get 64=.int .i64 c.body.length∧st.get 65=.int .i64 k ∧
 OwnR 35 h v (((c.body.take k).map (putFa L)).map encFa)
set_option maxRecDepth 8000 in
set_option maxHeartbeats 16000000 in
theorem apart161 (c:Cl) (f:Fa) (hc:okC c) (hf:∀t∈f.terms,t.size≤400) (hfl:f.terms.length≤20) (hfn:f.terms≠[]) (hsz:(varsRs (termsOf c)).length+(varsRs f.terms).length<190):CallP C 161 [encCl c,encFa f]=some (encCl (putCl (namesQ ((varsRs f.terms).map T.name) (varsRs (termsOf c)) 0) c)):=by
 refine CallP_W rfl Tryz.func161 rfl (by kernel_rfl) (by simp[Tryz.f161]) fun R hR=>?_
 have eat:allTerms [f]=f.terms:=by simp[allTerms]
 have hfs:sizes f.terms≤10000:=by have:=sizes_le_mul (n:=400) hf;omega
 have c1:=fun h=>call49x [f] .full (by rw[eat];exact fun t ht=>by have:=hf t ht;omega) (by rw[eat];exact hfs) (by simp) (by rw[eat];exact hfn) h
 rw[vars_same [f] f.terms (fun t=>by rw[eat])] at c1
 have l1:loadV C.P [.cells (clC c) .live,.cells (faC f) .live,.cells z37c .live,.map []] 35 (.ptr 1 0)=some (encFa f):=by simp[loadV,cellsAt,a35,s35,faC,encFa]
 have hbl:=hc.1
 have hst:=hc.small
 have vown:∀t∈varsRs f.terms,t.size<4000000:=varsRs_small fun t ht=>by have:=hf t ht;omega
 have vvs:∀t∈varsRs (termsOf c),t.size≤400:=fun t ht=>by have:=varsRs_small (n:=401) (fun t ht=>by have:=hst t ht;omega) t ht;omega
 have hsrt:(varsRs (termsOf c)).Pairwise lt:=setS_sorted _
 have c2:=call50 c (by have:=hc.1;omega)
 have c3:=hc.call49
 have bx:=box35 f
 simp only[List.map_cons,List.map_nil] at c1
 have ntf:∀f:Fa,notTuple (encFa f)=true:=fun _=>rfl
 simp[go_sem,box37,bx,zv37,cells_agg,l1,ntf,build33_1,c1,len23t]
 clear c1 l1 bx
 have hnd:((namesQ ((varsRs f.terms).map T.name) (varsRs (termsOf c)) 0).map (·.1)).Nodup:=by
  rw[namesQ_fst]
  exact hsrt.imp fun {a b} h (e:a=b)=>lt_ne (by rw[e] at h;exact h)
 have hLm:=namesQ_mem (own:=(varsRs f.terms).map T.name) (l:=varsRs (termsOf c)) (k:=0) (n:=0) (by simp;omega) ⟨Nat.zero_le _,by decide⟩
 have hLf:=namesQ_fst ((varsRs f.terms).map T.name) (varsRs (termsOf c)) 0
 have hLl:=namesQ_len ((varsRs f.terms).map T.name) (varsRs (termsOf c)) 0
 generalize hL:namesQ ((varsRs f.terms).map T.name) (varsRs (termsOf c)) 0=L at hnd hLm hLf hLl hR
 generalize varsRs f.terms=own at *
 generalize varsRs (termsOf c)=vs at *
 have hown:(own.map T.name).length=own.length:=List.length_map _
 have hLs:small L:=fun b hb=>by
  obtain ⟨m,_,e⟩:=hLm b hb
  have h1:b.1∈vs:=by rw[←hLf];exact List.mem_map.2 ⟨b,hb,rfl⟩
  have:=vvs _ h1
  exact ⟨by omega,by rw[e];simp[T.size,sizes]⟩
 refine W_loop (NA161 c f own) own.length ⟨0,[],rfl,Nat.zero_le _,⟨rfl,rfl,rfl,rfl,by simp[go_sem],by simp[go_sem],by simp[go_sem],by simp[go_sem]⟩,by simp,by simp[go_sem],by simp[go_sem],by simp[go_sem]⟩ ?_
 rintro m st h ⟨k,ns,rfl,hk,⟨m0,m1,m2,m3,g2,g3,g4,g5⟩,hns,g18,g19,g20⟩
 by_cases hlt:k<own.length
 ·have hlt':(k:Int)<own.length:=by omega
  have hix:=idx23t own k hlt
  have w2:IntKind.i64.wrap ((k:Int)+1)=((k+1:Nat):Int):=by rw[wrap_in (by omega)];omega
  have s1:storeV C.P (h++[.cells zc .live]) 25 (.ptr h.length 0) (enc own[k])=some (h++[.cells (enc own[k]).cells .live]):=by
   rw[st25zz own[k] (by simp)];simp
  obtain ⟨h2,eh2⟩:∃h2,h2=h++[VObj.cells (enc own[k]).cells .live]:=⟨_,rfl⟩
  have p3:h2[3]?=some (.map (mapL ns)):=by rw[eh2];exact ga m3
  have l9:loadV C.P h2 9 (.ptr h.length 1)=some (.str own[k].name):=by
   have:h2[h.length]?=some (.cells (enc own[k]).cells .live):=by rw[eh2];simp
   rw[enc_cells] at this
   simp[loadV,this,cellsAt,a9,s9]
  obtain ⟨ns',u1,u2⟩:=up246 own[k].name p3
  rw[←eh2] at s1
  have hl3:=(List.getElem?_eq_some_iff.1 p3).1
  simp[go_sem,g5,g18,g19,g20,hlt',hix,ld25,zv25f,s1,l9,u1,-Int.natCast_add,w2]
  refine ⟨own.length-(k+1),by omega,k+1,ns',rfl,hlt,⟨?_,?_,?_,List.getElem?_set_self hl3,by simp[go_sem,g2],by simp[go_sem,g3],by simp[go_sem,g4],by simp[go_sem,g5]⟩,fun x=>?_,by simp[go_sem,g18],by simp[go_sem,g19],by simp[go_sem]⟩
  ·rw[List.getElem?_set_ne (by omega),eh2];exact ga m0
  ·rw[List.getElem?_set_ne (by omega),eh2];exact ga m1
  ·rw[List.getElem?_set_ne (by omega),eh2];exact ga m2
  ·rw[u2,hns,←List.take_append_getElem hlt,List.map_append,List.mem_append];simp;exact or_comm
 ·have hk2:k=own.length:=by omega
  subst hk2
  rw[List.take_length] at hns
  have l0:=ld37c (h:=h++[.tok 0 86]) (ga m0)
  simp[go_sem,g2,g19,g20,l0,c2,c3,len23t]
  refine W_loop (NO161 c f ns own vs L) vs.length ⟨0,0,.isl [] (.tok h.length),rfl,Nat.zero_le _,⟨Nat.zero_le _,by decide⟩,by simp[hL],⟨ga m0,ga m1,ga m2,ga m3,by simp[go_sem,g2],by simp[go_sem,g3],by simp[go_sem,g4],by simp[go_sem,g5]⟩,by simp[go_sem],by simp[go_sem],by simp[go_sem],by simp[go_sem],by simp[go_sem],.inr ⟨h.length,by simp,by simp⟩⟩ ?_
  clear m0 m1 m2 m3 g2 g3 g4 g5 g18 g19 g20 l0 hk hlt
  rintro m st h ⟨k,n,v,rfl,hk,hnum,hdr,⟨m0,m1,m2,m3,g2,g3,g4,g5⟩,g8,g9,g30,g31,g32,go⟩
  by_cases hlt:k<vs.length
  ·have hlt':(k:Int)<vs.length:=by omega
   have hix:=idx23t vs k hlt
   obtain ⟨n',en'⟩:∃n',n'=nQ (own.map T.name) n:=⟨_,rfl⟩
   obtain ⟨hfree,hnum',_⟩:=nQ_spec (by omega) hnum
   rw[List.drop_eq_getElem_cons hlt,namesQ,←en'] at hdr
   rw[←en'] at hfree hnum'
   have hkL:k<L.length:=by omega
   rw[List.drop_eq_getElem_cons hkL] at hdr
   have hLk:L[k]=(vs[k],.mk 1 (qn n') vs[k].sort []):=(List.cons.inj hdr).1
   have hLd1:L.drop (k+1)=namesQ (own.map T.name) (vs.drop (k+1)) (n'+1):=(List.cons.inj hdr).2
   have hle':=hnum'.le
   have s1:storeV C.P (h++[.cells zc .live]) 25 (.ptr h.length 0) (enc vs[k])=some (h++[.cells (enc vs[k]).cells .live]):=by
    rw[st25zz vs[k] (by simp)];simp
   simp[go_sem,g30,g31,g32,hlt',hix,ld25,zv25f,s1]
   refine W_loop (NN161 c f ns own vs L k n' h.length vs[k] v) (own.length+1) ⟨n,hnum,by rw[en',nQ,hown],by omega,⟨ga m0,ga m1,ga m2,ga m3,by simp[go_sem,g2],by simp[go_sem,g3],by simp[go_sem,g4],by simp[go_sem,g5]⟩,by simp,by simp[go_sem,g8],by simp[go_sem,g9],by simp[go_sem],by simp[go_sem,g30],by simp[go_sem,g31],by simp[go_sem,g32],go.keep (Keep.append _ _ none) (by simp)⟩ ?_
   generalize h.length=i11
   clear m0 m1 m2 m3 g2 g3 g4 g5 g8 g9 g30 g31 g32 hnum en' go s1
   rintro m st h ⟨n,hnum,hsk,hfu,⟨m0,m1,m2,m3,g2,g3,g4,g5⟩,m11,g8,g9,g11,g30,g31,g32,go⟩
   have hle:=hnum.le
   have htk:=tkn_le (own.map T.name) (Nat.le_of_lt hnum.2)
   have c1:=call223 (n:=n) (by omega)
   have lk:=lk246 (qn n) m3
   rw[memN_congr hns] at lk
   have w1:IntKind.i64.wrap ((n:Int)+1)=((n+1:Nat):Int):=by rw[wrap_in (by omega)];omega
   match m,hsk,hfu with
   | 0,hsk,hfu=>omega
   | m+1,hsk,hfu=>
    rw[skipQ] at hsk
    cases hm:memN (qn n) (own.map T.name)
    ·rw[hm,if_neg (by simp)] at hsk
     subst hsk
     rw[hm] at lk
     have w2:IntKind.i64.wrap ((k:Int)+1)=((k+1:Nat):Int):=by rw[wrap_in (by omega)];omega
     have lx:=ld25h m11
     have ls:=ldsort m11
     obtain ⟨v',h2,hap,ho,hkp,hid⟩:=append46 (ys:=[(vs[k],T.mk 1 (qn n) vs[k].sort [])]) (x:=.full) go (by simp only[List.length_take,List.length_cons,List.length_nil];omega)
     have etk:L.take k++[(vs[k],T.mk 1 (qn n) vs[k].sort [])]=L.take (k+1):=by
      rw[←List.take_append_getElem hkL,hLk]
     rw[etk] at ho
     simp only[List.map_cons,List.map_nil] at hap
     simp[go_sem,g5,g9,c1,addq,lk]
     refine W_regionS 14 _ (by simp[mixC]) rfl ?_
     simp[go_sem,g8,g9,g11,g32,c1,addq,lx,ls,bldV,bldN,buildN,nt_N,notTuple_enc,ntA,ntI,ntS,hap,-Int.natCast_add,w1,w2]
     refine ⟨?_,vs.length-(k+1),by omega,k+1,n+1,v',rfl,hlt,hnum.use (by omega),hLd1,⟨hkp.get m0 (own_not go m0),hkp.get m1 (own_not go m1),hkp.get m2 (own_not go m2),hkp.get m3 (own_notO go m3 (fun _ _ e=>by cases e)),by simp[go_sem,g2],by simp[go_sem,g3],by simp[go_sem,g4],by simp[go_sem,g5]⟩,by simp[go_sem],by simp[go_sem],by simp[go_sem,g30],by simp[go_sem,g31],by simp[go_sem],ho⟩
     have hn11:=own_not go m11
     rcases go with rfl | ⟨id,rfl,hd⟩
     ·simp[go_sem,g11,idsOk,ldIds,apIds,ldId,appId,mslId]
     ·simp only[idOf,ne_eq,Option.some.injEq] at hn11
      simp[go_sem,g11,idsOk,ldIds,apIds,ldId,appId,mslId]
      (try omega)
    ·rw[hm,if_pos rfl] at hsk
     rw[hm] at lk
     have h3:=tkn_succ (own.map T.name) n
     rw[hm,if_pos rfl] at h3
     simp[go_sem,g5,g9,c1,addq,lk,-Int.natCast_add,w1]
     exact ⟨m,by omega,n+1,hnum.skip (by omega) hm,hsk,by omega,⟨m0,m1,m2,m3,by simp[go_sem,g2],by simp[go_sem,g3],by simp[go_sem,g4],by simp[go_sem,g5]⟩,m11,by simp[go_sem,g8],by simp[go_sem],by simp[go_sem,g11],by simp[go_sem,g30],by simp[go_sem,g31],by simp[go_sem,g32],go⟩
  ·have hk2:k=vs.length:=by omega
   subst hk2
   rw[List.take_of_length_le (by omega)] at go
   obtain ⟨x,rfl⟩:=go.isl
   have lh:=ld35c m0
   have cA:=fun h=>call65x L c.head x hLs (by omega) (hc.smallT _ (by simp[factsOf])) h
   have bl:=bld37 (putFa L c.head)
   have s1:=st37n (h:=h) (putFa L c.head) (.isl [] .full) rfl
   have lb:=ld33c (h:=h++[.cells (.isl [] .full::faC (putFa L c.head)) .live]) (ga m0)
   have hln:=len33f c.body
   simp[go_sem,g2,g8,g31,g32,lh,cA,ntf,bl,zv37,cells_agg,s1,lb,hln]
   refine W_loop (NP161 c L h.length x) c.body.length ⟨0,.isl [] .full,rfl,Nat.zero_le _,ga m2,by simp,by simp[go_sem,g4],by simp[go_sem,g8],by simp[go_sem],by simp[go_sem],by simp[go_sem],by simp[go_sem],.inl rfl⟩ ?_
   have h12:2<h.length:=(List.getElem?_eq_some_iff.1 m2).1
   generalize h.length=i12 at h12
   clear m0 m1 m2 m3 g2 g3 g4 g5 g8 g9 g30 g31 g32 go lh cA bl s1 lb hk hlt hnum hdr hns
   rintro m st h ⟨k,v,rfl,hk,m2,m12,g4,g8,g12,g63,g64,g65,go⟩
   have ntv:notTuple v=true:=by obtain ⟨x,rfl⟩:=go.isl;rfl
   by_cases hlt:k<c.body.length
   ·have hlt':(k:Int)<c.body.length:=by omega
    have hix:indexAddrV C.P 33 (factsV c.body) (.int .i64 k)=some (.iptr (encFa c.body[k]) 0):=idx33 c.body k hlt .unk
    have l35:=ld35i c.body[k]
    have w2:IntKind.i64.wrap ((k:Int)+1)=((k+1:Nat):Int):=by rw[wrap_in (by omega)];omega
    have ck:=fun h=>call65x L c.body[k] x hLs (by omega) (hc.smallT _ (by simp[factsOf])) h
    have s1:=st35z c.body[k] h
    have l14:=ld35b c.body[k] h
    have hl12:=(List.getElem?_eq_some_iff.1 m12).1
    have hl2:=(List.getElem?_eq_some_iff.1 m2).1
    obtain ⟨h2,eh2⟩:∃h2,h2=h++[VObj.cells (faC c.body[k]) .live]:=⟨_,rfl⟩
    have n14:h2[h.length]?=some (.cells (faC c.body[k]) .live):=by rw[eh2];simp
    have n12:h2[i12]?=some (.cells (v::faC (putFa L c.head)) .live):=by rw[eh2];exact ga m12
    have n2:h2[2]?=some (.cells z37c .live):=by rw[eh2];exact ga m2
    have go2:OwnR 35 h2 v (((c.body.take k).map (putFa L)).map encFa):=by rw[eh2];exact go.keep (Keep.append _ _ none) (by simp)
    have l12:loadV C.P h2 33 (.ptr i12 0)=some v:=by simp[loadV,n12,cellsAt,a33,s33]
    obtain ⟨v',h',ha,hst,hw,hoth,hself⟩:=field33 (i:=i12) (o:=0) (putFa L c.body[k]) go2 n12 (by simp) (by simp;omega)
    have etk:(c.body.take k).map (putFa L)++[putFa L c.body[k]]=(c.body.take (k+1)).map (putFa L):=by
     rw[←List.take_append_getElem hlt,List.map_append];rfl
    rw[etk] at hw
    have hn12:=own_not go2 n12
    have hn14:=own_not go2 n14
    rw[←eh2] at s1 l14
    simp[go_sem,g63,g64,g65,hlt',hix,l35,zv35,cells_agg,s1,-Int.natCast_add]
    refine W_regionS 21 _ (by simp[mixC]) rfl ?_
    simp[go_sem,g8,g12,g65,l12,l14,ck,ntf,build33_1,ha,hst,-Int.natCast_add,w2]
    refine ⟨?_,c.body.length-(k+1),by omega,k+1,v',rfl,hlt,hoth 2 _ _ (by omega) n2,hself,by simp[go_sem,g4],by simp[go_sem,g8],by simp[go_sem,g12],by simp[go_sem,g63],by simp[go_sem,g64],by simp[go_sem],hw⟩
    rcases go2 with rfl | ⟨id,rfl,hd⟩
    ·simp[go_sem,idsOk,ldIds,apIds,ldId,appId,mslId]
    ·simp only[idOf,ne_eq,Option.some.injEq] at hn12 hn14
     simp[go_sem,idsOk,ldIds,apIds,ldId,appId,mslId]
     (try omega)
   ·have:k=c.body.length:=by omega
    subst this
    rw[List.take_length] at go
    obtain ⟨x2,rfl⟩:=go.isl
    have e5:loadV C.P h 37 (.ptr i12 0)=some (.agg (.isl ((putCl L c).body.map encFa) x2::faC (putCl L c).head)):=by simp[loadV,m12,cellsAt,a37,s37,putCl,faC]
    have e6:=st37zc (putCl L c) x2 m2
    have e7:=(List.getElem?_eq_some_iff.1 m2).1
    generalize hzz:AV.agg (.isl ((putCl L c).body.map encFa) x2::faC (putCl L c).head)=zz at e5 e6
    simp[go_sem,g4,g12,g64,g65,e5,e6]
    refine hR _ _ _ (.inr rfl) ⟨zz,?_,?_⟩
    ·simp[resultV,resV,Tryz.f161,go_sem,g4,loadV,List.getElem?_set_self e7,cellsAt,a37,s37,←hzz,faC]
    ·rw[←hzz];exact snap_dat rfl rfl
theorem call161 (c:Cl) (f:Fa) (hc:okC c) (hf:∀t∈f.terms,t.size≤400) (hfl:f.terms.length≤20) (hfn:f.terms≠[]) (hsz:(varsRs (termsOf c)).length+(varsRs f.terms).length<190) (h:H):callV C h (.func 161 []) (some [encCl c,encFa f])=some (encCl (putCl (namesQ ((varsRs f.terms).map T.name) (varsRs (termsOf c)) 0) c),h):=callV_strip (by kernel_rfl) rfl (args':=[encCl c,encFa f]) rfl (by simp[short_cl];rfl) (by simp) (apart161 c f hc hf hfl hfn hsz)
theorem call108 (c:Cl) (f:Fa) (hc:okC c) (hf:∀t∈f.terms,t.size≤400) (hfl:f.terms.length≤100) (hsz:(varsRs (termsOf c)).length+(varsRs f.terms).length<190) (h:H):callV C h (.func 108 []) (some [encCl c,encFa f])=some (encCl (putCl (namesQ ((varsRs f.terms).map T.name) (varsRs (termsOf c)) 0) c),h):=callV_strip (by kernel_rfl) rfl (args':=[encCl c,encFa f]) rfl (by simp[short_cl];rfl) (by simp) (apart108 c f hc hf hfl hsz)
end Go.VZ

/- Solved clauses, both ways; the first fact that a test finds. -/
namespace Go.VZ
open Go Go.V Go.Proofs TL
def ixF {α:Type}(p:α→Bool):List α→Nat→Int
 | [],_=>-1
 | a::l,k=>if p a=true then (k:Int) else ixF p l (k+1)
theorem ixF_neg {α:Type}(p:α→Bool):∀(l:List α) (k:Nat),(ixF p l k = -1∧l.any p=false)∨(0≤ixF p l k∧l.any p=true)
 | [],_=>.inl ⟨rfl,rfl⟩
 | a::l,k=>by
  rw[ixF,List.any_cons]
  by_cases h:p a=true
  ·rw[if_pos h,h];exact .inr ⟨by omega,rfl⟩
  ·rw[if_neg h]
   have h2:p a=false:=by simpa using h
   rw[h2,Bool.false_or]
   exact ixF_neg p l (k+1)
theorem ixF_lt {α:Type}(p:α→Bool) (l:List α) (k:Nat):decide (ixF p l k<0) = !l.any p:=by
 rcases ixF_neg p l k with ⟨h1,h2⟩ | ⟨h1,h2⟩
 ·rw[h2];simp[h1]
 ·rw[h2];simp;omega
theorem ixF_eq {α:Type}(p:α→Bool) (l:List α) (k:Nat):decide (ixF p l k = -1) = !l.any p:=by
 rcases ixF_neg p l k with ⟨h1,h2⟩ | ⟨h1,h2⟩
 ·rw[h2];simp[h1]
 ·rw[h2];simp;omega
theorem ixF_ge {α:Type}(p:α→Bool) (l:List α) (k:Nat):decide (0≤ixF p l k)=l.any p:=by
 rcases ixF_neg p l k with ⟨h1,h2⟩ | ⟨h1,h2⟩
 ·rw[h2];simp[h1]
 ·rw[h2];simp;omega
def selF (f:Fa):Bool:=decide (f.kind=1)&&(match f.terms with
 | []=>false
 | t::_=>decide (t.kind≠1))
set_option maxHeartbeats 2000000 in
theorem sel280 (f:Fa):CallP C 280 [encFa f]=some (.bool (selF f)):=by
 refine CallP_W rfl Tryz.func280 rfl (by kernel_rfl) (by simp[Tryz.f280]) fun R hR=>?_
 have fin:∀(st:PT) (h:H) (b:Bool),st.get 2=.bool b→selF f=b→R .ret st h:=fun st h b h2 hb=>hR _ _ _ (.inr rfl) ⟨.bool b,by simp[resultV,resV,Tryz.f280,h2],by rw[hb];exact snap_dat rfl rfl⟩
 have bx:=box35 f
 have l0:loadV C.P [.cells (faC f) .live] 3 (.ptr 0 0)=some (.int .i64 f.kind):=ld3f0 rfl
 have l2:loadV C.P [.cells (faC f) .live] 23 (.ptr 0 2)=some (terms f.terms):=ld23f rfl
 by_cases k1:f.kind=1
 ·cases hf:f.terms with
  | nil=>
   have hl:=len23t f.terms
   rw[hf] at hl l2
   simp[go_sem,initS,bx,l0,l2,k1,hl]
   exact fin _ _ false (by simp[go_sem]) (by simp[selF,hf])
  | cons t l=>
   have hl:=len23t f.terms
   have h0:(0:Int)<f.terms.length:=by simp[hf]
   have h0':0<f.terms.length:=by simp[hf]
   have e0:f.terms[0]=t:=by simp[hf]
   have hix:indexAddrV C.P 23 (terms f.terms) (.int .i64 0)=some (.iptr (enc t) 0):=by rw[←e0];exact idx23t f.terms 0 h0'
   have lt:=ld3i0 t
   by_cases k2:t.kind=1
   ·simp[go_sem,initS,bx,l0,l2,k1,hl,h0',hix,fa25i_0,lt,k2]
    exact fin _ _ false (by simp[go_sem]) (by simp[selF,hf,k2])
   ·simp[go_sem,initS,bx,l0,l2,k1,hl,h0',hix,fa25i_0,lt,k2]
    exact fin _ _ true (by simp[go_sem]) (by simp[selF,hf,k1,k2])
 ·simp[go_sem,initS,bx,l0,k1]
  exact fin _ _ false (by simp[go_sem]) (by simp[selF,k1])
theorem call280 (f:Fa) (h:H):callV C h (.func 280 []) (some [encFa f])=some (.bool (selF f),h):=callV_strip (by kernel_rfl) rfl rfl rfl (by simp) (sel280 f)
def NI228 (p:Fa→Bool) (l:List Fa) (gv:AV) (m:Nat) (st:PT) (_h:H):Prop:=∃k:Nat,m=l.length-k∧k≤l.length∧st.get 0=factsV l∧st.get 1=gv∧st.get 7=.int .i64 l.length∧st.get 8=.int .i64 k∧ixF p l 0=ixF p (l.drop k) k
set_option maxHeartbeats 2000000 in
theorem index228 (p:Fa→Bool) (l:List Fa) (gv:AV) (hl:l.length<4000000) (hg:∀f∈l,∀h,callV C h gv (some [encFa f])=some (.bool (p f),h)):CallP C 228 [factsV l,gv]=some (.int .i64 (ixF p l 0)):=by
 refine CallP_W rfl Tryz.func228 rfl (by kernel_rfl) (by simp[Tryz.f228]) fun R hR=>?_
 have fin:∀(st:PT) (h:H) (e:Int),st.get 4=.int .i64 e→ixF p l 0=e→R .ret st h:=fun st h e h2 he=>hR _ _ _ (.inr rfl) ⟨.int .i64 e,by simp[resultV,resV,Tryz.f228,h2],by rw[he];exact snap_dat rfl rfl⟩
 have hln:=len33f l
 simp[go_sem,hln]
 refine W_loop (NI228 p l gv) l.length ⟨0,rfl,Nat.zero_le _,by simp[go_sem],by simp[go_sem],by simp[go_sem],by simp[go_sem],rfl⟩ ?_
 rintro m st h ⟨k,rfl,hk,g0,g1,g7,g8,hd⟩
 by_cases hlt:k<l.length
 ·have hlt':(k:Int)<l.length:=by omega
  have hix:indexAddrV C.P 33 (factsV l) (.int .i64 k)=some (.iptr (encFa l[k]) 0):=idx33 l k hlt .unk
  have lf:=ld35i l[k]
  have cg:=hg _ (List.getElem_mem hlt)
  have w2:IntKind.i64.wrap ((k:Int)+1)=((k+1:Nat):Int):=by rw[wrap_in (by omega)];omega
  rw[List.drop_eq_getElem_cons hlt,ixF] at hd
  by_cases q:p l[k]=true
  ·simp[go_sem,g0,g1,g7,g8,hlt',hix,lf,cg,q]
   exact fin _ _ k (by simp[go_sem]) (by rw[hd,if_pos q])
  ·simp[go_sem,g0,g1,g7,g8,hlt',hix,lf,cg,q,-Int.natCast_add,w2]
   exact ⟨l.length-(k+1),by omega,k+1,rfl,hlt,by simp[go_sem,g0],by simp[go_sem,g1],by simp[go_sem,g7],by simp[go_sem],by rw[hd,if_neg q]⟩
 ·have:k=l.length:=by omega
  subst this
  simp[go_sem,g7,g8]
  exact fin _ _ (-1) (by simp[go_sem]) (by rw[hd];simp[ixF])
theorem call228 (p:Fa→Bool) (l:List Fa) (gf:FuncId) (caps:List AV) (hcap:dats1 caps=some caps) (hcl:caps.length<1000) (hl:l.length<4000000) (hg:∀f∈l,∀h,callV C h (.func gf caps) (some [encFa f])=some (.bool (p f),h)) (h:H):callV C h (.func 228 []) (some [factsV l,.func gf caps])=some (.int .i64 (ixF p l 0),h):=
 callV_strip (by kernel_rfl) rfl (args':=[factsV l,.func gf caps]) (by
  have e:dat (.func gf caps)=some (.func gf caps):=by simp only[dat,hcap]
  simp only[dats,e];rfl) (by simp only[List.all_cons,List.all_nil,short,factsV];simp;omega) (by simp) (index228 p l _ hl hg)
def solvB (c:Cl):Bool:=decide (clauseE c=0) && !c.body.any selF
theorem selected225 (c:Cl) (hb:c.body.length<4000000):CallP C 225 [encCl c]=some (.int .i64 (ixF selF c.body 0)):=by
 refine CallP_W rfl Tryz.func225 rfl (by kernel_rfl) (by simp[Tryz.f225]) fun R hR=>?_
 have l0:loadV C.P [.cells (clC c) .live] 33 (.ptr 0 0)=some (factsV c.body):=ld33c rfl
 have c1:=call228 selF c.body 280 [] rfl (by simp) hb (fun f _ h=>call280 f h)
 simp[go_sem,initS,box37,l0,c1]
 exact hR _ _ _ (.inr rfl) ⟨.int .i64 (ixF selF c.body 0),by simp[resultV,resV,Tryz.f225,go_sem],snap_dat rfl rfl⟩
theorem call225 (c:Cl) (hb:c.body.length<4000000) (h:H):callV C h (.func 225 []) (some [encCl c])=some (.int .i64 (ixF selF c.body 0),h):=callV_strip (by kernel_rfl) rfl (dat_cl c) (by simp[short_cl]) (by simp) (selected225 c hb)
theorem solved160 (c:Cl) (hs:okF (factsOf c)) (hb:c.body.length<4000000):CallP C 160 [encCl c]=some (.bool (solvB c)):=by
 refine CallP_W rfl Tryz.func160 rfl (by kernel_rfl) (by simp[Tryz.f160]) fun R hR=>?_
 have l0:loadV C.P [.cells (clC c) .live] 37 (.ptr 0 0)=some (encCl c):=ld37c rfl
 have c1:=call35 c hs
 have c2:=call225 c hb
 have hx:=ixF_lt selF c.body 0
 have fin:∀(st:PT) (h:H) (b:Bool),st.get 2=.bool b→solvB c=b→R .ret st h:=fun st h b h2 hb=>hR _ _ _ (.inr rfl) ⟨.bool b,by simp[resultV,resV,Tryz.f160,h2],by rw[hb];exact snap_dat rfl rfl⟩
 by_cases q:clauseE c=0
 ·simp[go_sem,initS,box37,l0,c1,c2,q]
  exact fin _ _ (decide (ixF selF c.body 0<0)) (by simp[go_sem]) (by rw[hx];simp[solvB,q])
 ·simp[go_sem,initS,box37,l0,c1,q]
  exact fin _ _ false (by simp[go_sem]) (by simp[solvB,q])
theorem call160 (c:Cl) (hs:okF (factsOf c)) (hb:c.body.length<4000000) (h:H):callV C h (.func 160 []) (some [encCl c])=some (.bool (solvB c),h):=callV_strip (by kernel_rfl) rfl (dat_cl c) (by simp[short_cl]) (by simp) (solved160 c hs hb)
def NI165 (c:Cl) (m:Nat) (st:PT) (h:H):Prop:=∃k:Nat,m=c.body.length-k∧k≤c.body.length∧h[0]?=some (.cells (clC c) .live)∧st.get 1=.ptr 0 0∧st.get 3=.int .i64 k∧ixF selF c.body 0=ixF selF (c.body.drop k) k
set_option maxRecDepth 8000 in
set_option maxHeartbeats 4000000 in
theorem selected165 (c:Cl) (hb:c.body.length<4000000):CallP C 165 [encCl c]=some (.int .i64 (ixF selF c.body 0)):=by
 refine CallP_W rfl Tryz.func165 rfl (by kernel_rfl) (by simp[Tryz.f165]) fun R hR=>?_
 have fin:∀(st:PT) (h:H) (e:Int),st.get 2=.int .i64 e→ixF selF c.body 0=e→R .ret st h:=fun st h e h2 he=>hR _ _ _ (.inr rfl) ⟨.int .i64 e,by simp[resultV,resV,Tryz.f165,h2],by rw[he];exact snap_dat rfl rfl⟩
 simp[go_sem,box37]
 refine W_loop (NI165 c) c.body.length ⟨0,rfl,Nat.zero_le _,rfl,by simp[go_sem],by simp[go_sem],rfl⟩ ?_
 rintro m st h ⟨k,rfl,hk,m0,g1,g3,hd⟩
 have l0:=ld33c m0
 have hln:=len33f c.body
 by_cases hlt:k<c.body.length
 ·have hlt':(k:Int)<c.body.length:=by omega
  have hix:indexAddrV C.P 33 (factsV c.body) (.int .i64 k)=some (.iptr (encFa c.body[k]) 0):=idx33 c.body k hlt .unk
  have lf:=ld35i c.body[k]
  have s1:=st35z c.body[k] h
  have w2:IntKind.i64.wrap ((k:Int)+1)=((k+1:Nat):Int):=by rw[wrap_in (by omega)];omega
  rw[List.drop_eq_getElem_cons hlt,ixF] at hd
  generalize c.body[k]=f at hix lf s1 hd
  obtain ⟨h2,eh2⟩:∃h2,h2=h++[VObj.cells (faC f) .live]:=⟨_,rfl⟩
  have n0:h2[0]?=some (.cells (clC c) .live):=by rw[eh2];exact ga m0
  have n1:h2[h.length]?=some (.cells (faC f) .live):=by rw[eh2];simp
  rw[←eh2] at s1
  have q0:=ld3f0 n1
  have q2:=ld23f n1
  have next:selF f=false→∀st':PT,st'.get 1=.ptr 0 0→st'.get 3=.int .i64 (k+1:Nat)→∃m,m<c.body.length-k∧NI165 c m st' h2:=fun hs st' a1 a3=>⟨c.body.length-(k+1),by omega,k+1,rfl,hlt,n0,a1,a3,by rw[hd,if_neg (by simp[hs])]⟩
  by_cases k1:f.kind=1
  ·cases hf:f.terms with
   | nil=>
    have hl:=len23t f.terms
    rw[hf] at hl q2
    simp[go_sem,g1,g3,l0,hln,hlt',hix,lf,zv35,cells_agg,s1,q0,q2,k1,hl,-Int.natCast_add,w2]
    exact next (by simp[selF,hf]) _ (by simp[go_sem,g1]) (by simp[go_sem])
   | cons t l=>
    have hl:=len23t f.terms
    have h0:(0:Int)<f.terms.length:=by simp[hf]
    have h0':0<f.terms.length:=by simp[hf]
    have e0:f.terms[0]=t:=by simp[hf]
    have hix2:indexAddrV C.P 23 (terms f.terms) (.int .i64 0)=some (.iptr (enc t) 0):=by rw[←e0];exact idx23t f.terms 0 h0'
    have lt:=ld3i0 t
    by_cases k2:t.kind=1
    ·simp[go_sem,g1,g3,l0,hln,hlt',hix,lf,zv35,cells_agg,s1,q0,q2,k1,hl,h0',hix2,fa25i_0,lt,k2,-Int.natCast_add,w2]
     exact next (by simp[selF,hf,k2]) _ (by simp[go_sem,g1]) (by simp[go_sem])
    ·simp[go_sem,g1,g3,l0,hln,hlt',hix,lf,zv35,cells_agg,s1,q0,q2,k1,hl,h0',hix2,fa25i_0,lt,k2]
     exact fin _ _ k (by simp[go_sem]) (by rw[hd,if_pos (by simp[selF,hf,k1,k2])])
  ·simp[go_sem,g1,g3,l0,hln,hlt',hix,lf,zv35,cells_agg,s1,q0,k1,-Int.natCast_add,w2]
   exact next (by simp[selF,k1]) _ (by simp[go_sem,g1]) (by simp[go_sem])
 ·have:k=c.body.length:=by omega
  subst this
  simp[go_sem,g1,g3,l0,hln]
  exact fin _ _ (-1) (by simp[go_sem]) (by rw[hd];simp[ixF])
theorem call165 (c:Cl) (hb:c.body.length<4000000) (h:H):callV C h (.func 165 []) (some [encCl c])=some (.int .i64 (ixF selF c.body 0),h):=callV_strip (by kernel_rfl) rfl (dat_cl c) (by simp[short_cl]) (by simp) (selected165 c hb)
theorem solved107 (c:Cl) (hs:okF (factsOf c)) (hb:c.body.length<4000000):CallP C 107 [encCl c]=some (.bool (solvB c)):=by
 refine CallP_W rfl Tryz.func107 rfl (by kernel_rfl) (by simp[Tryz.f107]) fun R hR=>?_
 have l0:loadV C.P [.cells (clC c) .live] 37 (.ptr 0 0)=some (encCl c):=ld37c rfl
 have c1:=call37 c hs
 have c2:=call165 c hb
 have hx:=ixF_eq selF c.body 0
 have fin:∀(st:PT) (h:H) (b:Bool),st.get 2=.bool b→solvB c=b→R .ret st h:=fun st h b h2 hb=>hR _ _ _ (.inr rfl) ⟨.bool b,by simp[resultV,resV,Tryz.f107,h2],by rw[hb];exact snap_dat rfl rfl⟩
 by_cases q:clauseE c=0
 ·simp[go_sem,initS,box37,l0,c1,c2,q]
  exact fin _ _ (decide (ixF selF c.body 0 = -1)) (by simp[go_sem]) (by rw[hx];simp[solvB,q])
 ·simp[go_sem,initS,box37,l0,c1,q]
  exact fin _ _ false (by simp[go_sem]) (by simp[solvB,q])
theorem call107 (c:Cl) (hs:okF (factsOf c)) (hb:c.body.length<4000000) (h:H):callV C h (.func 107 []) (some [encCl c])=some (.bool (solvB c),h):=callV_strip (by kernel_rfl) rfl (dat_cl c) (by simp[short_cl]) (by simp) (solved107 c hs hb)
end Go.VZ

/- Whether a clause concerns a fact, and answers it: the tests inside, walked. -/
namespace Go.VZ
open Go Go.V Go.Proofs TL
def ansF (r:List (T × T)) (g:Int) (hd:Fa) (b:Fa):Bool:=decide (b.kind=2)&&decide (b.goal=g)&&decide ((putFa r b).terms=hd.terms)
theorem fld35 (f:Fa):fieldV C.P 35 (encFa f) 2=some (terms f.terms):=by
 have e:∀(k g:Int) (l:List AV),fieldV C.P 35 (.agg [.int .i64 k,.int .i64 g,.isl l .unk]) 2=some (.isl l .unk):=fun k g l=>by kernel_rfl
 exact e _ _ _
theorem fa35i_0 (e:AV):fieldAddrV C.P 35 (.iptr e 0) 0=some (.iptr e 0):=by kernel_rfl
theorem fa35i_1 (e:AV):fieldAddrV C.P 35 (.iptr e 0) 1=some (.iptr e 1):=by kernel_rfl
theorem ldFi1 (f:Fa) (h:H):loadV C.P h 3 (.iptr (.agg (faC f)) 1)=some (.int .i64 f.goal):=by simp[loadV,cellsAt,a3,s3,faC,AV.cells]
theorem ldFi2 (f:Fa) (h:H):loadV C.P h 23 (.iptr (.agg (faC f)) 2)=some (terms f.terms):=by simp[loadV,cellsAt,a23,s23,faC,AV.cells]
theorem ldBi (r:List (T × T)) (h:H):loadV C.P h 46 (.iptr (.agg [binds r]) 0)=some (binds r):=by
 have a:isAggB C.P 46=some false:=by kernel_rfl
 have z:sizeV C.P 46=some 1:=by kernel_rfl
 simp[loadV,cellsAt,a,z,AV.cells]
set_option maxRecDepth 8000 in
set_option maxHeartbeats 4000000 in
theorem clo164 (b f hd:Fa) (r:List (T × T)) (hr:small r) (hrl:r.length<4000000) (hb:smallT b.terms) (hb2:smallT (putFa r b).terms) (hh:smallT hd.terms) :
  CallP C 164 [encFa b,.iptr (.agg (faC f)) 0,.iptr (.agg [binds r]) 0,.iptr (.agg (faC hd)) 0]=some (.bool (ansF r f.goal hd b)):=by
 refine CallP_W rfl Tryz.func164 rfl (by kernel_rfl) (by simp[Tryz.f164]) fun R hR=>?_
 have fin:∀(st:PT) (h:H) (e:Bool),st.get 5=.bool e→ansF r f.goal hd b=e→R .ret st h:=fun st h e h2 he=>hR _ _ _ (.inr rfl) ⟨.bool e,by simp[resultV,resV,Tryz.f164,h2],by rw[he];exact snap_dat rfl rfl⟩
 have bx:=box35 b
 have k0:loadV C.P [.cells (faC b) .live] 3 (.ptr 0 0)=some (.int .i64 b.kind):=ld3f0 rfl
 have k1:loadV C.P [.cells (faC b) .live] 3 (.ptr 0 1)=some (.int .i64 b.goal):=ld3f1 rfl
 have lb:loadV C.P [.cells (faC b) .live] 35 (.ptr 0 0)=some (encFa b):=by simp[loadV,cellsAt,a35,s35,faC,encFa]
 have c1:=call65 r b hr hrl hb
 have c2:=call115b (putFa r b).terms hd.terms hb2 hh
 by_cases q1:b.kind=2
 ·by_cases q2:b.goal=f.goal
  ·simp[go_sem,initS,bx,k0,k1,lb,fa35i_1,fa35_2i,ldFi1,ldFi2,ldBi,c1,c2,fld35,q1,q2]
   exact fin _ _ (decide ((putFa r b).terms=hd.terms)) (by simp[go_sem]) (by simp[ansF,q1,q2])
  ·simp[go_sem,initS,bx,k0,k1,fa35i_1,ldFi1,q1,q2]
   exact fin _ _ false (by simp[go_sem]) (by simp[ansF,q2])
 ·simp[go_sem,initS,bx,k0,q1]
  exact fin _ _ false (by simp[go_sem]) (by simp[ansF,q1])
theorem contains163 (p:Fa→Bool) (l:List Fa) (gf:FuncId) (caps:List AV) (hcap:dats1 caps=some caps) (hcl:caps.length<1000) (hl:l.length<4000000) (hg:∀f∈l,∀h,callV C h (.func gf caps) (some [encFa f])=some (.bool (p f),h)):CallP C 163 [factsV l,.func gf caps]=some (.bool (l.any p)):=by
 refine CallP_W rfl Tryz.func163 rfl (by kernel_rfl) (by simp[Tryz.f163]) fun R hR=>?_
 have c1:=call228 p l gf caps hcap hcl hl hg
 have hx:=ixF_ge p l 0
 simp[go_sem,initS,c1]
 exact hR _ _ _ (.inr rfl) ⟨.bool (l.any p),by simp[resultV,resV,Tryz.f163,go_sem,←hx],snap_dat rfl rfl⟩
end Go.VZ

/- Whether a clause concerns a fact: the program's way walked. -/
namespace Go.VZ
open Go Go.V Go.Proofs TL
structure Pr (c:Cl) (f:Fa):Prop where
 hc:clauseE c=0
 hw:fewCl c 60=true
 hf:factE f=0
 hz:sizes f.terms≤60
noncomputable def apC (c:Cl) (f:Fa):Cl:=putCl (namesQ ((varsRs f.terms).map T.name) (varsRs (termsOf c)) 0) c
def guardC (c:Cl) (f:Fa):Bool:=solvB c&&decide (c.head.kind=f.kind)&&decide (c.head.goal=f.goal)&&decide (c.head.terms.length=f.terms.length)
def UnR (c:Cl) (f:Fa) (r:List (T × T)) (e:Int):Prop:=CallP C 109 [terms (apC c f).head.terms,terms f.terms]=some (.tuple [binds r,.int .i64 e])∧CallP C 162 [terms (apC c f).head.terms,terms f.terms]=some (.tuple [binds r,.int .i64 e])∧(e=0∨e=3∨e=11∨e=12)∧(∀b∈r,validE b.1=0∧validE b.2=0)∧r.length≤200
section
variable {c:Cl}{f:Fa}
theorem Pr.okc (p:Pr c f):okC c:=okC_of p.hc p.hw
theorem Pr.szc (p:Pr c f):sizes (termsOf c)≤60:=by have:=(few_size p.hw (by decide)).2.2;omega
theorem Pr.fact (p:Pr c f):f.terms≠[]∧f.terms.length≤8∧∀t∈f.terms,validE t=0:=factE_zero p.hf
theorem Pr.f400 (p:Pr c f):∀t∈f.terms,t.size≤400:=fun t ht=>(nodes_zero (p.fact.2.2 t ht)).2.1
theorem Pr.vars (p:Pr c f):(varsRs (termsOf c)).length+(varsRs f.terms).length<190:=by
 have h1:=varsRs_len (termsOf c)
 have h2:=varsRs_len f.terms
 have:=p.szc
 have:=p.hz
 omega
theorem Pr.names (p:Pr c f):∀b∈namesQ ((varsRs f.terms).map T.name) (varsRs (termsOf c)) 0,∃m,m<1000∧b.2=.mk 1 (qn m) b.1.sort []:=namesQ_mem (k:=0) (by have:=p.vars;rw[List.length_map];omega) ⟨Nat.zero_le _,by decide⟩
theorem Pr.cval (p:Pr c f):∀g∈factsOf c,∀t∈g.terms,validE t=0:=fun g hg=>(factE_zero ((clause_facts p.hc).2 g hg)).2.2
theorem Pr.apval (p:Pr c f):∀g∈factsOf (apC c f),g.terms.length≤8∧∀t∈g.terms,validE t=0:=by
 have key:∀g∈factsOf c,(putFa (namesQ ((varsRs f.terms).map T.name) (varsRs (termsOf c)) 0) g).terms.length≤8∧∀t∈(putFa (namesQ ((varsRs f.terms).map T.name) (varsRs (termsOf c)) 0) g).terms,validE t=0:=by
  intro g hg
  refine ⟨?_,fun t ht=>?_⟩
  ·have:=(factE_zero ((clause_facts p.hc).2 g hg)).2.1
   simpa [putFa] using this
  ·obtain ⟨u,hu,rfl⟩:=List.mem_map.1 ht
   exact (rename_valid p.names (p.cval g hg u hu)).1
 intro g hg
 rcases List.mem_append.1 hg with hg | hg
 ·obtain ⟨g0,h0,rfl⟩:=List.mem_map.1 hg
  exact key g0 (List.mem_append_left _ h0)
 ·simp only[List.mem_singleton] at hg
  subst hg
  exact key c.head (by simp[factsOf])
theorem Pr.unif (p:Pr c f) (hl:c.head.terms.length=f.terms.length):∃r e,UnR c f r e:=by
 have hd:(apC c f).head∈factsOf (apC c f):=by simp[factsOf]
 have h1:=p.apval _ hd
 have hlen:(apC c f).head.terms.length=f.terms.length:=by simpa [apC,putCl,putFa] using hl
 have hsz:sizes (apC c f).head.terms=sizes c.head.terms:=sizes_map fun t ht=>(rename_valid p.names (p.cval c.head (by simp[factsOf]) t ht)).2
 have hs2:sizes c.head.terms≤60:=by
  have:=p.szc
  rw[termsOf,sizes_append] at this
  omega
 exact lists_same h1.2 p.fact.2.2 hlen h1.1 (by have:=p.hz;omega)
theorem Pr.apsmall (p:Pr c f):∀g∈factsOf (apC c f),smallT g.terms:=fun g hg=>⟨by have:=(p.apval g hg).1;omega,fun t ht=>by have:=(nodes_zero ((p.apval g hg).2 t ht)).2.1;omega⟩
theorem Pr.putsmall (p:Pr c f){r:List (T × T)}(hr:∀b∈r,validE b.1=0∧validE b.2=0):∀g∈factsOf (apC c f),smallT (putFa r g).terms:=fun g hg=>by
 refine ⟨by have:=(p.apval g hg).1;simp[putFa];omega,fun t ht=>?_⟩
 obtain ⟨u,hu,rfl⟩:=List.mem_map.1 ht
 have h1:=putB_size r (fun b hb=>(nodes_zero (hr b hb).2).2.1) u
 have h2:=(nodes_zero ((p.apval g hg).2 u hu)).2.1
 omega
end
theorem small_of {r:List (T × T)}(hr:∀b∈r,validE b.1=0∧validE b.2=0):small r:=fun b hb=>⟨by have:=(nodes_zero (hr b hb).1).2.1;omega,by have:=(nodes_zero (hr b hb).2).2.1;omega⟩
theorem call162 (l m:List T) (v:AV) (hs:CallP C 162 [terms l,terms m]=some v) (h:H):callV C h (.func 162 []) (some [terms l,terms m])=some (v,h):=callV_strip (by kernel_rfl) rfl rfl (by simp[short_terms]) (by simp) hs
theorem call109 (l m:List T) (v:AV) (hs:CallP C 109 [terms l,terms m]=some v) (h:H):callV C h (.func 109 []) (some [terms l,terms m])=some (v,h):=callV_strip (by kernel_rfl) rfl rfl (by simp[short_terms]) (by simp) hs
theorem zv46:zeroV C.P 46=some (.isl [] .full):=by kernel_rfl
noncomputable def concB (c:Cl) (f:Fa) (r:List (T × T)) (e:Int):Bool × Bool:=if guardC c f=true then (decide (e=0∨e=3),decide (e=0)&&(apC c f).body.any (ansF r f.goal (putFa r (apC c f).head))) else (false,false)
set_option maxRecDepth 8000 in
set_option maxHeartbeats 16000000 in
theorem conc106 {c:Cl}{f:Fa}(p:Pr c f) (r:List (T × T)) (e:Int) (hu:guardC c f=true→UnR c f r e):CallP C 106 [encCl c,encFa f]=some (.tuple [.bool (concB c f r e).1,.bool (concB c f r e).2]):=by
 refine CallP_W rfl Tryz.func106 rfl (by kernel_rfl) (by simp[Tryz.f106]) fun R hR=>?_
 have fin:∀(st:PT) (h:H) (a b:Bool),st.get 4=.bool a→st.get 5=.bool b→concB c f r e=(a,b)→R .ret st h:=fun st h a b h4 h5 he=>hR _ _ _ (.inr rfl) ⟨.tuple [.bool a,.bool b],by simp[resultV,resVs,resV,Tryz.f106,h4,h5],by rw[he];exact snap_tuple rfl rfl (by simp)⟩
 have bx:=box35 f
 have hbl:=p.okc.1
 obtain ⟨h0,eh0⟩:∃g:H,g=[.cells (clC c) .live,.cells (faC f) .live]:=⟨_,rfl⟩
 have m0:h0[0]?=some (.cells (clC c) .live):=by rw[eh0];rfl
 have m1:h0[1]?=some (.cells (faC f) .live):=by rw[eh0];rfl
 have l0:=ld37c m0
 have k0:loadV C.P h0 3 (.ptr 0 1)=some (.int .i64 c.head.kind):=by simp[loadV,m0,cellsAt,a3,s3,clC,faC]
 have k1:loadV C.P h0 3 (.ptr 0 2)=some (.int .i64 c.head.goal):=by simp[loadV,m0,cellsAt,a3,s3,clC,faC]
 have k2:=ld23h m0
 have j0:=ld3f0 m1
 have j1:=ld3f1 m1
 have j2:=ld23f m1
 have lj:=len23t f.terms
 have lk:=len23t c.head.terms
 have lf:loadV C.P h0 35 (.ptr 1 0)=some (encFa f):=by simp[loadV,m1,cellsAt,a35,s35,faC,encFa]
 rw[eh0] at l0 k0 k1 k2 j0 j1 j2 lf
 have c1:=call160 c (few_okF p.hw (by decide) (by decide)) (by omega)
 by_cases q1:solvB c=true
 rotate_left
 ·simp[go_sem,initS,box37,bx,l0,c1,q1]
  exact fin _ _ false false (by simp[go_sem]) (by simp[go_sem]) (by simp[concB,guardC,q1])
 by_cases q2:c.head.kind=f.kind
 rotate_left
 ·simp[go_sem,initS,box37,bx,l0,c1,q1,k0,j0,q2]
  exact fin _ _ false false (by simp[go_sem]) (by simp[go_sem]) (by simp[concB,guardC,q2])
 by_cases q3:c.head.goal=f.goal
 rotate_left
 ·simp[go_sem,initS,box37,bx,l0,c1,q1,k0,j0,q2,k1,j1,q3]
  exact fin _ _ false false (by simp[go_sem]) (by simp[go_sem]) (by simp[concB,guardC,q3])
 by_cases q4:c.head.terms.length=f.terms.length
 rotate_left
 ·have q4':¬(c.head.terms.length:Int)=f.terms.length:=by omega
  simp[go_sem,initS,box37,bx,l0,c1,q1,k0,j0,q2,k1,j1,q3,k2,j2,lk,lj,q4']
  exact fin _ _ false false (by simp[go_sem]) (by simp[go_sem]) (by simp[concB,guardC,q4])
 have hg:guardC c f=true:=by simp[guardC,q1,q2,q3,q4]
 obtain ⟨_,u162,hcod,hval,hrl⟩:=hu hg
 rw[q4] at lk
 have c2:=call161 c f p.okc p.f400 (by have:=p.fact.2.1;omega) p.fact.1 p.vars
 rw[show putCl (namesQ ((varsRs f.terms).map T.name) (varsRs (termsOf c)) 0) c=apC c f from rfl] at c2
 have c3:=call162 _ _ _ u162
 have hD:=p.apsmall
 have hE:=p.putsmall hval
 have hDb:(apC c f).body.length<4000000:=by
  have:(apC c f).body.length=c.body.length:=by simp[apC,putCl]
  omega
 have hcB:concB c f r e=(decide (e=0∨e=3),decide (e=0)&&(apC c f).body.any (ansF r f.goal (putFa r (apC c f).head))):=by rw[concB,if_pos hg]
 generalize apC c f=D at c2 c3 hD hE hcB hDb
 have n1:([.cells (clC D) .live,.cells (faC f) .live]:H)[1]?=some (.cells (faC f) .live):=rfl
 have s1:storeV C.P [.cells (clC c) .live,.cells (faC f) .live] 37 (.ptr 0 0) (encCl D)=some [.cells (clC D) .live,.cells (faC f) .live]:=st37w c D rfl
 have p2:loadV C.P [.cells (clC D) .live,.cells (faC f) .live] 23 (.ptr 0 3)=some (terms D.head.terms):=ld23h rfl
 have p3:loadV C.P [.cells (clC D) .live,.cells (faC f) .live] 23 (.ptr 1 2)=some (terms f.terms):=ld23f rfl
 have s2:storeV C.P [.cells (clC D) .live,.cells (faC f) .live,.cells [.isl [] .full] .live] 46 (.ptr 2 0) (binds r)=some [.cells (clC D) .live,.cells (faC f) .live,.cells [binds r] .live]:=by
  have z:sizeV C.P 46=some 1:=by kernel_rfl
  simp[storeV,z,binds]
 have ci:(AV.isl [] Ext.full).cells=[.isl [] .full]:=rfl
 by_cases q5:e=0
 rotate_left
 ·by_cases q6:e=3
  ·simp[go_sem,initS,box37,bx,l0,c1,q1,k0,j0,q2,k1,j1,q3,k2,j2,lk,lj,lf,c2,s1,p2,p3,c3,zv46,ci,s2,q6]
   exact fin _ _ true false (by simp[go_sem]) (by simp[go_sem]) (by rw[hcB];simp[q6])
  ·simp[go_sem,initS,box37,bx,l0,c1,q1,k0,j0,q2,k1,j1,q3,k2,j2,lk,lj,lf,c2,s1,p2,p3,c3,zv46,ci,s2,q5,q6]
   exact fin _ _ false false (by simp[go_sem]) (by simp[go_sem]) (by rw[hcB];simp[q5,q6])
 subst q5
 have lb:loadV C.P [.cells (clC D) .live,.cells (faC f) .live,.cells [binds r] .live] 46 (.ptr 2 0)=some (binds r):=by
  have a:isAggB C.P 46=some false:=by kernel_rfl
  have z:sizeV C.P 46=some 1:=by kernel_rfl
  simp[loadV,cellsAt,a,z]
 have lh:loadV C.P [.cells (clC D) .live,.cells (faC f) .live,.cells [binds r] .live] 35 (.ptr 0 1)=some (encFa D.head):=ld35c rfl
 have hsr:=small_of hval
 have c4:=call65 r D.head hsr (by omega) (hD _ (by simp[factsOf]))
 have s3:storeV C.P [.cells (clC D) .live,.cells (faC f) .live,.cells [binds r] .live,.cells z35c .live] 35 (.ptr 3 0) (encFa (putFa r D.head))=some [.cells (clC D) .live,.cells (faC f) .live,.cells [binds r] .live,.cells (faC (putFa r D.head)) .live]:=st35z (putFa r D.head) [.cells (clC D) .live,.cells (faC f) .live,.cells [binds r] .live]
 have lbd:loadV C.P [.cells (clC D) .live,.cells (faC f) .live,.cells [binds r] .live,.cells (faC (putFa r D.head)) .live] 33 (.ptr 0 0)=some (factsV D.body):=ld33c rfl
 have hans:CallP C 163 [factsV D.body,.func 164 [.iptr (.agg (faC f)) 0,.iptr (.agg [binds r]) 0,.iptr (.agg (faC (putFa r D.head))) 0]]=some (.bool (D.body.any (ansF r f.goal (putFa r D.head)))):=by
  refine contains163 _ D.body 164 _ rfl (by simp) hDb fun b hb h=>?_
  refine callV_stripc (l':=[encFa b,.iptr (.agg (faC f)) 0,.iptr (.agg [binds r]) 0,.iptr (.agg (faC (putFa r D.head))) 0]) (by kernel_rfl) rfl rfl rfl (by simp) ?_ h
  have hbf:b∈factsOf D:=List.mem_append_left _ hb
  exact clo164 b f (putFa r D.head) r hsr (by omega) (hD b hbf) (hE b hbf) (hE D.head (by simp[factsOf]))
 have c5:callV C [.cells (clC D) .live,.cells (faC f) .live,.cells [binds r] .live,.cells (faC (putFa r D.head)) .live] (.func 163 []) (some [factsV D.body,.func 164 [.ptr 1 0,.ptr 2 0,.ptr 3 0]])=some (.bool (D.body.any (ansF r f.goal (putFa r D.head))),[.cells (clC D) .live,.cells (faC f) .live,.cells [binds r] .live,.cells (faC (putFa r D.head)) .live]):=
  callV_clo (l:=[(1,faC f),(2,[binds r]),(3,faC (putFa r D.head))]) (by kernel_rfl) rfl (a:=factsV D.body) (a':=factsV D.body) rfl rfl (fun q hq=>by
   simp only[List.mem_cons,List.not_mem_nil,or_false] at hq
   rcases hq with rfl | rfl | rfl
   ·exact ⟨rfl,rfl,rfl,by simp[faC]⟩
   ·exact ⟨rfl,rfl,rfl,by simp⟩
   ·exact ⟨rfl,rfl,rfl,by simp[faC]⟩) (by simp) hans rfl
 simp[go_sem,initS,box37,bx,l0,c1,q1,k0,j0,q2,k1,j1,q3,k2,j2,lk,lj,lf,c2,s1,p2,p3,c3,zv46,ci,s2,lb,lh,c4,zv35,cells_agg,s3,lbd,c5]
 exact fin _ _ true (D.body.any (ansF r f.goal (putFa r D.head))) (by simp[go_sem]) (by simp[go_sem]) (by rw[hcB];simp)
end Go.VZ

/- Whether a clause concerns a fact, and answers it: the document's way walked. -/
namespace Go.VZ
open Go Go.V Go.Proofs TL
def ansH (hd:Fa) (b:Fa):Bool:=decide (b.kind=2)&&decide (b.goal=hd.goal)&&decide (b.terms=hd.terms)
def NI55 (c:Cl) (m:Nat) (st:PT) (h:H):Prop:=∃k:Nat,m=c.body.length-k∧k≤c.body.length∧h[0]?=some (.cells (clC c) .live)∧st.get 1=.ptr 0 0∧st.get 3=.int .i64 k∧c.body.any (ansH c.head)=(c.body.drop k).any (ansH c.head)
set_option maxRecDepth 8000 in
set_option maxHeartbeats 8000000 in
theorem answers55 (c:Cl) (hs:∀g∈factsOf c,smallT g.terms) (hb:c.body.length<4000000):CallP C 55 [encCl c]=some (.bool (c.body.any (ansH c.head))):=by
 refine CallP_W rfl Tryz.func55 rfl (by kernel_rfl) (by simp[Tryz.f55]) fun R hR=>?_
 have fin:∀(st:PT) (h:H) (e:Bool),st.get 2=.bool e→c.body.any (ansH c.head)=e→R .ret st h:=fun st h e h2 he=>hR _ _ _ (.inr rfl) ⟨.bool e,by simp[resultV,resV,Tryz.f55,h2],by rw[he];exact snap_dat rfl rfl⟩
 simp[go_sem,box37]
 refine W_loop (NI55 c) c.body.length ⟨0,rfl,Nat.zero_le _,rfl,by simp[go_sem],by simp[go_sem],rfl⟩ ?_
 rintro m st h ⟨k,rfl,hk,m0,g1,g3,hd⟩
 have l0:=ld33c m0
 have hln:=len33f c.body
 by_cases hlt:k<c.body.length
 ·have hlt':(k:Int)<c.body.length:=by omega
  have hix:indexAddrV C.P 33 (factsV c.body) (.int .i64 k)=some (.iptr (encFa c.body[k]) 0):=idx33 c.body k hlt .unk
  have hsb:=hs _ (List.mem_append_left [c.head] (List.getElem_mem hlt))
  have hsh:=hs c.head (by simp[factsOf])
  have lf:=ld35i c.body[k]
  have s1:=st35z c.body[k] h
  have w2:IntKind.i64.wrap ((k:Int)+1)=((k+1:Nat):Int):=by rw[wrap_in (by omega)];omega
  rw[List.drop_eq_getElem_cons hlt,List.any_cons] at hd
  generalize c.body[k]=b at hix lf s1 hd hsb
  obtain ⟨h2,eh2⟩:∃h2,h2=h++[VObj.cells (faC b) .live]:=⟨_,rfl⟩
  have n0:h2[0]?=some (.cells (clC c) .live):=by rw[eh2];exact ga m0
  have n1:h2[h.length]?=some (.cells (faC b) .live):=by rw[eh2];simp
  rw[←eh2] at s1
  have b0:=ld3f0 n1
  have b1:=ld3f1 n1
  have b2:=ld23f n1
  have hg:loadV C.P h2 3 (.ptr 0 2)=some (.int .i64 c.head.goal):=by simp[loadV,n0,cellsAt,a3,s3,clC,faC]
  have ht:=ld23h n0
  have c1:=call110 b.terms c.head.terms hsb hsh
  have next:ansH c.head b=false→∀st':PT,st'.get 1=.ptr 0 0→st'.get 3=.int .i64 (k+1:Nat)→∃m,m<c.body.length-k∧NI55 c m st' h2:=fun hs st' a1 a3=>⟨c.body.length-(k+1),by omega,k+1,rfl,hlt,n0,a1,a3,by rw[hd,hs,Bool.false_or]⟩
  by_cases q1:b.kind=2
  ·by_cases q2:b.goal=c.head.goal
   ·by_cases q3:b.terms=c.head.terms
    ·have c1t:∀h,callV C h (.func 110 []) (some [terms b.terms,terms c.head.terms])=some (.bool true,h):=fun h=>by rw[c1,decide_eq_true q3]
     simp[go_sem,g1,g3,l0,hln,hlt',hix,lf,zv35,cells_agg,s1,b0,b1,b2,hg,ht,c1t,q1,q2]
     exact fin _ _ true (by simp[go_sem]) (by rw[hd];simp[ansH,q1,q2,q3])
    ·simp[go_sem,g1,g3,l0,hln,hlt',hix,lf,zv35,cells_agg,s1,b0,b1,b2,hg,ht,c1,q1,q2,q3,-Int.natCast_add,w2]
     exact next (by simp[ansH,q3]) _ (by simp[go_sem,g1]) (by simp[go_sem])
   ·simp[go_sem,g1,g3,l0,hln,hlt',hix,lf,zv35,cells_agg,s1,b0,b1,hg,q1,q2,-Int.natCast_add,w2]
    exact next (by simp[ansH,q2]) _ (by simp[go_sem,g1]) (by simp[go_sem])
  ·simp[go_sem,g1,g3,l0,hln,hlt',hix,lf,zv35,cells_agg,s1,b0,q1,-Int.natCast_add,w2]
   exact next (by simp[ansH,q1]) _ (by simp[go_sem,g1]) (by simp[go_sem])
 ·have:k=c.body.length:=by omega
  subst this
  simp[go_sem,g1,g3,l0,hln]
  exact fin _ _ false (by simp[go_sem]) (by rw[hd];simp)
theorem call55 (c:Cl) (hs:∀g∈factsOf c,smallT g.terms) (hb:c.body.length<4000000) (h:H):callV C h (.func 55 []) (some [encCl c])=some (.bool (c.body.any (ansH c.head)),h):=callV_strip (by kernel_rfl) rfl (dat_cl c) (by simp[short_cl]) (by simp) (answers55 c hs hb)
def noCl:Cl:=⟨[],⟨0,0,[]⟩⟩
noncomputable def conR (c:Cl) (f:Fa) (r:List (T × T)) (e:Int):Cl × Bool × Bool:=if guardC c f=true then (if e=11∨e=12 then (noCl,false,false) else if e≠0 then (noCl,true,false) else (putCl r (apC c f),true,true)) else (noCl,false,false)
theorem bld37n:buildV C.P 37 []=some (.agg z37c):=by kernel_rfl
set_option maxRecDepth 8000 in
set_option maxHeartbeats 16000000 in
theorem conc54 {c:Cl}{f:Fa}(p:Pr c f) (r:List (T × T)) (e:Int) (hu:guardC c f=true→UnR c f r e):CallP C 54 [encCl c,encFa f]=some (.tuple [encCl (conR c f r e).1,.bool (conR c f r e).2.1,.bool (conR c f r e).2.2]):=by
 refine CallP_W rfl Tryz.func54 rfl (by kernel_rfl) (by simp[Tryz.f54]) fun R hR=>?_
 have finN:∀(st:PT) (h:H) (a b:Bool),h[2]?=some (.cells z37c .live)→st.get 4=.ptr 2 0→st.get 5=.bool a→st.get 6=.bool b→conR c f r e=(noCl,a,b)→R .ret st h:=fun st h a b hh h4 h5 h6 he=>by
  have l:loadV C.P h 37 (.ptr 2 0)=some (.agg z37c):=by simp[loadV,hh,cellsAt,a37,s37,z37c]
  refine hR _ _ _ (.inr rfl) ⟨.tuple [.agg z37c,.bool a,.bool b],by simp[resultV,resVs,resV,Tryz.f54,h4,h5,h6,l],?_⟩
  rw[he];exact snap_tuple rfl rfl (by simp)
 have finY:∀(st:PT) (h:H) (D:Cl) (a b:Bool),h[2]?=some (.cells (clC D) .live)→st.get 4=.ptr 2 0→st.get 5=.bool a→st.get 6=.bool b→conR c f r e=(D,a,b)→R .ret st h:=fun st h D a b hh h4 h5 h6 he=>by
  have l:=ld37c hh
  have nt:notTuple (encCl D)=true:=rfl
  refine hR _ _ _ (.inr rfl) ⟨.tuple [encCl D,.bool a,.bool b],by simp[resultV,resVs,resV,Tryz.f54,h4,h5,h6,l],?_⟩
  rw[he];exact snap_tuple rfl rfl (by simp)
 have bx:=box35 f
 have hbl:=p.okc.1
 obtain ⟨h0,eh0⟩:∃g:H,g=[.cells (clC c) .live,.cells (faC f) .live,.cells z37c .live]:=⟨_,rfl⟩
 have m0:h0[0]?=some (.cells (clC c) .live):=by rw[eh0];rfl
 have m1:h0[1]?=some (.cells (faC f) .live):=by rw[eh0];rfl
 have l0:=ld37c m0
 have k0:loadV C.P h0 3 (.ptr 0 1)=some (.int .i64 c.head.kind):=by simp[loadV,m0,cellsAt,a3,s3,clC,faC]
 have k1:loadV C.P h0 3 (.ptr 0 2)=some (.int .i64 c.head.goal):=by simp[loadV,m0,cellsAt,a3,s3,clC,faC]
 have k2:=ld23h m0
 have j0:=ld3f0 m1
 have j1:=ld3f1 m1
 have j2:=ld23f m1
 have lj:=len23t f.terms
 have lk:=len23t c.head.terms
 have lf:loadV C.P h0 35 (.ptr 1 0)=some (encFa f):=by simp[loadV,m1,cellsAt,a35,s35,faC,encFa]
 rw[eh0] at l0 k0 k1 k2 j0 j1 j2 lf
 have c1:=call107 c (few_okF p.hw (by decide) (by decide)) (by omega)
 have sz:∀(a b:List AV),storeV C.P [.cells a .live,.cells b .live,.cells z37c .live] 37 (.ptr 2 0) (.agg z37c)=some [.cells a .live,.cells b .live,.cells z37c .live]:=fun a b=>by simp[storeV,s37,z37c]
 have bn:=bld37n
 by_cases q1:solvB c=true
 rotate_left
 ·simp[go_sem,initS,box37,bx,zv37,cells_agg,l0,c1,q1,bn,sz]
  exact finN _ _ false false rfl (by simp[go_sem]) (by simp[go_sem]) (by simp[go_sem]) (by simp[conR,guardC,q1])
 by_cases q2:c.head.kind=f.kind
 rotate_left
 ·simp[go_sem,initS,box37,bx,zv37,cells_agg,l0,c1,q1,k0,j0,q2,bn,sz]
  exact finN _ _ false false rfl (by simp[go_sem]) (by simp[go_sem]) (by simp[go_sem]) (by simp[conR,guardC,q2])
 by_cases q3:c.head.goal=f.goal
 rotate_left
 ·simp[go_sem,initS,box37,bx,zv37,cells_agg,l0,c1,q1,k0,j0,q2,k1,j1,q3,bn,sz]
  exact finN _ _ false false rfl (by simp[go_sem]) (by simp[go_sem]) (by simp[go_sem]) (by simp[conR,guardC,q3])
 by_cases q4:c.head.terms.length=f.terms.length
 rotate_left
 ·have q4':¬(c.head.terms.length:Int)=f.terms.length:=by omega
  simp[go_sem,initS,box37,bx,zv37,cells_agg,l0,c1,q1,k0,j0,q2,k1,j1,q3,k2,j2,lk,lj,q4',bn,sz]
  exact finN _ _ false false rfl (by simp[go_sem]) (by simp[go_sem]) (by simp[go_sem]) (by simp[conR,guardC,q4])
 have hg:guardC c f=true:=by simp[guardC,q1,q2,q3,q4]
 obtain ⟨u109,_,hcod,hval,hrl⟩:=hu hg
 rw[q4] at lk
 have c2:=call108 c f p.okc p.f400 (by have:=p.fact.2.1;omega) p.vars
 rw[show putCl (namesQ ((varsRs f.terms).map T.name) (varsRs (termsOf c)) 0) c=apC c f from rfl] at c2
 have c3:=call109 _ _ _ u109
 have hD:=p.apsmall
 have hDb:(apC c f).body.length<10000:=by
  have:(apC c f).body.length=c.body.length:=by simp[apC,putCl]
  omega
 have hcR:conR c f r e=(if e=11∨e=12 then (noCl,false,false) else if e≠0 then (noCl,true,false) else (putCl r (apC c f),true,true)):=by rw[conR,if_pos hg]
 generalize apC c f=D at c2 c3 hD hDb hcR
 have s1:storeV C.P [.cells (clC c) .live,.cells (faC f) .live,.cells z37c .live,.cells z37c .live] 37 (.ptr 3 0) (encCl D)=some [.cells (clC c) .live,.cells (faC f) .live,.cells z37c .live,.cells (clC D) .live]:=st37zy D rfl
 have p2:loadV C.P [.cells (clC c) .live,.cells (faC f) .live,.cells z37c .live,.cells (clC D) .live] 23 (.ptr 3 3)=some (terms D.head.terms):=ld23h rfl
 have p3:loadV C.P [.cells (clC c) .live,.cells (faC f) .live,.cells z37c .live,.cells (clC D) .live] 23 (.ptr 1 2)=some (terms f.terms):=ld23f rfl
 have p4:loadV C.P [.cells (clC c) .live,.cells (faC f) .live,.cells z37c .live,.cells (clC D) .live] 37 (.ptr 3 0)=some (encCl D):=ld37c rfl
 have sz2:storeV C.P [.cells (clC c) .live,.cells (faC f) .live,.cells z37c .live,.cells (clC D) .live] 37 (.ptr 2 0) (.agg z37c)=some [.cells (clC c) .live,.cells (faC f) .live,.cells z37c .live,.cells (clC D) .live]:=by simp[storeV,s37,z37c]
 have s2:∀E:Cl,storeV C.P [.cells (clC c) .live,.cells (faC f) .live,.cells z37c .live,.cells (clC D) .live] 37 (.ptr 2 0) (encCl E)=some [.cells (clC c) .live,.cells (faC f) .live,.cells (clC E) .live,.cells (clC D) .live]:=fun E=>st37zy E rfl
 have c4:=call71 r D (small_of hval) (by omega) hD (by omega)
 rcases hcod with rfl | rfl | rfl | rfl
 ·simp[go_sem,initS,box37,bx,zv37,cells_agg,l0,c1,q1,k0,j0,q2,k1,j1,q3,k2,j2,lk,lj,lf,c2,s1,p2,p3,c3,p4,c4,s2]
  exact finY _ _ (putCl r D) true true rfl (by simp[go_sem]) (by simp[go_sem]) (by simp[go_sem]) (by rw[hcR];simp)
 ·simp[go_sem,initS,box37,bx,zv37,cells_agg,l0,c1,q1,k0,j0,q2,k1,j1,q3,k2,j2,lk,lj,lf,c2,s1,p2,p3,c3,bn,sz2]
  exact finN _ _ true false rfl (by simp[go_sem]) (by simp[go_sem]) (by simp[go_sem]) (by rw[hcR];simp)
 ·simp[go_sem,initS,box37,bx,zv37,cells_agg,l0,c1,q1,k0,j0,q2,k1,j1,q3,k2,j2,lk,lj,lf,c2,s1,p2,p3,c3,bn,sz2]
  exact finN _ _ false false rfl (by simp[go_sem]) (by simp[go_sem]) (by simp[go_sem]) (by rw[hcR];simp)
 ·simp[go_sem,initS,box37,bx,zv37,cells_agg,l0,c1,q1,k0,j0,q2,k1,j1,q3,k2,j2,lk,lj,lf,c2,s1,p2,p3,c3,bn,sz2]
  exact finN _ _ false false rfl (by simp[go_sem]) (by simp[go_sem]) (by simp[go_sem]) (by rw[hcR];simp)
end Go.VZ

/- The first clause that leaves a fact open, both ways. -/
namespace Go.VZ
open Go Go.V Go.Proofs TL
open Classical in
noncomputable def unV (c:Cl) (f:Fa):List (T × T) × Int:=if h:∃p:List (T × T) × Int,UnR c f p.1 p.2 then h.choose else ([],0)
theorem unV_spec {c:Cl}{f:Fa}(p:Pr c f) (hg:guardC c f=true):UnR c f (unV c f).1 (unV c f).2:=by
 have hl:c.head.terms.length=f.terms.length:=by
  simp only[guardC,Bool.and_eq_true,decide_eq_true_eq] at hg
  exact hg.2
 obtain ⟨r,e,h⟩:=p.unif hl
 have hx:∃p:List (T × T) × Int,UnR c f p.1 p.2:=⟨(r,e),h⟩
 unfold unV
 rw[dif_pos hx]
 exact hx.choose_spec
noncomputable def openB (f:Fa) (c:Cl):Bool:=(concB c f (unV c f).1 (unV c f).2).1 && !(decide (f.kind=3)&&(concB c f (unV c f).1 (unV c f).2).2)
noncomputable def openR (f:Fa) (c:Cl):Bool:=(conR c f (unV c f).1 (unV c f).2).2.1&&(decide (f.kind≠3) || !(conR c f (unV c f).1 (unV c f).2).2.2 || !(conR c f (unV c f).1 (unV c f).2).1.body.any (ansH (conR c f (unV c f).1 (unV c f).2).1.head))
theorem any_map {α β:Type}(g:α→β) (p:β→Bool) (l:List α):(l.map g).any p=l.any fun a=>p (g a):=by
 rw[List.any_map];rfl
theorem ans_put (r:List (T × T)) (hd b:Fa):ansH (putFa r hd) (putFa r b)=ansF r hd.goal (putFa r hd) b:=rfl
theorem open_same {c:Cl}{f:Fa}(p:Pr c f):openR f c=openB f c:=by
 unfold openR openB conR concB
 by_cases hg:guardC c f=true
 ·obtain ⟨_,_,hcod,_,_⟩:=unV_spec p hg
  simp only[if_pos hg]
  have hgoal:(apC c f).head.goal=f.goal:=by
   simp only[guardC,Bool.and_eq_true,decide_eq_true_eq] at hg
   simpa [apC,putCl,putFa] using hg.1.2
  generalize (unV c f).1=r
  generalize (unV c f).2=e at hcod
  generalize apC c f=D at hgoal
  have hans:(putCl r D).body.any (ansH (putCl r D).head)=D.body.any (ansF r f.goal (putFa r D.head)):=by
   unfold putCl
   dsimp only
   rw[any_map]
   congr 1
   funext b
   rw[←hgoal];exact ans_put r D.head b
  rcases hcod with rfl | rfl | rfl | rfl
  ·simp[hans]
  ·simp
  ·simp
  ·simp
 ·simp only[if_neg hg]
  simp
theorem ldFi (f:Fa) (h:H):loadV C.P h 35 (.iptr (.agg (faC f)) 0)=some (encFa f):=by simp[loadV,cellsAt,a35,s35,faC,AV.cells,encFa]
theorem ldFi0 (f:Fa) (h:H):loadV C.P h 3 (.iptr (.agg (faC f)) 0)=some (.int .i64 f.kind):=by simp[loadV,cellsAt,a3,s3,faC,AV.cells]
theorem call106 {c:Cl}{f:Fa}(p:Pr c f) (h:H):callV C h (.func 106 []) (some [encCl c,encFa f])=some (.tuple [.bool (concB c f (unV c f).1 (unV c f).2).1,.bool (concB c f (unV c f).1 (unV c f).2).2],h):=callV_strip (by kernel_rfl) rfl (args':=[encCl c,encFa f]) rfl (by simp[short_cl];rfl) (by simp) (conc106 p _ _ (unV_spec p))
theorem call54 {c:Cl}{f:Fa}(p:Pr c f) (h:H):callV C h (.func 54 []) (some [encCl c,encFa f])=some (.tuple [encCl (conR c f (unV c f).1 (unV c f).2).1,.bool (conR c f (unV c f).1 (unV c f).2).2.1,.bool (conR c f (unV c f).1 (unV c f).2).2.2],h):=callV_strip (by kernel_rfl) rfl (args':=[encCl c,encFa f]) rfl (by simp[short_cl];rfl) (by simp) (conc54 p _ _ (unV_spec p))
set_option maxRecDepth 8000 in
set_option maxHeartbeats 4000000 in
theorem clo105 {c:Cl}{f:Fa}(p:Pr c f):CallP C 105 [encCl c,.iptr (.agg (faC f)) 0]=some (.bool (openB f c)):=by
 refine CallP_W rfl Tryz.func105 rfl (by kernel_rfl) (by simp[Tryz.f105]) fun R hR=>?_
 have fin:∀(st:PT) (h:H) (e:Bool),st.get 3=.bool e→openB f c=e→R .ret st h:=fun st h e h2 he=>hR _ _ _ (.inr rfl) ⟨.bool e,by simp[resultV,resV,Tryz.f105,h2],by rw[he];exact snap_dat rfl rfl⟩
 have l0:loadV C.P [.cells (clC c) .live] 37 (.ptr 0 0)=some (encCl c):=ld37c rfl
 have c1:=call106 p
 have ho:openB f c=((concB c f (unV c f).1 (unV c f).2).1 && !(decide (f.kind=3)&&(concB c f (unV c f).1 (unV c f).2).2)):=rfl
 generalize (concB c f (unV c f).1 (unV c f).2).1=a at c1 ho
 generalize (concB c f (unV c f).1 (unV c f).2).2=b at c1 ho
 cases a
 ·simp[go_sem,initS,box37,l0,ldFi,c1]
  exact fin _ _ false (by simp[go_sem]) (by rw[ho];simp)
 ·by_cases q:f.kind=3
  ·cases b
   ·simp[go_sem,initS,box37,l0,ldFi,c1,fa35i_0,ldFi0,q]
    exact fin _ _ true (by simp[go_sem]) (by rw[ho];simp)
   ·simp[go_sem,initS,box37,l0,ldFi,c1,fa35i_0,ldFi0,q]
    exact fin _ _ false (by simp[go_sem]) (by rw[ho];simp[q])
  ·simp[go_sem,initS,box37,l0,ldFi,c1,fa35i_0,ldFi0,q]
   exact fin _ _ true (by simp[go_sem]) (by rw[ho];simp[q])
def NI104 (p:Cl→Bool) (l:List Cl) (gv:AV) (m:Nat) (st:PT) (_h:H):Prop:=∃k:Nat,m=l.length-k∧k≤l.length∧st.get 0=clsV l∧st.get 1=gv∧st.get 7=.int .i64 l.length∧st.get 8=.int .i64 k∧ixF p l 0=ixF p (l.drop k) k
set_option maxHeartbeats 2000000 in
theorem index104 (p:Cl→Bool) (l:List Cl) (gv:AV) (hl:l.length<4000000) (hg:∀f∈l,∀h,callV C h gv (some [encCl f])=some (.bool (p f),h)):CallP C 104 [clsV l,gv]=some (.int .i64 (ixF p l 0)):=by
 refine CallP_W rfl Tryz.func104 rfl (by kernel_rfl) (by simp[Tryz.f104]) fun R hR=>?_
 have fin:∀(st:PT) (h:H) (e:Int),st.get 4=.int .i64 e→ixF p l 0=e→R .ret st h:=fun st h e h2 he=>hR _ _ _ (.inr rfl) ⟨.int .i64 e,by simp[resultV,resV,Tryz.f104,h2],by rw[he];exact snap_dat rfl rfl⟩
 have hln:=len22c l
 simp[go_sem,hln]
 refine W_loop (NI104 p l gv) l.length ⟨0,rfl,Nat.zero_le _,by simp[go_sem],by simp[go_sem],by simp[go_sem],by simp[go_sem],rfl⟩ ?_
 rintro m st h ⟨k,rfl,hk,g0,g1,g7,g8,hd⟩
 by_cases hlt:k<l.length
 ·have hlt':(k:Int)<l.length:=by omega
  have hix:=idx22 l k hlt
  have lf:=ld37i l[k]
  have cg:=hg _ (List.getElem_mem hlt)
  have w2:IntKind.i64.wrap ((k:Int)+1)=((k+1:Nat):Int):=by rw[wrap_in (by omega)];omega
  rw[List.drop_eq_getElem_cons hlt,ixF] at hd
  by_cases q:p l[k]=true
  ·simp[go_sem,g0,g1,g7,g8,hlt',hix,lf,cg,q]
   exact fin _ _ k (by simp[go_sem]) (by rw[hd,if_pos q])
  ·simp[go_sem,g0,g1,g7,g8,hlt',hix,lf,cg,q,-Int.natCast_add,w2]
   exact ⟨l.length-(k+1),by omega,k+1,rfl,hlt,by simp[go_sem,g0],by simp[go_sem,g1],by simp[go_sem,g7],by simp[go_sem],by rw[hd,if_neg q]⟩
 ·have:k=l.length:=by omega
  subst this
  simp[go_sem,g7,g8]
  exact fin _ _ (-1) (by simp[go_sem]) (by rw[hd];simp[ixF])
theorem unsettled53 (l:List Cl) (f:Fa) (hl:l.length<4000000) (hp:∀c∈l,Pr c f):CallP C 53 [clsV l,encFa f]=some (.int .i64 (ixF (openB f) l 0)):=by
 refine CallP_W rfl Tryz.func53 rfl (by kernel_rfl) (by simp[Tryz.f53]) fun R hR=>?_
 have bx:=box35 f
 have h1:CallP C 104 [clsV l,.func 105 [.iptr (.agg (faC f)) 0]]=some (.int .i64 (ixF (openB f) l 0)):=index104 _ l _ hl fun c hc h=>callV_stripc (l':=[encCl c,.iptr (.agg (faC f)) 0]) (by kernel_rfl) rfl rfl rfl (by simp) (clo105 (hp c hc)) h
 have c1:callV C [.cells (faC f) .live] (.func 104 []) (some [clsV l,.func 105 [.ptr 0 0]])=some (.int .i64 (ixF (openB f) l 0),[.cells (faC f) .live]):=
  callV_clo (l:=[(0,faC f)]) (by kernel_rfl) rfl (a:=clsV l) (a':=clsV l) rfl rfl (fun q hq=>by
   simp only[List.mem_cons,List.not_mem_nil,or_false] at hq
   subst hq
   exact ⟨rfl,rfl,rfl,by simp[faC]⟩) (by simp) h1 rfl
 simp[go_sem,initS,bx,c1]
 exact hR _ _ _ (.inr rfl) ⟨.int .i64 (ixF (openB f) l 0),by simp[resultV,resV,Tryz.f53,go_sem],snap_dat rfl rfl⟩
theorem call53 (l:List Cl) (f:Fa) (hl:l.length<4000000) (hp:∀c∈l,Pr c f) (h:H):callV C h (.func 53 []) (some [clsV l,encFa f])=some (.int .i64 (ixF (openB f) l 0),h):=callV_strip (by kernel_rfl) rfl (args':=[clsV l,encFa f]) rfl rfl (by simp) (unsettled53 l f hl hp)
end Go.VZ

/- Unsettled of the document, walked; the errors of a list and a fact. -/
namespace Go.VZ
open Go Go.V Go.Proofs TL
def NI33 (l:List Cl) (f:Fa) (m:Nat) (st:PT) (h:H):Prop:=∃k:Nat,m=l.length-k∧k≤l.length∧h[0]?=some (.cells (faC f) .live)∧st.get 0=clsV l∧st.get 3=.ptr 0 0∧st.get 5=.int .i64 k∧ixF (openR f) l 0=ixF (openR f) (l.drop k) k
theorem reachs_cf (h:H) (c:Cl) (f:Fa):reachs h deep [encCl c,encFa f]=[]:=(dats_snap (h:=h) (l:=[encCl c,encFa f]) (l':=[encCl c,encFa f]) rfl (by simp[short_cl];rfl) deep (by simp[deep])).2
set_option maxRecDepth 8000 in
set_option maxHeartbeats 16000000 in
theorem unsettled33 (l:List Cl) (f:Fa) (hl:l.length<4000000) (hp:∀c∈l,Pr c f):CallP C 33 [clsV l,encFa f]=some (.int .i64 (ixF (openR f) l 0)):=by
 refine CallP_W rfl Tryz.func33 rfl (by kernel_rfl) (by simp[Tryz.f33]) fun R hR=>?_
 have fin:∀(st:PT) (h:H) (e:Int),st.get 4=.int .i64 e→ixF (openR f) l 0=e→R .ret st h:=fun st h e h2 he=>hR _ _ _ (.inr rfl) ⟨.int .i64 e,by simp[resultV,resV,Tryz.f33,h2],by rw[he];exact snap_dat rfl rfl⟩
 have bx:=box35 f
 simp[go_sem,bx]
 refine W_loop (NI33 l f) l.length ⟨0,rfl,Nat.zero_le _,rfl,by simp[go_sem],by simp[go_sem],by simp[go_sem],rfl⟩ ?_
 rintro m st h ⟨k,rfl,hk,m0,g0,g3,g5,hd⟩
 have hln:=len22c l
 by_cases hlt:k<l.length
 ·have hlt':(k:Int)<l.length:=by omega
  have hix:=idx22 l k hlt
  have w2:IntKind.i64.wrap ((k:Int)+1)=((k+1:Nat):Int):=by rw[wrap_in (by omega)];omega
  have pr:=hp _ (List.getElem_mem hlt)
  rw[List.drop_eq_getElem_cons hlt,ixF] at hd
  generalize l[k]=c at hix pr hd
  have cc:=call54 pr
  have cs:=pr.okc
  have hbl:=cs.1
  have ho:openR f c=((conR c f (unV c f).1 (unV c f).2).2.1&&(decide (f.kind≠3) || !(conR c f (unV c f).1 (unV c f).2).2.2 || !(conR c f (unV c f).1 (unV c f).2).1.body.any (ansH (conR c f (unV c f).1 (unV c f).2).1.head))):=rfl
  have hsm:(∀g∈factsOf (conR c f (unV c f).1 (unV c f).2).1,smallT g.terms)∧(conR c f (unV c f).1 (unV c f).2).1.body.length<4000000:=by
   have hz:(∀g∈factsOf noCl,smallT g.terms)∧noCl.body.length<4000000:=by
    refine ⟨fun g hg=>?_,by simp[noCl]⟩
    simp only[factsOf,noCl,List.nil_append,List.mem_singleton] at hg
    subst hg
    exact ⟨by simp,fun t ht=>by simp at ht⟩
   unfold conR
   by_cases hg:guardC c f=true
   ·simp only[if_pos hg]
    obtain ⟨_,_,hcod,hval,_⟩:=unV_spec pr hg
    split
    ·exact hz
    ·split
     ·exact hz
     ·refine ⟨fun g hg=>?_,?_⟩
      ·rcases List.mem_append.1 hg with hg | hg
       ·obtain ⟨g0,h0,rfl⟩:=List.mem_map.1 hg
        exact pr.putsmall hval g0 (List.mem_append_left _ h0)
       ·simp only[List.mem_singleton] at hg
        subst hg
        exact pr.putsmall hval (apC c f).head (by simp[factsOf])
      ·simp[putCl,apC];omega
   ·simp only[if_neg hg];exact hz
  generalize (conR c f (unV c f).1 (unV c f).2).1=X at cc ho hsm
  generalize (conR c f (unV c f).1 (unV c f).2).2.1=is at cc ho
  generalize (conR c f (unV c f).1 (unV c f).2).2.2=ok at cc ho
  simp[go_sem,g0,g5,hln,hlt']
  refine W_mixedP 4 _ (fun st' h'=>st'.get 0=clsV l∧st'.get 3=.ptr 0 0∧st'.get 5=.int .i64 k∧st'.get 6=.ptr (h.length+10) 0∧st'.get 7=.bool is∧st'.get 8=.bool ok∧h'[h.length+10]?=some (.cells (clC X) .live)∧∀j,j<h.length→h'[j]?=h[j]?) (by rw[mixC];decide) (by kernel_rfl) ?_ ?_
  ·have hl0:=(List.getElem?_eq_some_iff.1 m0).1
   generalize hH0:h++List.replicate _ VObj.void=H0
   have pl:Pl h H0 14:=hH0▸Pl.mk' h 14
   have hlen:=pl.len
   clear hH0
   have lfH:loadV C.P H0 35 (.ptr 0 0)=some (encFa f):=by
    have:=pl.get m0
    simp[loadV,this,cellsAt,a35,s35,faC,encFa]
   refine MX_pure (clsV l) rfl rfl (pl.isV (i:=0) (by decide)) (by simp[opN,go_sem,g0]) rfl ?_
   refine MX_pure (.int .i64 k) rfl rfl (pl.isV (i:=1) (by decide)) (by simp[opN,go_sem,g5]) rfl ?_
   refine MX_pure (.iptr (encCl c) 0) rfl rfl (pl.isV (i:=2) (by decide)) (by simp[opN,go_sem,hix]) rfl ?_
   refine MX_load (.iptr (encCl c) 0) (encCl c) (by simp[go_sem]) (ld37i c H0) (by simp[lids]) (pl.isV (i:=3) (by decide)) rfl ?_
   refine MX_load (.ptr 0 0) (encFa f) (by simp[go_sem,g3]) lfH (lids_no (by omega)) (pl.isV (i:=4) (by decide)) rfl ?_
   refine MX_call (args:=[.tmp 19,.tmp 20]) [encCl c,encFa f] (.tuple [encCl X,.bool is,.bool ok]) (by kernel_rfl) rfl (by simp[go_sem]) (reachs_cf _ _ _) (cc _) (pl.isV (i:=5) (by decide)) rfl ?_
   refine MX_pure (.tuple [encCl X,.bool is,.bool ok]) rfl rfl (pl.isV (i:=6) (by decide)) (by simp[opN,go_sem]) rfl ?_
   refine MX_pure (encCl X) rfl rfl (pl.isV (i:=7) (by decide)) (by simp[opN,go_sem]) rfl ?_
   refine MX_pure (.bool is) rfl rfl (pl.isV (i:=8) (by decide)) (by simp[opN,go_sem]) rfl ?_
   refine MX_pure (.bool ok) rfl rfl (pl.isV (i:=9) (by decide)) (by simp[opN,go_sem]) rfl ?_
   refine MX_alloc _ zv37 (pl.isV (i:=10) (by decide)) ?_
   rw[show VObj.mv H0.length (h.length+10) (.cells (AV.agg z37c).cells .live)=.cells z37c .live from rfl]
   obtain ⟨H1,eH1⟩:∃g,g=H0.set (h.length+10) (.cells z37c .live):=⟨_,rfl⟩
   have hl1:H1.length=H0.length:=by rw[eH1];simp
   have q10:H1[h.length+10]?=some (.cells z37c .live):=by rw[eH1];exact List.getElem?_set_self (by omega)
   have u11:isVoid H1[h.length+11]?=true:=by rw[eH1];exact isV_set (pl.isV (i:=11) (by decide)) (by omega)
   have u12:isVoid H1[h.length+12]?=true:=by rw[eH1];exact isV_set (pl.isV (i:=12) (by decide)) (by omega)
   have u13:isVoid H1[h.length+13]?=true:=by rw[eH1];exact isV_set (pl.isV (i:=13) (by decide)) (by omega)
   have o1:∀j,j<h.length→H1[j]?=h[j]?:=fun j hj=>by rw[eH1,List.getElem?_set_ne (by omega),pl.old j hj]
   rw[←eH1]
   refine MX_store (h.length+10) 0 (encCl X) _ (by simp[go_sem]) (by simp[go_sem]) (st37zy X q10) (by omega) u11 ?_
   rw[show VObj.mv H1.length (h.length+11) (.cells (clC X) .live)=.cells (clC X) .live from rfl]
   refine MX_pure (.bool is) rfl rfl (isV_set u12 (by omega)) (by simp[opN,go_sem]) rfl ?_
   refine MX_pure (.bool ok) rfl rfl (isV_set u13 (by omega)) (by simp[opN,go_sem]) rfl ?_
   refine ⟨?_,?_⟩
   ·unfold fpOk
    generalize hb:Region.before _=bb
    have hb1:(bb.getD 11 0).testBit 10=true:=by rw[←hb];kernel_rfl
    clear hb
    simp[Array.getD_eq_getD_getElem?] at hb1
    have oa:∀j,¬0=h.length+j:=fun j=>by omega
    have ob:∀j,¬h.length+j=0:=fun j=>by omega
    simp[lids,meet,List.range,List.range.loop]
    exact hb1
   ·exact ⟨by simp[go_sem,g0],by simp[go_sem,g3],by simp[go_sem,g5],by simp[go_sem],by simp[go_sem],by simp[go_sem],List.getElem?_set_self (by omega),fun j hj=>by rw[List.getElem?_set_ne (by omega)];exact o1 j hj⟩
  ·rintro st' h' ⟨g0,g3,g5,g6,g7,g8,mX,old⟩
   have n0:h'[0]?=some (.cells (faC f) .live):=by rw[old 0 (List.getElem?_eq_some_iff.1 m0).1];exact m0
   have kf:=ld3f0 n0
   have lX:=ld37c mX
   have cA:=call55 X hsm.1 hsm.2
   have next:openR f c=false→∀st':PT,st'.get 0=clsV l→st'.get 3=.ptr 0 0→st'.get 5=.int .i64 (k+1:Nat)→∃m,m<l.length-k∧NI33 l f m st' h':=fun hs st' a0 a3 a5=>⟨l.length-(k+1),by omega,k+1,rfl,hlt,n0,a0,a3,a5,by rw[hd,if_neg (by simp[hs])]⟩
   cases is
   ·simp[go_sem,g5,g7,-Int.natCast_add,w2]
    exact next (by rw[ho];rfl) _ (by simp[go_sem,g0]) (by simp[go_sem,g3]) (by simp[go_sem])
   ·by_cases q:f.kind=3
    ·cases ok
     ·simp[go_sem,g3,g5,g7,g8,kf,q]
      exact fin _ _ k (by simp[go_sem]) (by rw[hd,if_pos (by rw[ho];simp)])
     ·cases hA:X.body.any (ansH X.head)
      ·simp[go_sem,g3,g5,g6,g7,g8,kf,q,lX,cA,hA]
       exact fin _ _ k (by simp[go_sem]) (by rw[hd,if_pos (by rw[ho,hA];simp)])
      ·simp[go_sem,g3,g5,g6,g7,g8,kf,q,lX,cA,hA,-Int.natCast_add,w2]
       exact next (by rw[ho,hA];simp[q]) _ (by simp[go_sem,g0]) (by simp[go_sem,g3]) (by simp[go_sem])
    ·simp[go_sem,g3,g5,g7,g8,kf,q]
     exact fin _ _ k (by simp[go_sem]) (by rw[hd,if_pos (by rw[ho];simp[q])])
 ·have:k=l.length:=by omega
  subst this
  simp[go_sem,g0,g5,hln]
  exact fin _ _ (-1) (by simp[go_sem]) (by rw[hd];simp[ixF])
theorem call33 (l:List Cl) (f:Fa) (hl:l.length<4000000) (hp:∀c∈l,Pr c f) (h:H):callV C h (.func 33 []) (some [clsV l,encFa f])=some (.int .i64 (ixF (openR f) l 0),h):=callV_strip (by kernel_rfl) rfl (args':=[clsV l,encFa f]) rfl rfl (by simp) (unsettled33 l f hl hp)
theorem ixF_congr {α:Type}{p q:α→Bool}:∀(l:List α) (k:Nat),(∀a∈l,p a=q a)→ixF p l k=ixF q l k
 | [],_,_=>rfl
 | a::l,k,h=>by rw[ixF,ixF,h a List.mem_cons_self,ixF_congr l (k+1) fun b hb=>h b (List.mem_cons_of_mem _ hb)]
end Go.VZ

/- Rows of clauses: copied, appended to, read; calls that read a row of one's own and answer numbers. -/
namespace Go.VZ
open Go Go.V Go.Proofs TL
def cellsC (l:List Cl):List AV:=l.flatMap clC
theorem clC_len (c:Cl):(clC c).length=4:=rfl
theorem cellsC_len (l:List Cl):(cellsC l).length=4*l.length:=by
 induction l with
 | nil=>rfl
 | cons a l ih=>rw[cellsC,List.flatMap_cons,List.length_append,clC_len,List.length_cons];unfold cellsC at ih;omega
theorem cellsC_append (l m:List Cl):cellsC (l++m)=cellsC l++cellsC m:=List.flatMap_append
theorem dats1_cellsC (l:List Cl):dats1 (cellsC l)=some (cellsC l):=by
 induction l with
 | nil=>rfl
 | cons a l ih=>rw[cellsC,List.flatMap_cons];exact dats1_app rfl ih
theorem chunk_cellsC:∀l:List Cl,chunk 4 l.length (cellsC l)=l.map encCl
 | []=>rfl
 | a::l=>by
  have:=chunk_cellsC l
  rw[cellsC,List.flatMap_cons]
  change chunk 4 (l.length+1) (clC a++cellsC l)=_
  simp only[chunk,List.map_cons]
  rw[List.take_append_of_le_length (by rw[clC_len];omega),List.take_of_length_le (by rw[clC_len];omega),List.drop_left' (clC_len a),this]
  rfl
theorem szOk_encCl (l:List Cl):szOk 4 (l.map encCl)=true:=by cases l<;>simp[szOk,encCl,clC,faC,cells_agg]
theorem cellsC_map (l:List Cl):(l.map encCl).flatMap AV.cells=cellsC l:=by rw[List.flatMap_map];rfl
set_option maxHeartbeats 1000000 in
theorem clone11 (a:Cl) (l:List Cl) (hl:(a::l).length≤10000):Go.V.Call C 11 [clsV (a::l)] []=some (.msl 0 0 4 (a::l).length none,[.cells (cellsC (a::l)) .live]):=by
 refine Call_W rfl Tryz.func11 rfl (by kernel_rfl) (by simp[Tryz.f11]) fun R hR=>?_
 have hsz:=szOk_encCl (a::l)
 have e1:binV C.P .eql 22 (.tmp 3) (.const (.slice none 0 0)) (clsV (a::l)) (.isl [] .full)=some (.bool false):=by
  simp[binV,clsV,toVal,toScalar,nilCmpV,sureV,isNil,isSl,u22,eqSign]
 have e2:buildSliceV C.P [] 22 0 []=some (.isl [] .full,[]):=buildSlice_dats u22 s37 z37 rfl (by omega) rfl (es:=[]) rfl rfl (by simp) rfl
 have e3:appendW C.P true [] 22 (.isl [] .full) (clsV (a::l))=some (.msl 0 0 4 (a::l).length none,[.cells (cellsC (a::l)) .live]):=by
  have e4:srcV [] 4 (.isl ((a::l).map encCl) .unk)=some (cellsC (a::l),(a::l).length):=by
   simp only[srcV,hsz,if_true,cellsC_map,List.length_map]
  simp only[appendW,knownCap,Bool.not_true,if_false,Bool.false_eq_true,appendN,u22,s37,b37,z37,clsV,e4]
  have h0:0<(a::l).length:=by simp
  generalize (a::l).length=m at hl h0
  have h1:¬m=0:=by omega
  have h2:m*65≤35184372088832:=by omega
  simp[szOk,h1,h2]
 simp[go_sem,initS,e1,e2,e3]
 refine hR _ _ _ (.inr rfl) ⟨.msl 0 0 4 (a::l).length none,by simp[resultV,resV,Tryz.f11,go_sem],rfl⟩
theorem reachs_cls (h:H) (l:List Cl):reachs h deep [clsV l]=[]:=(dats_snap (h:=h) (l:=[clsV l]) (l':=[clsV l]) rfl rfl deep (by simp[deep])).2
theorem call11n (h:H):callV C h (.func 11 []) (some [clsV []])=some (.isl [] .full,h):=by
 have e1:=(dats_snap (h:=h) (l:=[clsV []]) (l':=[.isl [] .unk]) rfl rfl deep (by simp[deep]))
 have hbd:hasBody C.P 11=true:=by kernel_rfl
 simp only[callV,hbd,if_true,List.append_nil]
 unfold applyCall
 rw[show C.mode 11=.ownM from rfl]
 dsimp only
 rw[e1.2]
 simp only[Go.V.freeze,e1.1]
 have hp:C.prim 11 [.isl [] .unk] []=some (.isl [] .full,[]):=by simp[C,prim,primClone,cloneIds]
 have hq:Go.V.Call C 11 [.isl [] .unk] []=some (.isl [] .full,[]):=Call_prim (C:=C) (fn:=Tryz.f11) Tryz.func11 hp
 rw[hq]
 rfl
theorem call11c (a:Cl) (l:List Cl) (h:H) (hl:(a::l).length≤10000):callV C h (.func 11 []) (some [clsV (a::l)])=some (.msl h.length 0 4 (a::l).length none,h++[.cells (cellsC (a::l)) .live]):=by
 have hcl:=cellsC_len (a::l)
 have e1:snaps (Go.V.freeze h []) deep [clsV (a::l)]=some [clsV (a::l)]:=(dats_snap (h:=h) (l:=[clsV (a::l)]) (l':=[clsV (a::l)]) rfl rfl deep (by simp[deep])).1
 exact callV_ownMs (by kernel_rfl) rfl (reachs_cls h _) e1 (by omega) (clone11 a l hl) rfl (dats1_cellsC _) (by omega) (by omega)
theorem callV_read {f:FuncId}{h:H}{args args':List AV}{v:AV}{R:List Nat}(hb:hasBody C.P f=true) (hm:C.mode f=.strip) (e2:reachs h deep args=R) (e1:snaps (Go.V.freeze h R) deep args=some args') (hc:CallP C f args'=some v) (hs:scal v=true):callV C h (.func f []) (some args)=some (v,h):=by
 simp only[callV,hb,if_true,List.append_nil]
 unfold applyCall
 rw[hm]
 dsimp only
 rw[e2,e1]
 unfold CallP at hc
 dsimp only
 split at hc<;>first | (cases hc;done) | skip
 rename_i r h1 hx
 rw[hx]
 dsimp only
 unfold finishV stripV
 dsimp only
 rw[hc]
 dsimp only
 rw[if_pos hs]
theorem snapC {hf:H}{id:Nat}{l:List Cl}{c:Option Nat}(hid:hf[id]?=some (.cells (cellsC l) .frozen)) (hl:l.length≤10000) (n:Nat) (hn:50000≤n):snap hf (n+1) (.msl id 0 4 l.length c)=some (clsV l):=by
 have e3:=cellsC_len l
 obtain ⟨n,rfl⟩:∃m,n=m+1:=⟨n-1,by omega⟩
 have e2:=(dats1_snap (h:=hf) (dats1_cellsC l) n (by omega)).1
 simp only[snap,hid,e2]
 rw[if_pos ⟨by omega,by omega⟩,List.drop_zero,chunk_cellsC];rfl
theorem call_rowC {f:FuncId}{h:H}{id:Nat}{l:List Cl}{a a' v:AV}(hb:hasBody C.P f=true) (hm:C.mode f=.strip) (hid:h[id]?=some (.cells (cellsC l) .live)) (hl:l.length≤10000) (hd:dats [a]=some [a']) (hsh:short a=true) (hc:CallP C f [clsV l,a']=some v) (hs:scal v=true):callV C h (.func f []) (some [.msl id 0 4 l.length none,a])=some (v,h):=by
 obtain ⟨m,e0⟩:∃m,deep=m+3:=⟨999997,rfl⟩
 have em:m=999997:=by unfold deep at e0;omega
 have e3:=cellsC_len l
 have q:=dats1_snap (h:=h) (dats1_cellsC l) m (by omega)
 have qa:=dats_snap (h:=h) hd (by simpa using hsh) (m+2) (by simp;omega)
 have hR:reachs h deep [.msl id 0 4 l.length none,a]=[id]:=by
  have k:reachs h (m+3) [.msl id 0 4 l.length none,a]=reach h (m+2) (.msl id 0 4 l.length none)++reachs h (m+2) [a]:=rfl
  rw[e0,k,qa.2,List.append_nil]
  simp only[reach,hid,q.2]
 have hf:(Go.V.freeze h [id])[id]?=some (.cells (cellsC l) .frozen):=by rw[freeze_spec,hid];simp
 have s1:=snapC (c:=none) hf hl (m+1) (by omega)
 have s2:=(dats_snap (h:=Go.V.freeze h [id]) hd (by simpa using hsh) (m+2) (by simp;omega)).1
 have hS:snaps (Go.V.freeze h [id]) deep [.msl id 0 4 l.length none,a]=some [clsV l,a']:=by
  rw[e0]
  have k:snaps (Go.V.freeze h [id]) (m+3) [.msl id 0 4 l.length none,a]=(match snap (Go.V.freeze h [id]) (m+2) (.msl id 0 4 l.length none),snaps (Go.V.freeze h [id]) (m+2) [a] with
   | some x,some y=>some (x::y)
   | _,_=>none):=rfl
  rw[k,s1,s2]
 exact callV_read hb hm hR hS hc hs
theorem loadC {h:H}{id k:Nat}{l:List Cl}(hid:h[id]?=some (.cells (cellsC l) .live)) (hk:k<l.length):loadV C.P h 37 (.ptr id (4*k))=some (encCl l[k]):=by
 have e1:cellsC l=cellsC (l.take k)++(clC l[k]++cellsC (l.drop (k+1))):=by
  have:l=l.take k++(l[k]::l.drop (k+1)):=by rw[←List.drop_eq_getElem_cons hk,List.take_append_drop]
  conv=>lhs;rw[this]
  rw[cellsC_append]
  rfl
 have e2:=cellsC_len (l.take k)
 have e3:(l.take k).length=k:=by simp;omega
 rw[e3] at e2
 have e5:((cellsC l).drop (4*k)).take 4=clC l[k]:=by
  rw[e1,List.drop_left' e2,List.take_append_of_le_length (by rw[clC_len];omega),List.take_of_length_le (by rw[clC_len];omega)]
 have e6:=cellsC_len l
 simp only[loadV,hid,cellsAt,a37,s37]
 rw[if_pos (by omega),e5];rfl
theorem idx22m {id n k:Nat}(hk:k<n):indexAddrV C.P 22 (.msl id 0 4 n none) (.int .i64 k)=some (.ptr id (4*k)):=by
 simp[indexAddrV,u22,s37,hk,Nat.mul_comm]
theorem len22m (id n:Nat):lenV C.P 22 (.msl id 0 4 n none)=some (.int .i64 n):=by simp[lenV,u22]
theorem appC0 (h:H) (c:Cl):appendW C.P true h 22 (.isl [] .full) (.isl [encCl c] .full)=some (.msl h.length 0 4 1 none,h++[.cells (cellsC [c]) .live]):=by
 have hsz:=szOk_encCl [c]
 have e4:srcV h 4 (.isl [encCl c] .full)=some (cellsC [c],1):=by
  have:=cellsC_map [c]
  simp only[List.map_cons,List.map_nil] at hsz this
  simp only[srcV,hsz,if_true,this];rfl
 simp only[appendW,knownCap,Bool.not_true,if_false,Bool.false_eq_true,appendN,u22,s37,b37,z37,e4]
 simp[szOk]
theorem appC1 {h:H}{id:Nat}{l:List Cl}(c:Cl) (hid:h[id]?=some (.cells (cellsC l) .live)) (hl:l.length≤10000):appendW C.P true h 22 (.msl id 0 4 l.length none) (.isl [encCl c] .full)=some (.msl h.length 0 4 (l.length+1) none,h.set id (.cells (cellsC l) .dead)++[.cells (cellsC (l++[c])) .live]):=by
 have hsz:=szOk_encCl [c]
 have e4:srcV h 4 (.isl [encCl c] .full)=some (cellsC [c],1):=by
  have:=cellsC_map [c]
  simp only[List.map_cons,List.map_nil] at hsz this
  simp only[srcV,hsz,if_true,this];rfl
 have hcl:=cellsC_len l
 simp only[appendW,knownCap,Bool.not_true,if_false,Bool.false_eq_true,appendN,u22,s37,b37,z37,e4,hid]
 rw[if_neg (by simp),if_neg (by simp),if_pos ⟨trivial,trivial,by omega,by omega⟩,List.take_of_length_le (by omega),cellsC_append]
theorem mvs_cellsC (l:List Cl) (i k:Nat):AV.mvs i k (cellsC l)=cellsC l:=mvs_self _ (by
 intro a ha i k
 simp only[cellsC,List.mem_flatMap] at ha
 obtain ⟨c,_,ha⟩:=ha
 simp only[clC,faC,List.mem_cons,List.not_mem_nil,or_false] at ha
 rcases ha with rfl | rfl | rfl | rfl<;>rfl) i k
theorem mv_cellsC (l:List Cl) (i k:Nat):VObj.mv i k (.cells (cellsC l) .live)=.cells (cellsC l) .live:=by simp[VObj.mv,mvs_cellsC]
def oneV (f:Fa):AV:=.agg (.isl [] .full::faC f)
theorem build22_1 (h:H) (f:Fa):buildSliceV C.P h 22 1 [(0,oneV f)]=some (.isl [encCl ⟨[],f⟩] .full,h):=buildSlice_dats u22 s37 z37 rfl (by omega) rfl rfl rfl (by simp) rfl
theorem reachs_one (h:H) (f:Fa):reachs h deep [oneV f]=[]:=(dats_snap (h:=h) (l:=[oneV f]) (l':=[encCl ⟨[],f⟩]) rfl rfl deep (by simp[deep])).2
end Go.VZ

/- Clauses and a fact that are right: the plain law. -/
namespace Go.VZ
open Go Go.V Go.Proofs TL
def firstE:List Cl→Int
 | []=>0
 | c::r=>if clauseE c=0 then firstE r else clauseE c
theorem firstE_append:∀(l m:List Cl),firstE (l++m)=if firstE l=0 then firstE m else firstE l
 | [],m=>by simp[firstE]
 | c::l,m=>by
  rw[List.cons_append,firstE,firstE]
  by_cases h:clauseE c=0
  ·rw[if_pos h,if_pos h,firstE_append l m]
  ·rw[if_neg h,if_neg h,if_neg h]
theorem firstE_zero:∀ {l:List Cl},firstE l=0→∀c∈l,clauseE c=0
 | [],_,c,hc=>by simp at hc
 | a::l,h,c,hc=>by
  rw[firstE] at h
  by_cases e:clauseE a=0
  ·rw[if_pos e] at h
   rcases List.mem_cons.1 hc with rfl | hc
   ·exact e
   ·exact firstE_zero h c hc
  ·rw[if_neg e] at h;exact absurd h e
def rightE (l:List Cl) (f:Fa):Int:=if 60<l.length then 3 else firstE (l++[⟨[],f⟩])
theorem one_zero {f:Fa}(h:clauseE ⟨[],f⟩=0):factE f=0:=(clause_facts h).2 f (by simp[factsOf])
theorem pr_of {l:List Cl}{f:Fa}(h1:∀c∈l,fewCl c 60=true) (hr:rightE l f=0) (hz:sizes f.terms≤60):∀c∈l,Pr c f:=by
 unfold rightE at hr
 split at hr
 ·cases hr
 ·have h2:=firstE_zero hr
  exact fun c hc=>⟨h2 c (List.mem_append_left _ hc),h1 c hc,one_zero (h2 _ (List.mem_append_right _ (List.mem_singleton.2 rfl))),hz⟩
def openE (r i k:Int):Int × Int:=if r=0 then (if i<0 then (0,15) else (i,0)) else (k,r)
theorem one_size {f:Fa}(h:fewCl ⟨[],f⟩ 60=true):sizes f.terms≤60:=by
 have:=(few_size h (by decide)).2.2
 have e:termsOf ⟨[],f⟩=f.terms:=by simp[termsOf,allTerms]
 rw[e] at this;omega
theorem few1_size {t:T}(h:fewT [t] 1 60=true):sizes [t]≤60:=by
 simp only[fewT,Bool.and_eq_true,decide_eq_true_eq] at h
 have:=(budgets_law [t] 60 (by omega)).2 h.2
 omega
theorem okF_of {l:List Cl}(h:∀c∈l,fewCl c 60=true):∀c∈l,okF (factsOf c):=fun c hc=>few_okF (h c hc) (by decide) (by decide)
theorem okF_one {f:Fa}(h:smallT f.terms):okF (factsOf ⟨[],f⟩):=fun g hg=>by
 simp only[factsOf,List.nil_append,List.mem_singleton] at hg
 subst hg
 exact ⟨h.2,h.1⟩
end Go.VZ

/- right of the program, list of the document: walked. -/
namespace Go.VZ
open Go Go.V Go.Proofs TL
theorem ld35f {h:H}{i:Nat}{f:Fa}(hi:h[i]?=some (.cells (faC f) .live)):loadV C.P h 35 (.ptr i 0)=some (encFa f):=by simp[loadV,hi,cellsAt,a35,s35,faC,encFa]
def NI30 (L:List Cl) (m:Nat) (st:PT) (h:H):Prop:=∃k:Nat,m=L.length-k∧k≤L.length∧h[6]?=some (.cells (cellsC L) .live)∧st.get 16=.msl 6 0 4 L.length none∧st.get 17=.int .i64 L.length∧st.get 18=.int .i64 k∧firstE L=firstE (L.drop k)
set_option maxRecDepth 8000 in
set_option maxHeartbeats 4000000 in
theorem right30 (l:List Cl) (f:Fa) (hl:l.length≤10000) (hs:∀c∈l,okF (factsOf c)) (hf:smallT f.terms):CallP C 30 [clsV l,encFa f]=some (.int .i64 (rightE l f)):=by
 refine CallP_W rfl Tryz.func30 rfl (by kernel_rfl) (by simp[Tryz.f30]) fun R hR=>?_
 have fin:∀(st:PT) (h:H) (e:Int),st.get 4=.int .i64 e→rightE l f=e→R .ret st h:=fun st h e h2 he=>hR _ _ _ (.inr rfl) ⟨.int .i64 e,by simp[resultV,resV,Tryz.f30,h2],by rw[he];exact snap_dat rfl rfl⟩
 have hln:=len22c l
 have bx:=box35 f
 by_cases q1:60<l.length
 ·have q1':(60:Int)<l.length:=by omega
  simp[go_sem,initS,bx,hln,q1']
  exact fin _ _ 3 (by simp[go_sem]) (by rw[rightE,if_pos q1])
 have q1':¬(60:Int)<l.length:=by omega
 have he:rightE l f=firstE (l++[⟨[],f⟩]):=by rw[rightE,if_neg q1]
 rw[he] at fin
 simp[go_sem,bx,hln,q1']
 obtain ⟨L,eL⟩:∃L,L=l++[⟨[],f⟩]:=⟨_,rfl⟩
 have hLl:L.length=l.length+1:=by rw[eL];simp
 have hsL:∀c∈L,okF (factsOf c):=by
  intro c hc
  rw[eL] at hc
  rcases List.mem_append.1 hc with hc | hc
  ·exact hs c hc
  ·simp only[List.mem_singleton] at hc;subst hc;exact okF_one hf
 rw[←eL] at fin
 refine W_mixedP 3 _ (fun st' h'=>st'.get 16=.msl 6 0 4 L.length none∧st'.get 17=.int .i64 L.length∧st'.get 18=.int .i64 0∧h'[6]?=some (.cells (cellsC L) .live)) (by rw[mixC];decide) (by kernel_rfl) ?_ ?_
 ·show MX C 30 _ 1 _ 0 _ _ _ _
  generalize hH0:[VObj.cells (faC f) .live]++List.replicate _ VObj.void=H0
  have pl:Pl [.cells (faC f) .live] H0 8:=hH0▸Pl.mk' _ 8
  have hlen:=pl.len
  clear hH0
  have p0:H0[0]?=some (.cells (faC f) .live):=pl.get rfl
  have q0:=ld35f p0
  simp only[List.length_cons,List.length_nil,Nat.zero_add] at hlen pl
  refine MX_pure (clsV l) rfl rfl (pl.isV (i:=0) (by decide)) (by simp[opN,go_sem]) rfl ?_
  cases l with
  | nil=>
   refine MX_call0 (args:=[.tmp 11]) [clsV []] (.isl [] .full) (by kernel_rfl) (.inr rfl) (by simp[go_sem]) (reachs_cls _ _) (call11n _) (pl.isV (i:=1) (by decide)) ?_
   refine MX_load (.ptr 0 0) (encFa f) (by simp[go_sem]) q0 (lids_no (by simp)) (pl.isV (i:=2) (by decide)) rfl ?_
   refine MX_pure (oneV f) rfl rfl (pl.isV (i:=3) (by decide)) (by simp[opN,go_sem];exact bld37 f) rfl ?_
   refine MX_build (parts:=[(0,.tmp 14)]) [(0,oneV f)] (.isl [encCl ⟨[],f⟩] .full) (parts1 (by simp[go_sem]) rfl) (reachs_one _ _) (build22_1 _ _) (pl.isV (i:=4) (by decide)) ?_
   refine MX_append (.isl [] .full) (.isl [encCl ⟨[],f⟩] .full) _ _ _ (by simp[go_sem];rfl) (by simp[go_sem];rfl) (by rw[wrC];exact appC0 _ _) (by simp) rfl (pl.isV (i:=5) (by decide)) (fin_push (by omega)) ?_
   refine MX_pure (.int .i64 1) rfl rfl ?_ (by simp[opN,go_sem,AV.mv];exact len22m _ _) rfl ?_
   ·rw[List.getElem?_set_ne (by simp)];exact pl.isV (i:=6) (by decide)
   refine MX_pure (.int .i64 0) rfl rfl ?_ (by simp[opN,go_sem]) rfl ?_
   ·rw[List.getElem?_set_ne (by simp)];exact pl.isV (i:=7) (by decide)
   refine ⟨by kernel_rfl,?_⟩
   rw[mv_cellsC]
   subst eL
   exact ⟨by simp[go_sem,AV.mv,hlen],by simp[go_sem],by simp[go_sem],by simp[hlen]⟩
  | cons a l=>
   have hc:=call11c a l H0 (by simpa using hl)
   refine MX_callM (args:=[.tmp 11]) [clsV (a::l)] _ _ (by kernel_rfl) (.inr rfl) (by simp[go_sem]) (reachs_cls _ _) hc (pl.isV (i:=1) (by decide)) ?_
   rw[mv_cellsC,show (AV.msl H0.length 0 4 (a::l).length none).mv H0.length (1+1)=.msl 2 0 4 (a::l).length none by simp[AV.mv]]
   obtain ⟨H1,eH1⟩:∃g,g=H0.set (1+1) (.cells (cellsC (a::l)) .live):=⟨_,rfl⟩
   have hH1:H1[2]?=some (.cells (cellsC (a::l)) .live):=by rw[eH1];simp[hlen]
   have hlen1:H1.length=9:=by rw[eH1];simp[hlen]
   have hv:∀i,i<8→i≠1→isVoid H1[1+i]?=true:=fun i hi hn=>by rw[eH1];exact isV_set (pl.isV hi) (by omega)
   have p1:H1[0]?=some (.cells (faC f) .live):=by rw[eH1,List.getElem?_set_ne (by simp)];exact p0
   have q1':=ld35f p1
   rw[←eH1]
   refine MX_load (.ptr 0 0) (encFa f) (by simp[go_sem]) q1' (lids_no (by simp)) (hv 2 (by decide) (by decide)) rfl ?_
   refine MX_pure (oneV f) rfl rfl (hv 3 (by decide) (by decide)) (by simp[opN,go_sem];exact bld37 f) rfl ?_
   refine MX_build (parts:=[(0,.tmp 14)]) [(0,oneV f)] (.isl [encCl ⟨[],f⟩] .full) (parts1 (by simp[go_sem]) rfl) (reachs_one _ _) (build22_1 _ _) (hv 4 (by decide) (by decide)) ?_
   refine MX_append (.msl 2 0 4 (a::l).length none) (.isl [encCl ⟨[],f⟩] .full) _ _ _ (by simp[go_sem]) (by simp[go_sem];rfl) (by rw[wrC];exact appC1 _ hH1 hl) (by simp) (by simp[mslId,tokId]) (hv 5 (by decide) (by decide)) (fin_dead (by omega) (by simp)) ?_
   refine MX_pure (.int .i64 (l.length+2:Nat)) rfl rfl ?_ (by simp[opN,go_sem,AV.mv];exact len22m _ _) rfl ?_
   ·rw[List.getElem?_set_ne (by simp),List.getElem?_set_ne (by simp)];exact hv 6 (by decide) (by decide)
   refine MX_pure (.int .i64 0) rfl rfl ?_ (by simp[opN,go_sem]) rfl ?_
   ·rw[List.getElem?_set_ne (by simp),List.getElem?_set_ne (by simp)];exact hv 7 (by decide) (by decide)
   refine ⟨by simp[lids,mslId,tokId];kernel_rfl,?_⟩
   rw[mv_cellsC]
   subst eL
   exact ⟨by simp[go_sem,AV.mv,hlen1],by simp[go_sem];omega,by simp[go_sem],by simp[hlen1]⟩
 ·rintro st' h' ⟨g16,g17,g18,m6⟩
  simp[go_sem]
  refine W_loop (NI30 L) L.length ⟨0,rfl,Nat.zero_le _,m6,g16,g17,by simpa using g18,rfl⟩ ?_
  clear g18 m6 g16 g17
  rintro m st h ⟨k,rfl,hk,m6,g16,g17,g18,hd⟩
  by_cases hlt:k<L.length
  ·have hlt':(k:Int)<L.length:=by omega
   have hix:=idx22m (id:=6) hlt
   have w2:IntKind.i64.wrap ((k:Int)+1)=((k+1:Nat):Int):=by rw[wrap_in (by omega)];omega
   have lc:=loadC m6 hlt
   have s35:=hsL _ (List.getElem_mem hlt)
   rw[List.drop_eq_getElem_cons hlt,firstE] at hd
   generalize L[k]=c at lc s35 hd
   have e2:=st37y c h
   obtain ⟨h2,eh2⟩:∃g,g=h++[.cells (clC c) .live]:=⟨_,rfl⟩
   have pb:h2[h.length]?=some (.cells (clC c) .live):=by rw[eh2];simp
   have n6:h2[6]?=some (.cells (cellsC L) .live):=by
    rw[eh2,List.getElem?_append_left (List.getElem?_eq_some_iff.1 m6).1];exact m6
   have d37:=ld37c pb
   rw[←eh2] at e2
   have c35:=call35 c s35
   by_cases hz:clauseE c=0
   ·rw[if_pos hz] at hd
    simp[go_sem,g16,g17,g18,hlt',hix,lc,zv37,cells_agg,e2,d37,c35,hz,-Int.natCast_add,w2]
    exact ⟨L.length-(k+1),by omega,k+1,rfl,hlt,n6,by simp[go_sem,g16],by simp[go_sem,g17],by simp[go_sem],hd⟩
   ·rw[if_neg hz] at hd
    simp[go_sem,g16,g17,g18,hlt',hix,lc,zv37,cells_agg,e2,d37,c35,hz]
    exact fin _ _ (clauseE c) (by simp[go_sem]) hd
  ·have:k=L.length:=by omega
   subst this
   simp[go_sem,g17,g18]
   exact fin _ _ 0 (by simp[go_sem]) (by rw[hd];simp[firstE])
theorem call30 (l:List Cl) (f:Fa) (hl:l.length≤10000) (hs:∀c∈l,okF (factsOf c)) (hf:smallT f.terms) (h:H):callV C h (.func 30 []) (some [clsV l,encFa f])=some (.int .i64 (rightE l f),h):=callV_strip (by kernel_rfl) rfl (args':=[clsV l,encFa f]) rfl rfl (by simp) (right30 l f hl hs hf)
def listE (l:List Cl) (f:Fa):Int:=if 60<l.length then 3 else if firstE l=0 then clauseE ⟨[],f⟩ else firstE l
theorem list_right (l:List Cl) (f:Fa):listE l f=rightE l f:=by
 unfold listE rightE
 rw[firstE_append,firstE,firstE]
 by_cases h:clauseE ⟨[],f⟩=0
 ·rw[if_pos h,h]
 ·rw[if_neg h]
def NI32 (l:List Cl) (f:Fa) (m:Nat) (st:PT) (h:H):Prop:=∃k:Nat,m=l.length-k∧k≤l.length∧h=[.cells (faC f) .live]∧st.get 0=clsV l∧st.get 3=.ptr 0 0∧st.get 5=.int .i64 k∧firstE l=firstE (l.drop k)
set_option maxRecDepth 8000 in
set_option maxHeartbeats 4000000 in
theorem list32 (l:List Cl) (f:Fa) (hl:l.length≤10000) (hs:∀c∈l,okF (factsOf c)) (hf:smallT f.terms):CallP C 32 [clsV l,encFa f]=some (.int .i64 (listE l f)):=by
 refine CallP_W rfl Tryz.func32 rfl (by kernel_rfl) (by simp[Tryz.f32]) fun R hR=>?_
 have fin:∀(st:PT) (h:H) (e:Int),st.get 4=.int .i64 e→listE l f=e→∀x:Ex,x=.normal∨x=.ret→R x st h:=fun st h e h2 he x hx=>hR _ _ _ hx ⟨.int .i64 e,by simp[resultV,resV,Tryz.f32,h2],by rw[he];exact snap_dat rfl rfl⟩
 have hln:=len22c l
 have bx:=box35 f
 by_cases q1:60<l.length
 ·have q1':(60:Int)<l.length:=by omega
  simp[go_sem,initS,bx,hln,q1']
  exact fin _ _ 3 (by simp[go_sem]) (by rw[listE,if_pos q1]) _ (.inr rfl)
 have q1':¬(60:Int)<l.length:=by omega
 have he:listE l f=if firstE l=0 then clauseE ⟨[],f⟩ else firstE l:=by rw[listE,if_neg q1]
 rw[he] at fin
 simp[go_sem,bx,hln,q1']
 refine W_loop (NI32 l f) l.length ⟨0,rfl,Nat.zero_le _,rfl,by simp[go_sem],by simp[go_sem],by simp[go_sem],rfl⟩ ?_
 rintro m st h ⟨k,rfl,hk,rfl,g0,g3,g5,hd⟩
 by_cases hlt:k<l.length
 ·have hlt':(k:Int)<l.length:=by omega
  have hix:=idx22 l k hlt
  have w2:IntKind.i64.wrap ((k:Int)+1)=((k+1:Nat):Int):=by rw[wrap_in (by omega)];omega
  have lf:=ld37i l[k]
  have c37:=call37 l[k] (hs _ (List.getElem_mem hlt))
  rw[List.drop_eq_getElem_cons hlt,firstE] at hd
  generalize l[k]=c at hix lf c37 hd
  by_cases hz:clauseE c=0
  ·rw[if_pos hz] at hd
   simp[go_sem,g0,g5,hln,hlt',hix,lf,c37,hz,-Int.natCast_add,w2]
   exact ⟨l.length-(k+1),by omega,k+1,rfl,hlt,rfl,by simp[go_sem,g0],by simp[go_sem,g3],by simp[go_sem],hd⟩
  ·rw[if_neg hz] at hd
   simp[go_sem,g0,g5,hln,hlt',hix,lf,c37,hz]
   exact fin _ _ (clauseE c) (by simp[go_sem]) (by rw[hd,if_neg hz]) _ (.inr rfl)
 ·have:k=l.length:=by omega
  subst this
  rw[List.drop_length,firstE] at hd
  have q0:loadV C.P [.cells (faC f) .live] 35 (.ptr 0 0)=some (encFa f):=ld35f rfl
  have c37:∀h,callV C h (.func 37 []) (some [oneV f])=some (.int .i64 (clauseE ⟨[],f⟩),h):=fun h=>callV_strip (by kernel_rfl) rfl (args':=[encCl ⟨[],f⟩]) rfl rfl (by simp) (valid37 _ (okF_one hf))
  have bl:=bld37 f
  simp only[oneV] at c37
  simp[go_sem,g0,g3,g5,hln,q0,bl,c37,show notTuple (encFa f)=true from rfl]
  exact fin _ _ (clauseE ⟨[],f⟩) (by simp[go_sem]) (by rw[hd,if_pos rfl]) _ (.inr rfl)
theorem call32 (l:List Cl) (f:Fa) (hl:l.length≤10000) (hs:∀c∈l,okF (factsOf c)) (hf:smallT f.terms) (h:H):callV C h (.func 32 []) (some [clsV l,encFa f])=some (.int .i64 (rightE l f),h):=by
 rw[←list_right]
 exact callV_strip (by kernel_rfl) rfl (args':=[clsV l,encFa f]) rfl rfl (by simp) (list32 l f hl hs hf)
theorem first31 (l:List Cl) (f:Fa) (hl:l.length<4000000) (hp:∀c∈l,Pr c f):CallP C 31 [clsV l,encFa f]=some (.tuple [.int .i64 (openE 0 (ixF (openB f) l 0) 0).1,.int .i64 (openE 0 (ixF (openB f) l 0) 0).2]):=by
 refine CallP_W rfl Tryz.func31 rfl (by kernel_rfl) (by simp[Tryz.f31]) fun R hR=>?_
 have fin:∀(st:PT) (h:H) (a e:Int),st.get 4=.int .i64 a→st.get 5=.int .i64 e→openE 0 (ixF (openB f) l 0) 0=(a,e)→R .ret st h:=fun st h a e h1 h2 he=>hR _ _ _ (.inr rfl) ⟨.tuple [.int .i64 a,.int .i64 e],by simp[resultV,resV,resVs,Tryz.f31,h1,h2],by rw[he];exact snap_dat rfl rfl⟩
 have bx:=box35 f
 have q0:loadV C.P [.cells (faC f) .live] 35 (.ptr 0 0)=some (encFa f):=ld35f rfl
 have c53:=call53 l f hl hp
 generalize ixF (openB f) l 0=i at c53 fin
 by_cases q:i<0
 ·simp[go_sem,initS,bx,q0,c53,q]
  exact fin _ _ 0 15 (by simp[go_sem]) (by simp[go_sem]) (by rw[openE,if_pos rfl,if_pos q])
 ·simp[go_sem,initS,bx,q0,c53,q]
  exact fin _ _ i 0 (by simp[go_sem]) (by simp[go_sem]) (by rw[openE,if_pos rfl,if_neg q])
theorem call31 (l:List Cl) (f:Fa) (hl:l.length<4000000) (hp:∀c∈l,Pr c f) (h:H):callV C h (.func 31 []) (some [clsV l,encFa f])=some (.tuple [.int .i64 (openE 0 (ixF (openB f) l 0) 0).1,.int .i64 (openE 0 (ixF (openB f) l 0) 0).2],h):=callV_strip (by kernel_rfl) rfl (args':=[clsV l,encFa f]) rfl rfl (by simp) (first31 l f hl hp)
end Go.VZ
