/- Bindings put into terms: the program's way. -/
import Derived.Test.YtdoegkegjaadeaaGreatDoorSc
import Derived.Test.YtdoegkegjaadeaaGreatDoorSb
import Derived.MakeChecks
import Derived.OpenShut
import Derived.Test.YtdoegkegjaadeaaGreatDoorSa
import Derived.WalkKit
import Derived.ProofKit
import Derived.Below
import Derived.Shelf.Strings.Builder1
import Derived.Deep.RegionHeld3
import Derived.Laws.IdiomRangeMap
namespace Go.VZ
open Go Go.V Go.Proofs TL
def NA116 (l:List (T × T)) (t:T) (m:Nat) (st:PT) (h:H):Prop:=∃k:Nat,m=l.length-k∧k≤l.length∧h[0]?=some (.cells (enc t).cells .live)∧h[1]?=some (.cells zc .live)∧st.get 3=.ptr 0 0∧st.get 4=.ptr 1 0∧st.get 13=binds l∧st.get 14=.int .i64 l.length∧st.get 15=.int .i64 k∧getB (l.drop k) t=getB l t
def NB116 (l:List (T × T)) (t:T) (m:Nat) (st:PT) (h:H):Prop:=∃(k:Nat) (v:AV),m=t.kids.length-k∧k≤t.kids.length∧h[1]?=some (.cells zc .live)∧h[2]?=some (.cells (tcv t v) .live)∧st.get 0=binds l∧st.get 4=.ptr 1 0∧st.get 7=.ptr 2 0∧st.get 30=terms t.kids∧st.get 31=.int .i64 t.kids.length∧st.get 32=.int .i64 k ∧
 OwnR 25 h v (((t.kids.take k).map (putB l)).map enc)
theorem st25zc {h:H}{i:Nat}(t:T) (hi:h[i]?=some (.cells zc .live)):storeV C.P h 25 (.ptr i 0) (enc t)=some (h.set i (.cells (enc t).cells .live)):=by
 rw[enc_eq];simp[storeV,hi,s25,zc,cells_agg]
set_option maxRecDepth 8000 in
set_option maxHeartbeats 4000000 in
theorem put116 (l:List (T × T)) (t:T) (hs:small l) (hv:t.size<4000000) (hl:l.length<4000000) (hc:∀k∈t.kids,CallP C 116 [binds l,enc k]=some (enc (putB l k))):CallP C 116 [binds l,enc t]=some (enc (putB l t)):=by
 refine CallP_W rfl Tryz.func116 rfl (by kernel_rfl) (by simp[Tryz.f116]) fun R hR=>?_
 have fin:∀(s:PT) (t':T) (h:H),s.get 4=.ptr 1 0→h[1]?=some (.cells (enc t').cells .live)→t'=putB l t→R .ret s h:=fun s t' h hs hh ht=>by
  refine hR _ _ _ (.inr rfl) ⟨enc t',?_,?_⟩
  ·simp[resultV,resV,Tryz.f116,hs,loadV,hh,cellsAt,a25,s25,enc_cells];rw[enc_eq]
  ·rw[←ht];exact snap_dat (dat_enc' t') (short_enc t')
 have hpe:=putB_eq l t
 have hsz:=size_kids t
 have hlen:=len_sizes t.kids
 have hln:=len23t t.kids
 have hlb:=len46b l
 by_cases h1:t.kind=1
 ·rw[if_pos h1] at hpe
  simp[go_sem,box25,h1,hlb]
  refine W_loop (NA116 l t) l.length ⟨0,rfl,Nat.zero_le _,by rw[enc_cells,h1];rfl,rfl,by simp[go_sem],by simp[go_sem],by simp[go_sem],by simp[go_sem],by simp[go_sem],rfl⟩ ?_
  rintro m st h ⟨k,rfl,hk,m0,m1,g3,g4,g13,g14,g15,hd⟩
  by_cases hlt:k<l.length
  ·have hlt':(k:Int)<l.length:=by omega
   have hix:indexAddrV C.P 46 (binds l) (.int .i64 k)=some (.iptr (encB l[k]) 0):=idx46 l k hlt .unk
   have w2:IntKind.i64.wrap ((k:Int)+1)=((k+1:Nat):Int):=by rw[wrap_in (by omega)];omega
   have e1:=fun c1 c2 c3 c4 c5 c6 c7 c8=>st86 l[k] c1 c2 c3 c4 c5 c6 c7 c8 h
   have hb:=hs _ (List.getElem_mem hlt)
   obtain ⟨h2,eh2⟩:∃g,g=h++[.cells (encB l[k]).cells .live]:=⟨_,rfl⟩
   simp only[←eh2] at e1
   have nb:h2[h.length]?=some (.cells (encB l[k]).cells .live):=by rw[eh2];simp
   have n0:h2[0]?=some (.cells (enc t).cells .live):=by rw[eh2];exact ga m0
   have n1:h2[1]?=some (.cells zc .live):=by rw[eh2];exact ga m1
   have l0:=ldB0 nb
   have l4:=ldB4 nb
   have lt:=ldn25 t n0
   have c1:=call62 l[k].1 t hb.1 hv
   rw[List.drop_eq_getElem_cons hlt,getB] at hd
   by_cases hz:l[k].1.cmp t=0
   ·rw[if_pos hz] at hd
    have s1:=st25zc l[k].2 n1
    simp[go_sem,g3,g4,g13,g14,g15,hlt',hix,ld86,cells_agg,e1,l0,l4,lt,c1,hz,s1]
    exact fin _ l[k].2 _ (by simp[go_sem,g4]) (List.getElem?_set_self (List.getElem?_eq_some_iff.1 n1).1) (by rw[hpe,hd])
   ·rw[if_neg hz] at hd
    simp[go_sem,g3,g13,g14,g15,hlt',hix,ld86,cells_agg,e1,l0,lt,c1,hz,-Int.natCast_add,w2]
    exact ⟨l.length-(k+1),by omega,k+1,rfl,hlt,n0,n1,by simp[go_sem,g3],by simp[go_sem,g4],by simp[go_sem,g13],by simp[go_sem,g14],by simp[go_sem],hd⟩
  ·have:k=l.length:=by omega
   subst this
   rw[List.drop_length,getB] at hd
   have lt:=ldn25 t m0
   have s1:=st25zc t m1
   simp[go_sem,g3,g4,g14,g15,lt,s1]
   exact fin _ t _ (by simp[go_sem,g4]) (List.getElem?_set_self (List.getElem?_eq_some_iff.1 m1).1) (by rw[hpe,←hd])
 rw[if_neg h1] at hpe
 have q1:∀(x y:VObj) (a b c:AV),storeV C.P [x,y,.cells [a,b,c,.isl (t.kids.map enc) .unk] .live] 23 (.ptr 2 3) (.isl [] .full)=some [x,y,.cells [a,b,c,.isl [] .full] .live]:=fun x y a b c=>by simp[storeV,s23]
 simp[go_sem,enc_cells,h1,ld25c,st25c,terms,q1,ld23c,len23]
 refine W_loop (NB116 l t) t.kids.length ⟨0,.isl [] .full,rfl,Nat.zero_le _,rfl,rfl,by simp[go_sem],by simp[go_sem],by simp[go_sem],by simp[go_sem,terms],by simp[go_sem],by simp[go_sem],.inl rfl⟩ ?_
 clear q1
 rintro m s h ⟨k,v,rfl,hk,m1,m2,g0,g4,g7,g30,g31,g32,go⟩
 have ntv:notTuple v=true:=by obtain ⟨x,rfl⟩:=go.isl;rfl
 by_cases hlt:k<t.kids.length
 ·have hlt':(k:Int)<t.kids.length:=by omega
  have hix:=idx23t t.kids k hlt
  have w2:IntKind.i64.wrap ((k:Int)+1)=((k+1:Nat):Int):=by rw[wrap_in (by omega)];omega
  have ck:∀h,callV C h (.func 116 []) (some [binds l,enc t.kids[k]])=some (enc (putB l t.kids[k]),h):=fun h=>callV_strip (by kernel_rfl) rfl (dat_binds2 _ _) (by simp[short_binds,short_enc]) (by simp) (hc _ (List.getElem_mem hlt))
  have e4:=st25z t.kids[k] h
  have e5:=ldb25z t.kids[k] h
  obtain ⟨h2,eh2⟩:∃g,g=h++[.cells (enc t.kids[k]).cells .live]:=⟨_,rfl⟩
  have n1:h2[1]?=some (.cells zc .live):=by rw[eh2];exact ga m1
  have n2:h2[2]?=some (.cells (tcv t v) .live):=by rw[eh2];exact ga m2
  have go2:OwnR 25 h2 v (((t.kids.take k).map (putB l)).map enc):=by rw[eh2];exact go.keep (Keep.append _ _ none) (by simp)
  have nb:h2[h.length]?=some (.cells (enc t.kids[k]).cells .live):=by rw[eh2];simp
  have l0:loadV C.P h2 23 (.ptr 2 3)=some v:=by simp[loadV,n2,tcv,cellsAt,a23,s23]
  rw[←eh2] at e4 e5
  obtain ⟨v',h',ha,hst,hw,hoth,hself⟩:=field23 (i:=2) (o:=3) (putB l t.kids[k]) go2 n2 (by simp[tcv]) (by simp;omega)
  have etk:(t.kids.take k).map (putB l)++[putB l t.kids[k]]=(t.kids.take (k+1)).map (putB l):=by
   rw[←List.take_append_getElem hlt,List.map_append];rfl
  rw[etk] at hw
  have hn2:=own_not go2 n2
  have hnb:=own_not go2 nb
  simp[go_sem,g30,g31,g32,hlt',hix,ld25,e4]
  refine W_regionS 14 _ (by simp[mixC]) rfl ?_
  simp[go_sem,g0,g7,g32,l0,e5,ck,build23_1,ha,hst,-Int.natCast_add,w2]
  refine ⟨?_,t.kids.length-(k+1),by omega,k+1,v',rfl,hlt,hoth 1 _ _ (by omega) n1,hself,by simp[go_sem,g0],by simp[go_sem,g4],by simp[go_sem,g7],by simp[go_sem,g30],by simp[go_sem,g31],by simp[go_sem],hw⟩
  rcases go2 with rfl | ⟨id,rfl,hd⟩
  ·simp[go_sem,idsOk,ldIds,apIds,ldId,appId,mslId]
  ·simp only[idOf,ne_eq,Option.some.injEq] at hn2 hnb
   simp[go_sem,idsOk,ldIds,apIds,ldId,appId,mslId]
   (try omega)
 ·have:k=t.kids.length:=by omega
  subst this
  rw[List.take_length] at go
  obtain ⟨x,rfl⟩:=go.isl
  have e5:loadV C.P h 25 (.ptr 2 0)=some (.agg [.int .i64 t.kind,.str t.name,.int .i64 t.sort,.isl ((t.kids.map (putB l)).map enc) x]):=by simp[loadV,m2,cellsAt,a25,s25,tcv]
  have e6:storeV C.P h 25 (.ptr 1 0) (.agg [.int .i64 t.kind,.str t.name,.int .i64 t.sort,.isl ((t.kids.map (putB l)).map enc) x])=some (h.set 1 (.cells [.int .i64 t.kind,.str t.name,.int .i64 t.sort,.isl ((t.kids.map (putB l)).map enc) x] .live)):=by simp[storeV,m1,s25,zc]
  have e7:=(List.getElem?_eq_some_iff.1 m1).1
  generalize hzz:AV.agg [.int .i64 t.kind,.str t.name,.int .i64 t.sort,.isl ((t.kids.map (putB l)).map enc) x]=zz at e5 e6
  simp[go_sem,g4,g7,g31,g32,e5,e6]
  refine hR _ _ _ (.inr rfl) ⟨zz,?_,?_⟩
  ·simp[resultV,resV,Tryz.f116,go_sem,g4,loadV,List.getElem?_set_self e7,cellsAt,a25,s25,←hzz]
  ·rw[hpe,enc_eq,←hzz];exact snap_dat rfl rfl
theorem put116_all (l:List (T × T)) (hs:small l) (hl:l.length<4000000) (t:T):t.size<4000000→CallP C 116 [binds l,enc t]=some (enc (putB l t)):=by
 induction t using T.ind with
 | _ t ih=>exact fun hv=>put116 l t hs hv hl (fun k hk=>ih k hk (by have:=kid_size hk;omega))
theorem call116 (l:List (T × T)) (t:T) (hs:small l) (hv:t.size<4000000) (hl:l.length<4000000) (h:H):callV C h (.func 116 []) (some [binds l,enc t])=some (enc (putB l t),h):=callV_strip (by kernel_rfl) rfl (dat_binds2 _ _) (by simp[short_binds,short_enc]) (by simp) (put116_all l hs hl t hv)
end Go.VZ

/- Bindings put into facts and clauses: both ways. -/
namespace Go.VZ
open Go Go.V Go.Proofs TL
def putFa (l:List (T × T)) (f:Fa):Fa:=⟨f.kind,f.goal,f.terms.map (putB l)⟩
def putCl (l:List (T × T)) (c:Cl):Cl:=⟨c.body.map (putFa l),putFa l c.head⟩
def fav (f:Fa) (v:AV):List AV:=[.int .i64 f.kind,.int .i64 f.goal,v]
theorem st35zc {h:H}{i:Nat}(a b c:AV) (f:Fa) (x:Ext) (hi:h[i]?=some (.cells [a,b,c] .live)):storeV C.P h 35 (.ptr i 0) (.agg [.int .i64 f.kind,.int .i64 f.goal,.isl (f.terms.map enc) x])=some (h.set i (.cells [.int .i64 f.kind,.int .i64 f.goal,.isl (f.terms.map enc) x] .live)):=by
 simp[storeV,hi,s35]
def NI65 (l:List (T × T)) (f:Fa) (m:Nat) (s:PT) (h:H):Prop:=∃(k:Nat) (v:AV),m=f.terms.length-k∧k≤f.terms.length∧h[1]?=some (.cells z35c .live)∧h[2]?=some (.cells (fav f v) .live)∧s.get 0=binds l∧s.get 4=.ptr 1 0∧s.get 5=.ptr 2 0∧s.get 11=terms f.terms∧s.get 12=.int .i64 f.terms.length∧s.get 13=.int .i64 k ∧
 OwnR 25 h v (((f.terms.take k).map (putB l)).map enc)
set_option maxRecDepth 8000 in
set_option maxHeartbeats 4000000 in
theorem put65 (l:List (T × T)) (f:Fa) (hs:small l) (hl:l.length<4000000) (hv:smallT f.terms):CallP C 65 [binds l,encFa f]=some (encFa (putFa l f)):=by
 refine CallP_W rfl Tryz.func65 rfl (by kernel_rfl) (by simp[Tryz.f65]) fun R hR=>?_
 have hln:=len23t f.terms
 have hvl:=hv.1
 obtain ⟨h0,eh0⟩:∃g:H,g=[.cells (faC f) .live,.cells z35c .live]:=⟨_,rfl⟩
 have m0:h0[0]?=some (.cells (faC f) .live):=by rw[eh0];rfl
 have lf:loadV C.P h0 35 (.ptr 0 0)=some (encFa f):=by simp[loadV,m0,cellsAt,a35,s35,faC,encFa]
 have e1:=st35z f h0
 have hl0:h0.length=2:=by rw[eh0];rfl
 obtain ⟨h1,eh1⟩:∃g,g=h0++[.cells (faC f) .live]:=⟨_,rfl⟩
 have q1:storeV C.P h1 23 (.ptr h0.length 2) (.isl [] .full)=some (h1.set 2 (.cells (fav f (.isl [] .full)) .live)):=by
  have:h1[2]?=some (.cells (faC f) .live):=by rw[eh1,←hl0];simp
  simp[storeV,this,s23,fav,faC,hl0]
 have hl1:h1.length=3:=by rw[eh1];simp[hl0]
 have k0:(h1.set 2 (.cells (fav f (.isl [] .full)) .live))[0]?=some (.cells (faC f) .live):=by rw[List.getElem?_set_ne (by simp),eh1];exact ga m0
 have k1:(h1.set 2 (.cells (fav f (.isl [] .full)) .live))[1]?=some (.cells z35c .live):=by rw[List.getElem?_set_ne (by simp),eh1,eh0];rfl
 have k2:(h1.set 2 (.cells (fav f (.isl [] .full)) .live))[2]?=some (.cells (fav f (.isl [] .full)) .live):=List.getElem?_set_self (by omega)
 have l23:=ld23f k0
 rw[←eh1] at e1
 simp only[eh0,List.length_cons,List.length_nil] at e1 q1 lf
 replace e1:storeV C.P [.cells (faC f) .live,.cells z35c .live,.cells z35c .live] 35 (.ptr 2 0) (encFa f)=some h1:=e1
 replace q1:storeV C.P h1 23 (.ptr 2 2) (.isl [] .full)=some (h1.set 2 (.cells (fav f (.isl [] .full)) .live)):=q1
 simp[go_sem,box35,zv35,cells_agg,lf,e1,q1,l23,hln]
 refine W_loop (NI65 l f) f.terms.length ⟨0,.isl [] .full,rfl,Nat.zero_le _,k1,k2,by simp[go_sem],by simp[go_sem],by simp[go_sem],by simp[go_sem],by simp[go_sem],by simp[go_sem],.inl rfl⟩ ?_
 clear l23 k0 k1 k2 q1 e1 lf m0 eh1 hl1 h1 eh0 hl0 h0
 rintro m s h ⟨k,v,rfl,hk,m1,m2,g0,g4,g5,g11,g12,g13,go⟩
 have ntv:notTuple v=true:=by obtain ⟨x,rfl⟩:=go.isl;rfl
 by_cases hlt:k<f.terms.length
 ·have hlt':(k:Int)<f.terms.length:=by omega
  have hix:=idx23t f.terms k hlt
  have w2:IntKind.i64.wrap ((k:Int)+1)=((k+1:Nat):Int):=by rw[wrap_in (by omega)];omega
  have ck:=call116 l f.terms[k] hs (hv.2 _ (List.getElem_mem hlt)) hl
  have e4:=st25z f.terms[k] h
  have e5:=ldb25z f.terms[k] h
  obtain ⟨h2,eh2⟩:∃g,g=h++[.cells (enc f.terms[k]).cells .live]:=⟨_,rfl⟩
  have n1:h2[1]?=some (.cells z35c .live):=by rw[eh2];exact ga m1
  have n2:h2[2]?=some (.cells (fav f v) .live):=by rw[eh2];exact ga m2
  have go2:OwnR 25 h2 v (((f.terms.take k).map (putB l)).map enc):=by rw[eh2];exact go.keep (Keep.append _ _ none) (by simp)
  have nb:h2[h.length]?=some (.cells (enc f.terms[k]).cells .live):=by rw[eh2];simp
  have l0:loadV C.P h2 23 (.ptr 2 2)=some v:=by simp[loadV,n2,fav,cellsAt,a23,s23]
  rw[←eh2] at e4 e5
  obtain ⟨v',h',ha,hst,hw,hoth,hself⟩:=field23 (i:=2) (o:=2) (putB l f.terms[k]) go2 n2 (by simp[fav]) (by simp;omega)
  have etk:(f.terms.take k).map (putB l)++[putB l f.terms[k]]=(f.terms.take (k+1)).map (putB l):=by
   rw[←List.take_append_getElem hlt,List.map_append];rfl
  rw[etk] at hw
  have hn2:=own_not go2 n2
  have hnb:=own_not go2 nb
  simp[go_sem,g11,g12,g13,hlt',hix,ld25,e4]
  refine W_regionS 6 _ (by simp[mixC]) rfl ?_
  simp[go_sem,g0,g5,g13,l0,e5,ck,build23_1,ha,hst,-Int.natCast_add,w2]
  refine ⟨?_,f.terms.length-(k+1),by omega,k+1,v',rfl,hlt,hoth 1 _ _ (by omega) n1,hself,by simp[go_sem,g0],by simp[go_sem,g4],by simp[go_sem,g5],by simp[go_sem,g11],by simp[go_sem,g12],by simp[go_sem],hw⟩
  rcases go2 with rfl | ⟨id,rfl,hd⟩
  ·simp[go_sem,idsOk,ldIds,apIds,ldId,appId,mslId]
  ·simp only[idOf,ne_eq,Option.some.injEq] at hn2 hnb
   simp[go_sem,idsOk,ldIds,apIds,ldId,appId,mslId]
   (try omega)
 ·have:k=f.terms.length:=by omega
  subst this
  rw[List.take_length] at go
  obtain ⟨x,rfl⟩:=go.isl
  have e5:loadV C.P h 35 (.ptr 2 0)=some (.agg [.int .i64 f.kind,.int .i64 f.goal,.isl ((putFa l f).terms.map enc) x]):=by simp[loadV,m2,cellsAt,a35,s35,fav,putFa]
  have e6:=st35zc _ _ _ (putFa l f) x m1
  have e7:=(List.getElem?_eq_some_iff.1 m1).1
  change storeV C.P h 35 (.ptr 1 0) (.agg [.int .i64 f.kind,.int .i64 f.goal,.isl ((putFa l f).terms.map enc) x])=_ at e6
  generalize hzz:AV.agg [.int .i64 f.kind,.int .i64 f.goal,.isl ((putFa l f).terms.map enc) x]=zz at e5 e6
  simp[go_sem,g4,g5,g12,g13,e5,e6]
  refine hR _ _ _ (.inr rfl) ⟨zz,?_,?_⟩
  ·simp[resultV,resV,Tryz.f65,go_sem,g4,loadV,List.getElem?_set_self e7,cellsAt,a35,s35,←hzz,putFa]
  ·rw[←hzz];exact snap_dat rfl rfl
theorem call65 (l:List (T × T)) (f:Fa) (hs:small l) (hl:l.length<4000000) (hv:smallT f.terms) (h:H):callV C h (.func 65 []) (some [binds l,encFa f])=some (encFa (putFa l f),h):=callV_strip (by kernel_rfl) rfl (args':=[binds l,encFa f]) rfl (by simp[short_binds];rfl) (by simp) (put65 l f hs hl hv)
theorem bld35 (f:Fa):buildV C.P 35 [(0,.int .i64 f.kind),(1,.int .i64 f.goal)]=some (.agg (fav f (.isl [] .full))):=by kernel_rfl
theorem st35n {h:H}(f:Fa) (v:AV) (_hv:notTuple v=true):storeV C.P (h++[.cells z35c .live]) 35 (.ptr h.length 0) (.agg (fav f v))=some (h++[.cells (fav f v) .live]):=by
 simp[storeV,s35,z35c,fav]
def NI121 (l:List (T × T)) (f:Fa) (m:Nat) (s:PT) (h:H):Prop:=∃(k:Nat) (v:AV),m=f.terms.length-k∧k≤f.terms.length∧h[0]?=some (.cells (faC f) .live)∧h[1]?=some (.cells z35c .live)∧h[2]?=some (.cells (fav f v) .live)∧s.get 0=binds l∧s.get 3=.ptr 0 0∧s.get 4=.ptr 1 0∧s.get 5=.ptr 2 0∧s.get 6=.int .i64 k ∧
 OwnR 25 h v (((f.terms.take k).map (putB l)).map enc)
set_option maxRecDepth 8000 in
set_option maxHeartbeats 4000000 in
theorem apply121 (l:List (T × T)) (f:Fa) (hs:small l) (hl:l.length<4000000) (hv:smallT f.terms):CallP C 121 [binds l,encFa f]=some (encFa (putFa l f)):=by
 refine CallP_W rfl Tryz.func121 rfl (by kernel_rfl) (by simp[Tryz.f121]) fun R hR=>?_
 have hln:=len23t f.terms
 have hvl:=hv.1
 obtain ⟨h0,eh0⟩:∃g:H,g=[.cells (faC f) .live,.cells z35c .live]:=⟨_,rfl⟩
 have m0:h0[0]?=some (.cells (faC f) .live):=by rw[eh0];rfl
 have k0:=ld3f0 m0
 have k1:=ld3f1 m0
 have e1:=st35n (h:=h0) f (.isl [] .full) rfl
 have bl:=bld35 f
 simp only[eh0,List.length_cons,List.length_nil] at e1 k0 k1
 simp[go_sem,box35,zv35,cells_agg,k0,k1,bl,notTuple]
 refine W_loop (NI121 l f) f.terms.length ⟨0,.isl [] .full,rfl,Nat.zero_le _,rfl,rfl,rfl,by simp[go_sem],by simp[go_sem],by simp[go_sem],by simp[go_sem],by simp[go_sem],.inl rfl⟩ ?_
 clear e1 k0 k1 m0 eh0 h0
 rintro m s h ⟨k,v,rfl,hk,m0,m1,m2,g0,g3,g4,g5,g6,go⟩
 have ntv:notTuple v=true:=by obtain ⟨x,rfl⟩:=go.isl;rfl
 have lt:=ld23f m0
 have l0:loadV C.P h 23 (.ptr 2 2)=some v:=by simp[loadV,m2,fav,cellsAt,a23,s23]
 by_cases hlt:k<f.terms.length
 ·have hlt':(k:Int)<f.terms.length:=by omega
  have hix:=idx23t f.terms k hlt
  have w2:IntKind.i64.wrap ((k:Int)+1)=((k+1:Nat):Int):=by rw[wrap_in (by omega)];omega
  have ck:=call87 l f.terms[k] hs (hv.2 _ (List.getElem_mem hlt)) hl
  obtain ⟨v',h',ha,hst,hw,hoth,hself⟩:=field23 (i:=2) (o:=2) (putB l f.terms[k]) go m2 (by simp[fav]) (by simp;omega)
  have etk:(f.terms.take k).map (putB l)++[putB l f.terms[k]]=(f.terms.take (k+1)).map (putB l):=by
   rw[←List.take_append_getElem hlt,List.map_append];rfl
  rw[etk] at hw
  have hn2:=own_not go m2
  have hn0:=own_not go m0
  simp[go_sem,g3,g6,lt,hln,hlt',-Int.natCast_add]
  refine W_regionS 5 _ (by simp[mixC]) rfl ?_
  simp[go_sem,g0,g3,g5,g6,lt,l0,hix,ld25,ck,build23_1,ha,hst,-Int.natCast_add,w2]
  refine ⟨?_,f.terms.length-(k+1),by omega,k+1,v',rfl,hlt,hoth 0 _ _ (by omega) m0,hoth 1 _ _ (by omega) m1,hself,by simp[go_sem,g0],by simp[go_sem,g3],by simp[go_sem,g4],by simp[go_sem,g5],by simp[go_sem],hw⟩
  rcases go with rfl | ⟨id,rfl,hd⟩
  ·simp[go_sem,idsOk,ldIds,apIds,ldId,appId,mslId]
  ·simp only[idOf,ne_eq,Option.some.injEq] at hn2 hn0
   simp[go_sem,idsOk,ldIds,apIds,ldId,appId,mslId]
   (try omega)
 ·have:k=f.terms.length:=by omega
  subst this
  rw[List.take_length] at go
  obtain ⟨x,rfl⟩:=go.isl
  have e5:loadV C.P h 35 (.ptr 2 0)=some (.agg [.int .i64 f.kind,.int .i64 f.goal,.isl ((putFa l f).terms.map enc) x]):=by simp[loadV,m2,cellsAt,a35,s35,fav,putFa]
  have e6:=st35zc _ _ _ (putFa l f) x m1
  have e7:=(List.getElem?_eq_some_iff.1 m1).1
  change storeV C.P h 35 (.ptr 1 0) (.agg [.int .i64 f.kind,.int .i64 f.goal,.isl ((putFa l f).terms.map enc) x])=_ at e6
  generalize hzz:AV.agg [.int .i64 f.kind,.int .i64 f.goal,.isl ((putFa l f).terms.map enc) x]=zz at e5 e6
  simp[go_sem,g3,g4,g5,g6,lt,hln,e5,e6]
  refine hR _ _ _ (.inr rfl) ⟨zz,?_,?_⟩
  ·simp[resultV,resV,Tryz.f121,go_sem,g4,loadV,List.getElem?_set_self e7,cellsAt,a35,s35,←hzz,putFa]
  ·rw[←hzz];exact snap_dat rfl rfl
theorem call121 (l:List (T × T)) (f:Fa) (hs:small l) (hl:l.length<4000000) (hv:smallT f.terms) (h:H):callV C h (.func 121 []) (some [binds l,encFa f])=some (encFa (putFa l f),h):=callV_strip (by kernel_rfl) rfl (args':=[binds l,encFa f]) rfl (by simp[short_binds];rfl) (by simp) (apply121 l f hs hl hv)
end Go.VZ

/- Bindings put into a clause: the reference's way walked. -/
namespace Go.VZ
open Go Go.V Go.Proofs TL
theorem append33 {h:H}{v:AV}{xs ys:List Fa}{x:Ext}(o:OwnR 35 h v (xs.map encFa)) (hl:xs.length+ys.length≤100000000000) :
  ∃v' h',appendW C.P false h 33 v (.isl (ys.map encFa) x)=some (v',h')∧OwnR 35 h' v' ((xs++ys).map encFa)∧Keep h h' (idOf v)∧(idOf v'=idOf v∨idOf v=none∧idOf v'=some h.length):=by
 have:=append_own (x:=x) u33 s35 b35 z35 rfl o (szOk_encFa xs) (szOk_encFa ys) (by simp only[List.length_map];omega)
 rwa [←List.map_append] at this
theorem field33 {h:H}{v:AV}{xs:List Fa}{i o:Nat}{cs:List AV}(y:Fa) (go:OwnR 35 h v (xs.map encFa)) (hi:h[i]?=some (.cells cs .live)) (ho:o<cs.length) (hl:xs.length<10000000) :
  ∃v' h',appendW C.P false h 33 v (.isl [encFa y] .full)=some (v',h')∧storeV C.P h' 33 (.ptr i o) v'=some (h'.set i (.cells (cs.set o v') .live))∧OwnR 35 (h'.set i (.cells (cs.set o v') .live)) v' ((xs++[y]).map encFa) ∧
   (∀(j:Nat) c st,j≠i→h[j]?=some (.cells c st)→(h'.set i (.cells (cs.set o v') .live))[j]?=some (.cells c st))∧(h'.set i (.cells (cs.set o v') .live))[i]?=some (.cells (cs.set o v') .live):=by
 obtain ⟨v',h',ha,hw,hkp,hid⟩:=append33 (ys:=[y]) (x:=.full) go (by simp;omega)
 have hne:∀(j:Nat) c st,h[j]?=some (.cells c st)→idOf v≠some j:=fun j c st hj=>own_not go hj
 have hi':=hkp.get hi (hne _ _ _ hi)
 have hlt:=(List.getElem?_eq_some_iff.1 hi').1
 refine ⟨v',h',by simpa using ha,?_,?_,?_,List.getElem?_set_self hlt⟩
 ·obtain ⟨x,rfl⟩:=hw.isl
  simp[storeV,hi',s33,ho]
 ·refine hw.keep (Keep.set _ _ _) (fun j hj e=>?_)
  simp only[Option.some.injEq] at e
  subst e
  rcases hid with h1 | ⟨h1,h2⟩
  ·exact hne _ _ _ hi (h1▸hj)
  ·have:=(List.getElem?_eq_some_iff.1 hi).1
   rw[h2] at hj;simp only[Option.some.injEq] at hj;omega
 ·intro j c st hj hc
  rw[List.getElem?_set_ne (fun e=>hj e.symm)]
  exact hkp.get hc (hne _ _ _ hc)
def z37c:List AV:=[.isl [] .full,.int .i64 0,.int .i64 0,.isl [] .full]
theorem zv37:zeroV C.P 37=some (.agg z37c):=by kernel_rfl
theorem st37n {h:H}(f:Fa) (v:AV) (_hv:notTuple v=true):storeV C.P (h++[.cells z37c .live]) 37 (.ptr h.length 0) (.agg (v::faC f))=some (h++[.cells (v::faC f) .live]):=by
 simp[storeV,s37,z37c,faC]
def NI71 (l:List (T × T)) (c:Cl) (m:Nat) (s:PT) (h:H):Prop:=∃(k:Nat) (v:AV),m=c.body.length-k∧k≤c.body.length∧h[0]?=some (.cells (clC c) .live)∧h[1]?=some (.cells z37c .live)∧h[2]?=some (.cells (v::faC (putFa l c.head)) .live)∧s.get 0=binds l∧s.get 3=.ptr 0 0∧s.get 4=.ptr 1 0∧s.get 5=.ptr 2 0∧s.get 6=.int .i64 k ∧
 OwnR 35 h v (((c.body.take k).map (putFa l)).map encFa)
theorem st37zc {h:H}{i:Nat}(c:Cl) (x:Ext) (hi:h[i]?=some (.cells z37c .live)):storeV C.P h 37 (.ptr i 0) (.agg (.isl (c.body.map encFa) x::faC c.head))=some (h.set i (.cells (.isl (c.body.map encFa) x::faC c.head) .live)):=by
 simp[storeV,hi,s37,z37c,faC]
set_option maxRecDepth 8000 in
set_option maxHeartbeats 4000000 in
theorem apply71 (l:List (T × T)) (c:Cl) (hs:small l) (hl:l.length<4000000) (hv:∀f∈factsOf c,smallT f.terms) (hb:c.body.length≤10000):CallP C 71 [binds l,encCl c]=some (encCl (putCl l c)):=by
 refine CallP_W rfl Tryz.func71 rfl (by kernel_rfl) (by simp[Tryz.f71]) fun R hR=>?_
 obtain ⟨h0,eh0⟩:∃g:H,g=[.cells (clC c) .live,.cells z37c .live]:=⟨_,rfl⟩
 have m0:h0[0]?=some (.cells (clC c) .live):=by rw[eh0];rfl
 have q1:=ld35c m0
 have c1:=call121 l c.head hs hl (hv _ (by simp[factsOf]))
 have bl:=bld37 (putFa l c.head)
 have e1:=st37n (h:=h0) (putFa l c.head) (.isl [] .full) rfl
 simp only[eh0,List.length_cons,List.length_nil] at e1 q1
 replace e1:storeV C.P [.cells (clC c) .live,.cells z37c .live,.cells z37c .live] 37 (.ptr 2 0) (.agg (.isl [] .full::faC (putFa l c.head)))=some [.cells (clC c) .live,.cells z37c .live,.cells (.isl [] .full::faC (putFa l c.head)) .live]:=e1
 simp[go_sem,box37,zv37,cells_agg,q1,c1,bl,e1,show notTuple (encFa (putFa l c.head))=true from rfl]
 refine W_loop (NI71 l c) c.body.length ⟨0,.isl [] .full,rfl,Nat.zero_le _,rfl,rfl,rfl,by simp[go_sem],by simp[go_sem],by simp[go_sem],by simp[go_sem],by simp[go_sem],.inl rfl⟩ ?_
 clear e1 q1 m0 eh0 h0
 rintro m s h ⟨k,v,rfl,hk,m0,m1,m2,g0,g3,g4,g5,g6,go⟩
 have ntv:notTuple v=true:=by obtain ⟨x,rfl⟩:=go.isl;rfl
 have lb:=ld33c m0
 have hln:=len33f c.body
 have l0:loadV C.P h 33 (.ptr 2 0)=some v:=by simp[loadV,m2,cellsAt,a33,s33]
 by_cases hlt:k<c.body.length
 ·have hlt':(k:Int)<c.body.length:=by omega
  have hix:indexAddrV C.P 33 (factsV c.body) (.int .i64 k)=some (.iptr (encFa c.body[k]) 0):=idx33 c.body k hlt .unk
  have l35:=ld35i c.body[k]
  have w2:IntKind.i64.wrap ((k:Int)+1)=((k+1:Nat):Int):=by rw[wrap_in (by omega)];omega
  have ck:=call121 l c.body[k] hs hl (hv _ (by simp[factsOf]))
  obtain ⟨v',h',ha,hst,hw,hoth,hself⟩:=field33 (i:=2) (o:=0) (putFa l c.body[k]) go m2 (by simp) (by simp;omega)
  have etk:(c.body.take k).map (putFa l)++[putFa l c.body[k]]=(c.body.take (k+1)).map (putFa l):=by
   rw[←List.take_append_getElem hlt,List.map_append];rfl
  rw[etk] at hw
  have hn2:=own_not go m2
  have hn0:=own_not go m0
  have nt:=show notTuple (encFa (putFa l c.body[k]))=true from rfl
  simp[go_sem,g3,g6,lb,hln,hlt',-Int.natCast_add]
  refine W_regionS 5 _ (by simp[mixC]) rfl ?_
  simp[go_sem,g0,g3,g5,g6,lb,l0,hix,l35,ck,build33_1,ha,hst,nt,-Int.natCast_add,w2]
  refine ⟨?_,c.body.length-(k+1),by omega,k+1,v',rfl,hlt,hoth 0 _ _ (by omega) m0,hoth 1 _ _ (by omega) m1,hself,by simp[go_sem,g0],by simp[go_sem,g3],by simp[go_sem,g4],by simp[go_sem,g5],by simp[go_sem],hw⟩
  rcases go with rfl | ⟨id,rfl,hd⟩
  ·simp[go_sem,idsOk,ldIds,apIds,ldId,appId,mslId]
  ·simp only[idOf,ne_eq,Option.some.injEq] at hn2 hn0
   simp[go_sem,idsOk,ldIds,apIds,ldId,appId,mslId]
   (try omega)
 ·have:k=c.body.length:=by omega
  subst this
  rw[List.take_length] at go
  obtain ⟨x,rfl⟩:=go.isl
  have e5:loadV C.P h 37 (.ptr 2 0)=some (.agg (.isl ((putCl l c).body.map encFa) x::faC (putCl l c).head)):=by simp[loadV,m2,cellsAt,a37,s37,putCl,faC]
  have e6:=st37zc (putCl l c) x m1
  have e7:=(List.getElem?_eq_some_iff.1 m1).1
  generalize hzz:AV.agg (.isl ((putCl l c).body.map encFa) x::faC (putCl l c).head)=zz at e5 e6
  simp[go_sem,g3,g4,g5,g6,lb,hln,e5,e6]
  refine hR _ _ _ (.inr rfl) ⟨zz,?_,?_⟩
  ·simp[resultV,resV,Tryz.f71,go_sem,g4,loadV,List.getElem?_set_self e7,cellsAt,a37,s37,←hzz,faC]
  ·rw[←hzz];exact snap_dat rfl rfl
theorem call71 (l:List (T × T)) (c:Cl) (hs:small l) (hl:l.length<4000000) (hv:∀f∈factsOf c,smallT f.terms) (hb:c.body.length≤10000) (h:H):callV C h (.func 71 []) (some [binds l,encCl c])=some (encCl (putCl l c),h):=callV_strip (by kernel_rfl) rfl (args':=[binds l,encCl c]) rfl (by simp[short_binds];rfl) (by simp) (apply71 l c hs hl hv hb)
end Go.VZ

/- Whether an inference of a tree is right: what is asked; the program's way walked. -/
namespace Go.VZ
open Go Go.V Go.Proofs TL
attribute [go_sem] fa49_0 fa49_1 fa49_2 fa49_3
def okC (c:Cl):Prop:=c.body.length≤12∧sizes (termsOf c)≤10000∧∀f∈factsOf c,f.terms≠[]∧f.terms.length≤8∧∀t∈f.terms,t.size≤400
theorem st37y (c:Cl) (h:H):storeV C.P (h++[.cells z37c .live]) 37 (.ptr h.length 0) (encCl c)=some (h++[.cells (clC c) .live]):=by
 simp[storeV,s37,z37c,encCl,clC,faC]
theorem varsRs_small {l:List T}{n:Nat}(h:∀x∈l,x.size<n):∀y∈varsRs l,y.size<n:=fun y hy=>by
 rw[varsRs,mem_setS,List.mem_flatMap] at hy
 obtain ⟨x,hx,hy⟩:=hy
 exact varsR_small (h x hx) y hy
theorem varsRs_len (l:List T):(varsRs l).length≤sizes l:=Nat.le_trans (setS_len _) (varsR_flat_len l)
theorem terms_facts (c:Cl) (t:T):t∈allTerms (factsOf c)↔t∈termsOf c:=by
 simp only[allTerms,factsOf,termsOf,List.mem_flatMap,List.mem_append,List.mem_singleton]
 constructor
 ·rintro ⟨f,hf | rfl,ht⟩
  ·exact .inr ⟨f,hf,ht⟩
  ·exact .inl ht
 ·rintro (ht | ⟨f,hf,ht⟩)
  ·exact ⟨c.head,.inr rfl,ht⟩
  ·exact ⟨f,.inl hf,ht⟩
theorem sizes_append:∀(l m:List T),sizes (l++m)=sizes l+sizes m
 | [],m=>by simp[sizes]
 | a::l,m=>by rw[List.cons_append,sizes,sizes,sizes_append l m];omega
theorem sizes_facts (c:Cl):sizes (allTerms (factsOf c))=sizes (termsOf c):=by
 have e:allTerms (factsOf c)=allTerms c.body++c.head.terms:=by simp[allTerms,factsOf]
 rw[e,termsOf,sizes_append,sizes_append];omega
theorem okC.call49 {c:Cl}(hc:okC c) (h:H):callV C h (.func 49 []) (some [factsV (factsOf c)])=some (terms (varsRs (termsOf c)),h):=by
 rw[←vars_same (factsOf c) (termsOf c) (terms_facts c)]
 obtain ⟨h1,h2,h3⟩:=hc
 refine Go.VZ.call49 (factsOf c) (fun t ht=>?_) (by rw[sizes_facts];exact h2) (by simp[factsOf];omega) ?_ h
 ·obtain ⟨f,hf,ht⟩:=List.mem_flatMap.1 ht
  have:=(h3 f hf).2.2 t ht
  omega
 ·have h4:=(h3 c.head (by simp[factsOf])).1
  intro e
  apply h4
  have e2:allTerms (factsOf c)=allTerms c.body++c.head.terms:=by simp[allTerms,factsOf]
  rw[e2] at e
  exact (List.append_eq_nil_iff.1 e).2
theorem okC.small {c:Cl}(hc:okC c):∀t∈termsOf c,t.size≤400:=fun t ht=>by
 obtain ⟨f,hf,ht⟩:=List.mem_flatMap.1 ((terms_facts c t).2 ht)
 exact (hc.2.2 f hf).2.2 t ht
theorem okC.smallT {c:Cl}(hc:okC c):∀f∈factsOf c,Go.VZ.smallT f.terms:=fun f hf=>by
 obtain ⟨_,h2,h3⟩:=hc.2.2 f hf
 exact ⟨by omega,fun t ht=>by have:=h3 t ht;omega⟩
end Go.VZ

/- Whether an inference of a tree is right: the reference's way walked. -/
namespace Go.VZ
open Go Go.V Go.Proofs TL
theorem st37w {h:H}{i:Nat}(c c':Cl) (hi:h[i]?=some (.cells (clC c) .live)):storeV C.P h 37 (.ptr i 0) (encCl c')=some (h.set i (.cells (clC c') .live)):=by
 simp[storeV,hi,s37,encCl,clC,faC]
end Go.VZ

/- Whether a tree is right: both ways walked. -/
namespace Go.VZ
open Go Go.V Go.Proofs TL
theorem size_mem:∀ {l:List T}{t:T},t∈l→t.size≤sizes l
 | a::l,t,h=>by
  rw[sizes]
  rcases List.mem_cons.1 h with rfl | h
  ·omega
  ·have:=size_mem h;omega
theorem few_size {c:Cl}{n:Int}(h:fewCl c n=true) (hn:0≤n):c.body.length≤14∧(∀f∈factsOf c,f.terms.length≤12)∧(sizes (termsOf c):Int)≤n:=by
 unfold fewCl at h
 split at h
 ·cases h
 ·split at h
  ·cases h
  ·rename_i h1 h2
   simp only[fewT,Bool.and_eq_true,decide_eq_true_eq] at h
   have:=(budgets_law (termsOf c) n (by omega)).2 h.2
   exact ⟨by omega,shortF_len (by simpa using h2),by omega⟩
theorem few_fact {c:Cl}{n:Int}(h:fewCl c n=true) (hn:0≤n) (hm:n<4000000):∀f∈factsOf c,smallT f.terms:=fun f hf=>by
 obtain ⟨_,h2,h3⟩:=few_size h hn
 refine ⟨by have:=h2 f hf;omega,fun t ht=>?_⟩
 have:t∈allTerms (factsOf c):=List.mem_flatMap.2 ⟨f,hf,ht⟩
 have:=size_mem ((terms_facts c t).1 this)
 omega
theorem few_okF {c:Cl}{n:Int}(h:fewCl c n=true) (hn:0≤n) (hm:n<4000000):okF (factsOf c):=fun f hf=>⟨(few_fact h hn hm f hf).2,(few_fact h hn hm f hf).1⟩
theorem validsE_zero:∀ {l:List T},validsE l=0→∀t∈l,validE t=0
 | [],_,t,ht=>by simp at ht
 | a::l,h,t,ht=>by
  rw[validsE] at h
  by_cases e:validE a=0
  ·rw[if_neg (by simpa using e)] at h
   rcases List.mem_cons.1 ht with rfl | ht
   ·exact e
   ·exact validsE_zero h t ht
  ·rw[if_pos e] at h;exact absurd h e
theorem factsE_zero:∀ {l:List Fa},factsE l=0→∀f∈l,factE f=0
 | [],_,t,ht=>by simp at ht
 | a::l,h,t,ht=>by
  rw[factsE] at h
  by_cases e:factE a=0
  ·rw[if_neg (by simpa using e)] at h
   rcases List.mem_cons.1 ht with rfl | ht
   ·exact e
   ·exact factsE_zero h t ht
  ·rw[if_pos e] at h;exact absurd h e
theorem factE_zero {f:Fa}(h:factE f=0):f.terms≠[]∧f.terms.length≤8∧∀t∈f.terms,validE t=0:=by
 unfold factE at h
 split at h
 ·cases h
 ·split at h
  ·cases h
  ·split at h
   ·cases h
   ·split at h
    ·cases h
    ·rename_i h1 h2
     exact ⟨fun e=>h1 (by rw[e];rfl),by omega,validsE_zero h⟩
theorem clause_facts {c:Cl}(h:clauseE c=0):c.body.length≤12∧∀f∈factsOf c,factE f=0:=by
 unfold clauseE at h
 split at h
 ·cases h
 ·exact ⟨by omega,factsE_zero h⟩
theorem okC_of {c:Cl}(h:clauseE c=0) (hf:fewCl c 60=true):okC c:=by
 obtain ⟨h1,h2⟩:=clause_facts h
 obtain ⟨_,_,h3⟩:=few_size hf (by omega)
 refine ⟨h1,by omega,fun f hm=>?_⟩
 obtain ⟨a,b,d⟩:=factE_zero (h2 f hm)
 exact ⟨a,b,fun t ht=>(nodes_zero (d t ht)).2.1⟩
theorem call7 (h:H):callV C h (.func 7 []) (some [])=some (.bool true,h):=by
 have hp:C.prim 7 [] []=some (.bool true,[]):=by kernel_rfl
 have hq:Go.V.Call C 7 [] []=some (.bool true,[]):=Call_prim (C:=C) (fn:=Tryz.f7) Tryz.func7 hp
 have e:CallP C 7 []=some (.bool true):=by
  unfold CallP
  rw[hq];rfl
 exact callV_strip (by kernel_rfl) rfl (args':=[]) rfl rfl (by simp) e
end Go.VZ

/- Facts, clauses and inferences that came in. -/
namespace Go.VZ
open Go Go.V Go.Proofs TL
theorem c33:Tryz.prog.cellsOf 33=1:=by kernel_rfl
theorem c35:Tryz.prog.cellsOf 35=3:=by kernel_rfl
theorem c37:Tryz.prog.cellsOf 37=4:=by kernel_rfl
section
variable {H:Type}{ec:TypeId × Value→H}{w:World}
theorem len3 {α:Type}{l:List α}(h:l.length=3):∃a b c,l=[a,b,c]:=by
 match l,h with
 | [a,b,c],_=>exact ⟨a,b,c,rfl⟩
theorem fa_one (f:Fa):∀c∈faC f,c.one=true:=fun c hc=>by
 simp only[faC,List.mem_cons,List.not_mem_nil,or_false] at hc
 rcases hc with rfl | rfl | rfl<;>rfl
theorem dec_fact {fuel:Nat}{cs:List Value}{y:DataW H × List MemPlace}(hcs:cs.length=3) (h:TR ec w fuel 35 cs=some y):∃f:Fa,(f.terms.map T.size).sum≤uBulk y.1∧f.terms.length≤uBulk y.1∧∀(j:Nat) c u,(faC f)[j]?=some c→cs[j]?=some u→IRel (fun _ _=>True) w c u:=by
 obtain ⟨xs,n,rfl,rfl,hl,hx,hf⟩:=DataW.trod_struct Tryz.underlying35 h
 have f0:TR ec w n 3 ((cs.drop 0).take (Tryz.prog.cellsOf 3))=xs[0]?:=hf 0 _ rfl
 have f1:TR ec w n 3 ((cs.drop 1).take (Tryz.prog.cellsOf 3))=xs[1]?:=hf 1 _ rfl
 have f2:TR ec w n 23 ((cs.drop 2).take (Tryz.prog.cellsOf 23))=xs[2]?:=hf 2 _ rfl
 obtain ⟨v0,v1,v2,rfl⟩:=len3 hcs
 obtain ⟨x0,x1,x2,rfl⟩:=len3 (l:=xs) hx
 simp only[c3,c23,List.drop_zero,List.drop_succ_cons,List.take_succ_cons,List.take_zero,List.getElem?_cons_zero,List.getElem?_cons_succ] at f0 f1 f2
 obtain ⟨k0,e0,rfl,_⟩:=DataW.trod_int Tryz.underlying3 f0
 obtain ⟨k1,e1,rfl,_⟩:=DataW.trod_int Tryz.underlying3 f1
 simp only[List.cons.injEq,and_true] at e0 e1
 subst e0;subst e1
 obtain ⟨l,hr,hll,hls⟩:=dec_terms f2
 refine ⟨⟨k0,k1,l⟩,?_,?_,fun j c u hc hu=>?_⟩
 ·simp only[List.map_cons,List.map_nil,uBulk,YtdoegkegjaadeaaGreatDoor.Rows.uptoBulk,YtdoegkegjaadeaaGreatDoor.Rows.uptoBulkAll] at hls ⊢
  omega
 ·simp only[List.map_cons,List.map_nil,uBulk,YtdoegkegjaadeaaGreatDoor.Rows.uptoBulk,YtdoegkegjaadeaaGreatDoor.Rows.uptoBulkAll] at hll ⊢
  omega
 ·match j,hc,hu with
  | 0,hc,hu=>simp[faC] at hc hu;subst hc;subst hu;exact .int _ _
  | 1,hc,hu=>simp[faC] at hc hu;subst hc;subst hu;exact .int _ _
  | 2,hc,hu=>simp[faC] at hc hu;subst hc;subst hu;exact hr
  | j+3,hc,hu=>simp[faC] at hc
theorem dec_facts {n:Nat}{v:Value}{x:DataW H × List MemPlace}(h:TR ec w n 33 [v]=some x):∃l:List Fa,IRel (fun _ _=>True) w (factsV l) v:=by
 obtain ⟨l,hr,_,_⟩:=dec_slice (toV:=encFa) (sz:=fun _=>0) Tryz.underlying33 c35 (by omega) (fun f=>⟨rfl,rfl,fa_one f⟩) (fun m _ cs y h1 h2=>by
  obtain ⟨f,_,_,hf⟩:=dec_fact h1 h2
  exact ⟨f,Nat.zero_le _,hf⟩) h
 exact ⟨l,hr⟩
theorem dec_clause {fuel:Nat}{cs:List Value}{y:DataW H × List MemPlace}(hcs:cs.length=4) (h:TR ec w fuel 37 cs=some y):∃c:Cl,∀(j:Nat) a u,(clC c)[j]?=some a→cs[j]?=some u→IRel (fun _ _=>True) w a u:=by
 obtain ⟨xs,n,rfl,rfl,hl,hx,hf⟩:=DataW.trod_struct Tryz.underlying37 h
 have f0:TR ec w n 33 ((cs.drop 0).take (Tryz.prog.cellsOf 33))=xs[0]?:=hf 0 _ rfl
 have f1:TR ec w n 35 ((cs.drop 1).take (Tryz.prog.cellsOf 35))=xs[1]?:=hf 1 _ rfl
 obtain ⟨v0,v1,v2,v3,rfl⟩:=len4 hcs
 obtain ⟨x0,x1,rfl⟩:∃a b,xs=[a,b]:=by
  match xs,hx with
  | [a,b],_=>exact ⟨a,b,rfl⟩
 simp only[c33,c35,List.drop_zero,List.drop_succ_cons,List.take_succ_cons,List.take_zero,List.getElem?_cons_zero,List.getElem?_cons_succ] at f0 f1
 obtain ⟨b,hb⟩:=dec_facts f0
 obtain ⟨g,_,_,hg⟩:=dec_fact rfl f1
 refine ⟨⟨b,g⟩,fun j a u ha hu=>?_⟩
 match j,ha,hu with
 | 0,ha,hu=>simp[clC] at ha hu;subst ha;subst hu;exact hb
 | j+1,ha,hu=>exact hg j a u ha hu
theorem dec_clauses {n:Nat}{v:Value}{x:DataW H × List MemPlace}(h:TR ec w n 22 [v]=some x):∃l:List Cl,IRel (fun _ _=>True) w (clsV l) v:=by
 obtain ⟨l,hr,_,_⟩:=dec_slice (toV:=encCl) (sz:=fun _=>0) Tryz.underlying22 c37 (by omega) (fun c=>⟨rfl,rfl,fun a ha=>by
  rcases List.mem_cons.1 (show a∈factsV c.body::faC c.head from ha) with rfl | ha
  ·rfl
  ·exact fa_one c.head a ha⟩) (fun m _ cs y h1 h2=>by
  obtain ⟨c,hc⟩:=dec_clause h1 h2
  exact ⟨c,Nat.zero_le _,hc⟩) h
 exact ⟨l,hr⟩
end
end Go.VZ

/- What is laid of term.words, as the value machine has it. -/
namespace Go.VZ
open Go Go.V Go.Proofs TL
theorem isl_rel {w:World}{α:Type}{toV:α→AV}{k:Nat}(h0:0<k) (hl:∀a:α,(toV a).cells.length=k∧notTuple (toV a)=true∧∀c∈(toV a).cells,c.one=true){l:List α}{a:Addr}{cap:Nat}(hlc:l.length≤cap) (hcm:cap≤maxLen) (hne:0<l.length)
  (hlp:∀(i:Nat) a',l[i]?=some a'→∃cs,w.cells? 0 (a.add (i*k)) k=some cs∧∀(j:Nat) c u,(toV a').cells[j]?=some c→cs[j]?=some u→IRel (fun _ _=>True) w c u):IRel (fun _ _=>True) w (.isl (l.map toV) .unk) (.slice (some a) l.length cap):=by
 obtain ⟨b,o,z⟩:=a
 have hz':z=none:=by
  obtain ⟨cs,h1,_⟩:=hlp 0 (l[0]'(by omega)) (List.getElem?_eq_getElem (by omega))
  obtain ⟨h2,h3⟩:=cells_of h1
  have:=h3 0 (cs[0]'(by omega)) (List.getElem?_eq_getElem (by omega))
  exact addr_zero (by simpa using this)
 subst hz'
 have key:∀(i j:Nat) e' c,(l.map toV)[i]?=some e'→e'.cells[j]?=some c→∃u,w.cell? ⟨b,o+i*k+j,none⟩=some u∧IRel (fun _ _=>True) w c u:=fun i j e' c he hc=>by
  rw[List.getElem?_map] at he
  obtain ⟨a',ha,rfl⟩:=Option.map_eq_some_iff.1 he
  obtain ⟨cs,h1,h4⟩:=hlp i a' ha
  obtain ⟨h2,h3⟩:=cells_of h1
  have hj:j<cs.length:=by have:=(List.getElem?_eq_some_iff.1 hc).1;rw[(hl a').1] at this;omega
  have:=h3 j cs[j] (List.getElem?_eq_getElem hj)
  exact ⟨cs[j],addr_cell this,h4 j c _ hc (List.getElem?_eq_getElem hj)⟩
 have:=IRel.isl (A:=fun _ _=>True) (w:=w) (es:=l.map toV) (sz:=k) (b:=b) (o:=o) (cap:=cap) (fun i j=>(w.cell? ⟨b,o+i*k+j,none⟩).getD .nilIface) h0 (by simp;omega) hcm
  (fun e' he=>by
   obtain ⟨a',_,rfl⟩:=List.mem_map.1 he
   exact ⟨(hl a').1,(hl a').2.1⟩)
  (fun e' he c hc=>by
   obtain ⟨a',_,rfl⟩:=List.mem_map.1 he
   exact (hl a').2.2 c hc)
  (fun i j e' c he hc=>by
   obtain ⟨u,h1,_⟩:=key i j e' c he hc
   exact ⟨trivial,by rw[h1];rfl⟩)
  (fun i j e' c he hc=>by
   obtain ⟨u,h1,h2⟩:=key i j e' c he hc
   rw[h1];exact h2)
 rw[List.length_map] at this
 exact this
def wordsB:List ByteArray:=[⟨#[97,110,121]⟩,⟨#[97,103,101,110,116]⟩,⟨#[110,111,110,99,101]⟩,⟨#[107,101,121]⟩,⟨#[100,97,116,97]⟩,⟨#[116,97,103]⟩]
theorem u368:Tryz.prog.underlying 368=some (.array 20 224):=by kernel_rfl
theorem u224:Tryz.prog.underlying 224=some (.int .u64):=by kernel_rfl
theorem c224:Tryz.prog.cellsOf 224=1:=by kernel_rfl
theorem c368:Tryz.prog.cellsOf 368=20:=by kernel_rfl
def powsD {H:Type}:List (DataW H):=(List.range 20).map fun i=>.lit (.int .u64 ((10 ^ i:Nat):Int))
theorem pows_laid {H:Type}:YtdoegkegjaadeaaGreatDoor.Rows.laid_internal_strconv_uint64pow10 (H:=H)=.agg powsD:=by kernel_rfl
theorem pows_cells {H:Type}{enc:TypeId × Value→H}{w:World}{base:Nat}{sp:Nat→Bool}{held:Bool}{fuel:Nat}{cs:List Value}{p:List MemPlace}(hr:DataW.trod enc Tryz.prog w base sp held fuel 368 cs=some (YtdoegkegjaadeaaGreatDoor.Rows.laid_internal_strconv_uint64pow10,p)):cs.length=20∧∀i,i<20→cs[i]?=some (.int .u64 ((10 ^ i:Nat):Int)):=by
 obtain ⟨xs,m,_,hx,hlen,hxl,hxs⟩:=DataW.trod_array u368 hr
 rw[c368] at hlen
 refine ⟨hlen,fun i hi=>?_⟩
 have h1:=hxs i hi
 rw[c224,Nat.mul_one] at h1
 have h2:xs[i]?=some (xs[i]'(by omega)):=List.getElem?_eq_getElem (by omega)
 rw[h2] at h1
 obtain ⟨n,e,e',_⟩:=DataW.trod_int u224 h1
 rw[pows_laid] at hx
 have hd:powsD=xs.map (·.1):=by
  have:=congrArg Prod.fst hx
  simpa using this
 have h5:=congrArg (·[i]?) hd
 simp only[powsD,List.getElem?_map,List.getElem?_range hi,h2,Option.map_some,Option.some.injEq,e'] at h5
 simp only[DataW.lit.injEq,Lit.int.injEq,true_and] at h5
 have h6:=congrArg (·[0]?) e
 simp only[List.getElem?_take_of_lt (show 0<1 by decide),List.getElem?_drop,Nat.add_zero,List.getElem?_cons_zero] at h6
 rw[h6,←h5]
theorem glob_tabs {w:World}(h:laidMetH Tryz.prog YtdoegkegjaadeaaGreatDoor.Rows.querySecretRow.laid w):GlobR (fun _ _=>True) w:=by
 rw[MakeChecks.laidMetH_plain _ _ _ (by kernel_rfl)] at h
 obtain ⟨ps,h,_,_⟩:=h
 obtain ⟨_,_,_,_,_,_,_,_,_,_,h,_⟩:=h
 obtain ⟨_,_,_,_,_,_,_,_,_,_,h,_⟩:=h
 obtain ⟨g,t,cs2,fuel,p,q,hg,ht,hv,hr,h,_⟩:=h
 have e1:Tryz.prog.globalNamed "internal/strconv.uint64pow10" = some 2:=by kernel_rfl
 have e2:(Tryz.prog.globals[2]?).map (·.type)=some 368:=by kernel_rfl
 have eg:g=2:=Option.some.inj (hg.symm.trans e1)
 subst eg
 have et:t=368:=Option.some.inj (ht.symm.trans e2)
 subst et
 have hcell2:∃c0 c1,w.heap[2]?=some (.cells cs2 c0 c1):=by
  unfold World.var? at hv
  rw[show Tryz.prog.globalNamed _=some 2 from e1] at hv
  simp only[Option.bind_some] at hv
  split at hv
  ·rename_i c0 c1 hh
   simp only[Option.some.injEq] at hv
   subst hv
   exact ⟨_,_,hh⟩
  ·cases hv
 obtain ⟨hlen2,hcs2⟩:=pows_cells hr
 clear hr hv ht hg e1 e2
 obtain ⟨g,t,cs,fuel,p,q,hg,ht,hv,hr,_,_⟩:=h
 have e1:Tryz.prog.globalNamed "sealring/term.words" = some 1:=by kernel_rfl
 have e2:(Tryz.prog.globals[1]?).map (·.type)=some 52:=by kernel_rfl
 have eg:g=1:=Option.some.inj (hg.symm.trans e1)
 subst eg
 have et:t=52:=Option.some.inj (ht.symm.trans e2)
 subst et
 have hcell:∃c0 c1,w.heap[1]?=some (.cells cs c0 c1):=by
  unfold World.var? at hv
  rw[show Tryz.prog.globalNamed _=some 1 from e1] at hv
  simp only[Option.bind_some] at hv
  split at hv
  ·rename_i c0 c1 hh
   simp only[Option.some.injEq] at hv
   subst hv
   exact ⟨_,_,hh⟩
  ·cases hv
 obtain ⟨c0,c1,hcell⟩:=hcell
 rcases DataW.trod_slice Tryz.underlying52 hr with ⟨_,hx⟩ | ⟨a,len,cap,elems,rest,n,rfl,hcs,hx,_,hlc,hcm,hel,hes,_,_⟩
 ·cases hx
 ·simp only[Prod.mk.injEq] at hx
  have hd:elems.map (·.1)=wordsB.map fun b=>DataW.lit (.string b.data.toList):=by
   have:=hx.1
   simp only[YtdoegkegjaadeaaGreatDoor.Rows.laid_sealring_term_words,DataW.slice.injEq] at this
   exact this.1.symm
  have hlen:wordsB.length=len:=by
   have:=congrArg List.length hd
   simp only[List.length_map] at this
   omega
  have hrel:IRel (fun _ _=>True) w (.isl (wordsB.map AV.str) .unk) (.slice (some a) len cap):=by
   rw[←hlen]
   refine isl_rel (k:=1) (by omega) (fun a=>⟨rfl,rfl,fun c hc=>by simp[AV.cells] at hc;subst hc;rfl⟩) (by omega) hcm (by decide) fun i b hb=>?_
   have hi:i<len:=by have:=(List.getElem?_eq_some_iff.1 hb).1;omega
   have h1:=hes i hi
   have h2:elems[i]?=some (elems[i]'(by omega)):=List.getElem?_eq_getElem (by omega)
   rw[h2,c9] at h1
   obtain ⟨cs',h3,h4⟩:=Option.bind_eq_some_iff.1 h1
   refine ⟨cs',h3,fun j c u hc hu=>?_⟩
   obtain ⟨s,e,e',_⟩:=DataW.trod_string Tryz.underlying9 h4
   have h5:=congrArg (·[i]?) hd
   simp only[List.getElem?_map,h2,hb,Option.map_some,Option.some.injEq,e'] at h5
   have hs:s.data.toList=b.data.toList:=by
    simpa using h5
   have:s=b:=name_inj.1 hs
   subst this
   subst e
   match j,hc,hu with
   | 0,hc,hu=>simp[AV.cells] at hc hu;subst hc;subst hu;exact .str _
   | j+1,hc,hu=>simp[AV.cells] at hc
  obtain ⟨d0,d1,hcell2⟩:=hcell2
  refine ⟨fun g' a' hg'=>?_,fun g' n' hg'=>?_⟩
  rotate_left
  ·unfold globSize at hg'
   split at hg'
   ·rename_i e;subst e
    simp only[Option.some.injEq] at hg'
    subst hg'
    exact ⟨_,_,_,hcell2,by simpa using hlen2⟩
   ·cases hg'
  unfold globData at hg'
  split at hg'
  ·rename_i e;subst e
   simp only[Option.some.injEq] at hg'
   subst hg'
   have hc1:w.cell? ⟨1,0,none⟩=some (.slice (some a) len cap):=by
    have:cs = #[.slice (some a) len cap]:=by apply Array.ext';simpa using hcs
    simp[World.cell?,hcell,this]
   refine IRel.iptr (off:=0) (b:=1) (o:=0) (fun _=>.slice (some a) len cap) ?_ ?_ ?_
   ·intro c hc;simp[AV.cells] at hc;subst hc;rfl
   ·intro j c hc
    match j,hc with
    | 0,_=>exact ⟨trivial,hc1⟩
    | j+1,hc=>simp[AV.cells] at hc
   ·intro j c hc
    match j,hc with
    | 0,hc=>simp[AV.cells] at hc;subst hc;exact hrel
    | j+1,hc=>simp[AV.cells] at hc
  ·split at hg'
   ·rename_i e;subst e
    simp only[Option.some.injEq] at hg'
    subst hg'
    refine IRel.iptr (off:=0) (b:=2) (o:=0) (fun j=>.int .u64 ((10 ^ j:Nat):Int)) ?_ ?_ ?_
    ·intro c hc
     simp only[AV.cells,List.mem_map] at hc
     obtain ⟨i,_,rfl⟩:=hc
     rfl
    ·intro j c hc
     have hj:j<20:=by have:=(List.getElem?_eq_some_iff.1 hc).1;simpa [AV.cells] using this
     refine ⟨trivial,?_⟩
     have:=hcs2 j hj
     simp only[World.cell?,hcell2,Nat.zero_add]
     simpa using this
    ·intro j c hc
     have hj:j<20:=by have:=(List.getElem?_eq_some_iff.1 hc).1;simpa [AV.cells] using this
     simp only[AV.cells,List.getElem?_map,List.getElem?_range hj,Option.map_some,Option.some.injEq] at hc
     subst hc
     exact .int _ _
   ·cases hg'
end Go.VZ

/- From the value machine to the model, at this seat: what is asked of the program; the copies of empty slices. -/
namespace Go.VZ
open Go Go.V Go.Proofs Go.RowKit
def namesOk (P:Program):Bool:=P.funcs.all fun fn=>!(fn.name == "runtime.NumGoroutine")
theorem good:Go.V.Good C.P where
 names:=fun f fn hf=>by
  have h:namesOk Tryz.prog=true:=by kernel_rfl
  have:=Array.all_eq_true_iff_forall_mem.1 h fn (Array.mem_of_getElem? hf)
  simpa using this
 mixed:=by kernel_rfl
theorem run_equalIn_nil_nil (t e d:Nat) (w:World) (hu:Tryz.prog.underlying t=some (.slice e)):(Op.equalIn (d+1) t (.slice none 0 0) (.slice none 0 0)).run Tryz.prog w=.ok true w:=by
 simp only[Op.equalIn,Sem.run_bind,run_under hu,Result.andThen_ok];rfl
theorem eq_nilT (t e:Nat) (w:World) (hu:Tryz.prog.underlying t=some (.slice e)):(binOp .eql t (.slice none 0 0) (.slice none 0 0)).run Tryz.prog w=.ok (.bool true) w:=by
 have:Op.equal t (.slice none 0 0) (.slice none 0 0)=Op.equalIn (9999+1) t (.slice none 0 0) (.slice none 0 0):=rfl
 simp only[binOp,this,Sem.run_bind,Sem.run_pure,Result.andThen_ok,run_equalIn_nil_nil t e 9999 w hu]
theorem eq_nonT (t e:Nat) (w:World) (a:Addr) (c:Nat) (hu:Tryz.prog.underlying t=some (.slice e)):(binOp .eql t (.slice (some a) 0 c) (.slice none 0 0)).run Tryz.prog w=.ok (.bool false) w:=by
 have:Op.equal t (.slice (some a) 0 c) (.slice none 0 0)=Op.equalIn (9999+1) t (.slice (some a) 0 c) (.slice none 0 0):=rfl
 simp only[binOp,this,Sem.run_bind,Sem.run_pure,Result.andThen_ok,run_equalIn_slice_nil 9999 a 0 c hu]
def Clones (f:FuncId):Prop:=(∀w,Calls Tryz.prog f #[.slice none 0 0] w fun e w'=>e=.returned (.slice none 0 0)∧Grows w w') ∧
 ∀(a:Addr) (c:Nat) (w:World),Calls Tryz.prog f #[.slice (some a) 0 c] w fun e w'=>(∃b,e=.returned (.slice (some b) 0 0))∧Grows w w'
section
@[local go_sem] theorem eq_nil11 (w:World):(binOp .eql 22 (.slice none 0 0) (.slice none 0 0)).run Tryz.prog w=.ok (.bool true) w:=eq_nilT _ _ w Tryz.underlying22
@[local go_sem] theorem eq_non11 (w:World) (a:Addr) (c:Nat):(binOp .eql 22 (.slice (some a) 0 c) (.slice none 0 0)).run Tryz.prog w=.ok (.bool false) w:=eq_nonT _ _ w a c Tryz.underlying22
theorem clones11:Clones 11:=by
 constructor
 ·intro w
  go_enter Tryz.func11,Tryz.ntmps11
  go_wp2
  go_ret
  exact ⟨rfl,.refl _⟩
 ·intro a c w
  go_enter Tryz.func11,Tryz.ntmps11
  go_wp2
  go_ret
  exact ⟨⟨_,rfl⟩,.alloc _ _⟩
end
section
@[local go_sem] theorem eq_nil18 (w:World):(binOp .eql 42 (.slice none 0 0) (.slice none 0 0)).run Tryz.prog w=.ok (.bool true) w:=eq_nilT _ _ w Tryz.underlying42
@[local go_sem] theorem eq_non18 (w:World) (a:Addr) (c:Nat):(binOp .eql 42 (.slice (some a) 0 c) (.slice none 0 0)).run Tryz.prog w=.ok (.bool false) w:=eq_nonT _ _ w a c Tryz.underlying42
theorem clones18:Clones 18:=by
 constructor
 ·intro w
  go_enter Tryz.func18,Tryz.ntmps18
  go_wp2
  go_ret
  exact ⟨rfl,.refl _⟩
 ·intro a c w
  go_enter Tryz.func18,Tryz.ntmps18
  go_wp2
  go_ret
  exact ⟨⟨_,rfl⟩,.alloc _ _⟩
end
section
@[local go_sem] theorem eq_nil23 (w:World):(binOp .eql 47 (.slice none 0 0) (.slice none 0 0)).run Tryz.prog w=.ok (.bool true) w:=eq_nilT _ _ w Tryz.underlying47
@[local go_sem] theorem eq_non23 (w:World) (a:Addr) (c:Nat):(binOp .eql 47 (.slice (some a) 0 c) (.slice none 0 0)).run Tryz.prog w=.ok (.bool false) w:=eq_nonT _ _ w a c Tryz.underlying47
theorem clones23:Clones 23:=by
 constructor
 ·intro w
  go_enter Tryz.func23,Tryz.ntmps23
  go_wp2
  go_ret
  exact ⟨rfl,.refl _⟩
 ·intro a c w
  go_enter Tryz.func23,Tryz.ntmps23
  go_wp2
  go_ret
  exact ⟨⟨_,rfl⟩,.alloc _ _⟩
end
section
@[local go_sem] theorem eq_nil43 (w:World):(binOp .eql 50 (.slice none 0 0) (.slice none 0 0)).run Tryz.prog w=.ok (.bool true) w:=eq_nilT _ _ w Tryz.underlying50
@[local go_sem] theorem eq_non43 (w:World) (a:Addr) (c:Nat):(binOp .eql 50 (.slice (some a) 0 c) (.slice none 0 0)).run Tryz.prog w=.ok (.bool false) w:=eq_nonT _ _ w a c Tryz.underlying50
theorem clones43:Clones 43:=by
 constructor
 ·intro w
  go_enter Tryz.func43,Tryz.ntmps43
  go_wp2
  go_ret
  exact ⟨rfl,.refl _⟩
 ·intro a c w
  go_enter Tryz.func43,Tryz.ntmps43
  go_wp2
  go_ret
  exact ⟨⟨_,rfl⟩,.alloc _ _⟩
end
section
@[local go_sem] theorem eq_nil96 (w:World):(binOp .eql 33 (.slice none 0 0) (.slice none 0 0)).run Tryz.prog w=.ok (.bool true) w:=eq_nilT _ _ w Tryz.underlying33
@[local go_sem] theorem eq_non96 (w:World) (a:Addr) (c:Nat):(binOp .eql 33 (.slice (some a) 0 c) (.slice none 0 0)).run Tryz.prog w=.ok (.bool false) w:=eq_nonT _ _ w a c Tryz.underlying33
theorem clones96:Clones 96:=by
 constructor
 ·intro w
  go_enter Tryz.func96,Tryz.ntmps96
  go_wp2
  go_ret
  exact ⟨rfl,.refl _⟩
 ·intro a c w
  go_enter Tryz.func96,Tryz.ntmps96
  go_wp2
  go_ret
  exact ⟨⟨_,rfl⟩,.alloc _ _⟩
end
section
@[local go_sem] theorem eq_nil193 (w:World):(binOp .eql 23 (.slice none 0 0) (.slice none 0 0)).run Tryz.prog w=.ok (.bool true) w:=eq_nilT _ _ w Tryz.underlying23
@[local go_sem] theorem eq_non193 (w:World) (a:Addr) (c:Nat):(binOp .eql 23 (.slice (some a) 0 c) (.slice none 0 0)).run Tryz.prog w=.ok (.bool false) w:=eq_nonT _ _ w a c Tryz.underlying23
theorem clones193:Clones 193:=by
 constructor
 ·intro w
  go_enter Tryz.func193,Tryz.ntmps193
  go_wp2
  go_ret
  exact ⟨rfl,.refl _⟩
 ·intro a c w
  go_enter Tryz.func193,Tryz.ntmps193
  go_wp2
  go_ret
  exact ⟨⟨_,rfl⟩,.alloc _ _⟩
end
section
@[local go_sem] theorem eq_nil349 (w:World):(binOp .eql 248 (.slice none 0 0) (.slice none 0 0)).run Tryz.prog w=.ok (.bool true) w:=eq_nilT _ _ w Tryz.underlying248
@[local go_sem] theorem eq_non349 (w:World) (a:Addr) (c:Nat):(binOp .eql 248 (.slice (some a) 0 c) (.slice none 0 0)).run Tryz.prog w=.ok (.bool false) w:=eq_nonT _ _ w a c Tryz.underlying248
theorem clones349:Clones 349:=by
 constructor
 ·intro w
  go_enter Tryz.func349,Tryz.ntmps349
  go_wp2
  go_ret
  exact ⟨rfl,.refl _⟩
 ·intro a c w
  go_enter Tryz.func349,Tryz.ntmps349
  go_wp2
  go_ret
  exact ⟨⟨_,rfl⟩,.alloc _ _⟩
end
section
@[local go_sem] theorem eq_nil361 (w:World):(binOp .eql 314 (.slice none 0 0) (.slice none 0 0)).run Tryz.prog w=.ok (.bool true) w:=eq_nilT _ _ w Tryz.underlying314
@[local go_sem] theorem eq_non361 (w:World) (a:Addr) (c:Nat):(binOp .eql 314 (.slice (some a) 0 c) (.slice none 0 0)).run Tryz.prog w=.ok (.bool false) w:=eq_nonT _ _ w a c Tryz.underlying314
theorem clones361:Clones 361:=by
 constructor
 ·intro w
  go_enter Tryz.func361,Tryz.ntmps361
  go_wp2
  go_ret
  exact ⟨rfl,.refl _⟩
 ·intro a c w
  go_enter Tryz.func361,Tryz.ntmps361
  go_wp2
  go_ret
  exact ⟨⟨_,rfl⟩,.alloc _ _⟩
end
section
@[local go_sem] theorem eq_nil435 (w:World):(binOp .eql 359 (.slice none 0 0) (.slice none 0 0)).run Tryz.prog w=.ok (.bool true) w:=eq_nilT _ _ w Tryz.underlying359
@[local go_sem] theorem eq_non435 (w:World) (a:Addr) (c:Nat):(binOp .eql 359 (.slice (some a) 0 c) (.slice none 0 0)).run Tryz.prog w=.ok (.bool false) w:=eq_nonT _ _ w a c Tryz.underlying359
theorem clones435:Clones 435:=by
 constructor
 ·intro w
  go_enter Tryz.func435,Tryz.ntmps435
  go_wp2
  go_ret
  exact ⟨rfl,.refl _⟩
 ·intro a c w
  go_enter Tryz.func435,Tryz.ntmps435
  go_wp2
  go_ret
  exact ⟨⟨_,rfl⟩,.alloc _ _⟩
end
section
@[local go_sem] theorem eq_nil460 (w:World):(binOp .eql 402 (.slice none 0 0) (.slice none 0 0)).run Tryz.prog w=.ok (.bool true) w:=eq_nilT _ _ w Tryz.underlying402
@[local go_sem] theorem eq_non460 (w:World) (a:Addr) (c:Nat):(binOp .eql 402 (.slice (some a) 0 c) (.slice none 0 0)).run Tryz.prog w=.ok (.bool false) w:=eq_nonT _ _ w a c Tryz.underlying402
theorem clones460:Clones 460:=by
 constructor
 ·intro w
  go_enter Tryz.func460,Tryz.ntmps460
  go_wp2
  go_ret
  exact ⟨rfl,.refl _⟩
 ·intro a c w
  go_enter Tryz.func460,Tryz.ntmps460
  go_wp2
  go_ret
  exact ⟨⟨_,rfl⟩,.alloc _ _⟩
end
theorem clones (f:FuncId) (hf:cloneIds.contains f=true):Clones f:=by
 simp only[cloneIds,List.contains_cons,Bool.or_eq_true,beq_iff_eq,List.contains_nil,Bool.false_eq_true,or_false] at hf
 rcases hf with rfl | rfl | rfl | rfl | rfl | rfl | rfl | rfl | rfl | rfl
 ·exact clones11
 ·exact clones18
 ·exact clones23
 ·exact clones43
 ·exact clones96
 ·exact clones193
 ·exact clones349
 ·exact clones361
 ·exact clones435
 ·exact clones460
theorem primClone_ok (f:FuncId):PrimOk Tryz.prog f (primClone f):=by
 intro args h r h' hp B A0 σ w vs hr hl ha
 unfold primClone at hp
 split at hp<;>first | (cases hp;done) | skip
 rename_i hf
 obtain ⟨c1,c2⟩:=clones f hf
 split at hp<;>first | (cases hp;done) | skip
 rename_i x
 simp only[Option.some.injEq,Prod.mk.injEq] at hp
 obtain ⟨rfl,rfl⟩:=hp
 obtain ⟨v,rfl⟩:∃v,vs = #[v]:=by
  have:vs.size=1:=hl
  exact ⟨vs[0],by apply Array.ext<;>simp[this];intro i hi;subst hi;rfl⟩
 have hv:=rel_isl (ha 0 _ v rfl rfl)
 cases hv with
 | islNil=>exact (c1 w).mono fun e w' ⟨he,hg⟩=>⟨_,he,σ,hr.grows hg,.grows hr hg,.full .islNil⟩
 | islEmpty a c hm=>exact (c2 a c w).mono fun e w' ⟨⟨b,he⟩,hg⟩=>⟨_,he,σ,hr.grows hg,.grows hr hg,.full (.islEmpty b 0 (by simp[maxLen]))⟩
 | isl f hz hc hm h0 h1 h2 h3=>exact (c2 _ _ w).mono fun e w' ⟨⟨b,he⟩,hg⟩=>⟨_,he,σ,hr.grows hg,.grows hr hg,.full (.islEmpty b 0 (by simp[maxLen]))⟩
end Go.VZ

/- Closed runs: the ways of calling for them; the examples of the chapters. -/
namespace Go.VZ
open Go Go.V Go.Proofs Go.RowKit
def opens:List Nat:=[51,52,77,85,93,94,98,100,101,102,114,126,152,153,154,157,158,159,170,174,182,183,184,185,186,187,188,189,199,201,204,217,218,224,236,238,239,240,242,243,245,248,254,265,268,269,270,272,273,274,275,276,277,278,279,281,282,288,289,290,295,296,303,304,305,306,307,308,309,310,311,312,313,315,316,317,321,322,323,326,334,335,336,337,344,345,347,360,362,368,384,391,400,401,402,410,414,416,428,429,430,431,434,438,444,445,452,455,462,463,464,481,482,483,484,485,488]
def owns:List Nat:=[11,18,23,25,40,43,49,50,56,57,63,68,73,75,76,90,96,103,109,119,120,125,129,138,139,162,168,169,177,178,193,200,202,205,226,227,235,246,249,250,252,283,331,349,353,361,367,389,396,406,435,460,461,499]
def md2:FuncId→Go.V.Mode:=fun f=>if opens.contains f then .openH else if owns.contains f then .ownM else .strip
def wr2:FuncId→Tmp→Bool:=fun _ _=>true
noncomputable def C2:Cfg:={P:=Tryz.prog,mode:=md2,wr:=wr2,prim:=primClone,ext:=ext,extOk:=ext_ok,mix:=fun f i=>mixL.contains (f,i)}
theorem ok2 (m:Nat):Go.V.Ok Tryz.prog (callR C2 m):=callR_ok (C:=C2) good primClone_ok m
def isYes (x:Option (AV × H)):Bool:=match x with
 | some (.bool b,_)=>b
 | _=>false
theorem isYes_some {x:Option (AV × H)}(h:isYes x=true):∃h',x=some (.bool true,h'):=by
 unfold isYes at h
 split at h
 ·rename_i b h';subst h;exact ⟨h',rfl⟩
 ·cases h
theorem glob_of [DFlag] {P:Program}{B:Nat}{A0:Nat→Nat→Prop}{σ:List (Option Nat)}{h:H}{w:World}(hr:HRel P B A0 σ h w):GlobR (fun _ _=>True) w:=⟨fun g a hg=>(hr.glob g a hg).mono fun _b _o _x _ hc=>⟨trivial,hc⟩,fun g n hg=>(hr.tab g n hg).2⟩
theorem yes_calls {f:FuncId}{m:Nat}(hy:isYes (callR C2 m f [] [])=true) (hb:hasBody Tryz.prog f=true){w:World}(hg:GlobR (fun _ _=>True) w):Calls Tryz.prog f #[] w fun e w'=>e=.returned (.bool true)∧Grows w w':=by
 obtain ⟨h1,hx⟩:=isYes_some hy
 refine ((ok2 m).fn f [] [] _ h1 hb hx w.heap.size (fun _ _=>True) [] w #[] (.start hg) rfl (fun i a v ha=>by simp at ha)).mono ?_
 rintro e w' ⟨v,rfl,σ',k1,k2,k3⟩
 exact ⟨by rw[rel_bool k3],of_below k2.below k2.drawn⟩
theorem yes_prim {f:FuncId}{m:Nat}(hy:isYes (callR C2 m f [] [])=true) (hb:hasBody Tryz.prog f=true){args:List AV}{h h':H}{r:AV}(hp:(match args with | []=>some (AV.bool true,h) | _=>none)=some (r,h')) :
  ∀(B:Nat) (A0:Nat→Nat→Prop) (σ:List (Option Nat)) (w:World) (vs:Array Value),HRel Tryz.prog B A0 σ h w→vs.size=args.length →
   Calls Tryz.prog f vs w (fun e w'=>∃v,e=.returned v∧Go.V.Leaves Tryz.prog B A0 σ h w r h' v w'):=by
 intro B A0 σ w vs hr hl
 split at hp<;>first | (cases hp;done) | skip
 simp only[Option.some.injEq,Prod.mk.injEq] at hp
 obtain ⟨rfl,rfl⟩:=hp
 have:vs = #[]:=Array.eq_empty_of_size_eq_zero (by simpa using hl)
 subst this
 exact (yes_calls hy hb (glob_of hr)).mono fun e w' ⟨he,hg⟩=>⟨_,he,σ,hr.grows hg,.grows hr hg,.data (.bool true)⟩
end Go.VZ

/- strings.Builder at this program: the shelf's contracts (String: laid by the shelf's own tool), copyCheck and WriteString walked (their bodies differ from the shelf's). -/
namespace Go.Proofs
open Go.Shelf
def Tryz.lays169_ren:Go.Shelf.Ren:=⟨fun | 169=>270 | n=>n,fun | 70=>287 | 9=>9 | 0=>0 | 72=>289 | 37=>253 | 127=>330 | 3=>3 | 5=>5 | n=>n,fun | n=>n⟩
theorem Tryz.lays169:Go.Proofs.Lays.n169 Tryz.prog Tryz.lays169_ren:={
 mixed:=by kernel_rfl
 f169:=Tryz.func270.trans (congrArg some (by kernel_rfl))
 t0:=Tryz.underlying0
 a0:=Tryz.isAgg0
 z0:=Tryz.sizeOf0
 v0:=Tryz.zeroValue0
 t3:=Tryz.underlying3
 a3:=Tryz.isAgg3
 z3:=Tryz.sizeOf3
 v3:=Tryz.zeroValue3
 t9:=Tryz.underlying9
 a9:=Tryz.isAgg9
 z9:=Tryz.sizeOf9
 v9:=Tryz.zeroValue9
 t37:=Tryz.underlying253
 a37:=Tryz.isAgg253
 z37:=Tryz.sizeOf253
 v37:=Tryz.zeroValue253
 t70:=Tryz.underlying287
 a70:=Tryz.isAgg287
 z70:=Tryz.sizeOf287
 v70:=Tryz.zeroValue287
 t72:=Tryz.underlying289
 a72:=Tryz.isAgg289
 z72:=Tryz.sizeOf289
 v72:=Tryz.zeroValue289
 t127:=Tryz.underlying330
 a127:=Tryz.isAgg330
 z127:=Tryz.sizeOf330
 v127:=Tryz.zeroValue330}
theorem Tryz.Builder_Extra_169:Builder.Extra Tryz.prog Tryz.lays169_ren:={
 sizeBuilder:=by kernel_rfl
 liesBuilder:=by kernel_rfl
 t5:=Tryz.underlying5
 a5:=Tryz.isAgg5
 z5:=Tryz.sizeOf5
 v5:=Tryz.zeroValue5
 infoByte:=by kernel_rfl
 cellsByte:=by kernel_rfl
 sizeByte:=by kernel_rfl
 neB5:=by decide}
open Go.RowKit in
theorem Tryz.Builder_String (B b:Nat) (l:List UInt8) (w:World) (h:Lib.IsBuilder 289 5 B b (Lib.byteCells l) w) (h0:l≠[]) :
  Calls Tryz.prog 270 #[.pointer (some ⟨b,0,none⟩)] w fun e w'=>e=.returned (.string ⟨l.toArray⟩)∧Below B w w':=Any.Builder_String Tryz.lays169 Tryz.Builder_Extra_169 B b l w h h0
open Go.RowKit
theorem Tryz.sizeBuilder:(Tryz.prog.info? 289).map (·.size)=some 2:=by kernel_rfl
theorem Tryz.liesBuilder:liesAt Tryz.prog Tryz.prog.depth 289 (2/Tryz.prog.cellsOf 289) 0 289 1=true:=by kernel_rfl
theorem Tryz.infoByte:(Tryz.prog.info? 5).map (fun i=>(i.zero,i.size,i.bytes))=some (some (.int .u8 0),1,1):=by kernel_rfl
set_option maxHeartbeats 1000000 in
set_option maxRecDepth 100000 in
theorem Tryz.copyCheck_fresh (b:Nat) (w:World) (h0:w.cell? ⟨b,0,none⟩=some (.pointer none)) (hsh:w.shape? b=some (289,2)) (hfz:w.frozen? ⟨b,0,none⟩=false) :
  Calls Tryz.prog 312 #[.pointer (some ⟨b,0,none⟩)] w fun e w'=>e=.returned (.tuple #[])∧w'=w.setCell ⟨b,0,none⟩ (.pointer (some ⟨b,0,none⟩)):=by
 obtain ⟨j,hj,hjs⟩:=Option.map_eq_some_iff.1 Tryz.sizeBuilder
 go_enter Tryz.func312,Tryz.ntmps312
 go_wp2
 rw[Lib.run_to_unsafe w ⟨b,0,none⟩ Tryz.underlying287 Tryz.underlying342 hj (by rw[hjs];decide) hsh (Nat.zero_lt_succ 1)]
 simp only[Result.andThen]
 rw[Oper.upon_value]
 go_wp2
 rw[run_callFunc_extern Tryz.func338 (by kernel_rfl) (by kernel_rfl) (by kernel_rfl) (e:=Extern.AbiNoEscape.same) (by kernel_rfl)]
 rw[Lib.run_noEscape]
 simp only[Result.andThen]
 rw[Oper.upon_value]
 go_wp2
 rw[Lib.run_from_unsafe w ⟨b,0,none⟩ Tryz.underlying342 Tryz.underlying287 hj hsh Tryz.liesBuilder]
 simp only[Result.andThen]
 rw[Oper.upon_value]
 go_wp2
 go_end0
 exact ⟨rfl,rfl⟩
end Go.Proofs

/- The text of a closed term: term.Format at the atom k. -/
namespace Go.Proofs
open Go.Shelf Go.RowKit
def kAny:ByteArray:=⟨#[107,58,97,110,121]⟩
def OnlyB (b:Nat) (w w':World):Prop:=∀k,k<w.heap.size→k≠b→w'.heap[k]?=w.heap[k]?
theorem OnlyB.cell {b:Nat}{w w':World}(h:OnlyB b w w'){k o:Nat}{x:Value}(hk:k≠b) (hc:w.cell? ⟨k,o,none⟩=some x):w'.cell? ⟨k,o,none⟩=some x:=by
 have hb:=World.block_lt_of_cell? w _ hc
 rw[World.cell?_of_block (w:=w) (h k hb hk)];exact hc
set_option maxHeartbeats 2000000 in
set_option maxRecDepth 100000 in
theorem Tryz.writeString_fresh (b:Nat) (s:ByteArray) (w:World) (hbk0:w.heap[b]?=some (.cells #[.pointer none,.slice none 0 0] 289 (0,0))) (hlen:s.size≤140737488355328) :
  Calls Tryz.prog 269 #[.pointer (some ⟨b,0,none⟩),.string s] w fun e w'=>e=.returned (.tuple #[.int .i64 s.size,.nilIface])∧(Lib.BuilderAt 289 5 b b (.pointer (some ⟨b,0,none⟩)) (Lib.strCells s) w'∧Below b w w'∧OnlyB b w w'):=by
 obtain ⟨i0,hi,hz0,hz1,hz2⟩:=info_parts Tryz.infoByte
 have hbw:b<w.heap.size:=by
  rcases Nat.lt_or_ge b w.heap.size with h' | h'
  ·exact h'
  ·simp[Array.getElem?_eq_none h'] at hbk0
 have hfr:Lib.BuilderAt 289 5 b b (.pointer none) [] w:=⟨Nat.le_refl _,.slice none 0 0,hbk0,World.ownsRow_nil _ _ _ _,by simp[Value.ownBlock]⟩
 have e312:∀args w,(callFunc 312 args).run Tryz.prog w=.ok (.enter 312 args) w:=enters_of Tryz.func312 (by kernel_rfl) rfl
 go_enter Tryz.func269,Tryz.ntmps269
 go_wp2_with (go_at_fn 312;refine (Tryz.copyCheck_fresh b _ hfr.cell0 hfr.shape hfr.frozen0).mono ?_)
 rintro e w1 ⟨rfl,ew1⟩
 have hbk:w1.heap[b]?=some (.cells #[.pointer (some ⟨b,0,none⟩),.slice none 0 0] 289 (0,0)):=by
  rw[ew1]
  simp[World.setCell,Array.getElem?_modify,hbk0]
 have hb1:Below b w w1:=by rw[ew1];exact (Below.refl b w).setCell (p:=⟨b,0,none⟩) (Nat.le_refl _) _
 have ho1:OnlyB b w w1:=fun k _ hn=>by rw[ew1];exact Below.heap_setCell _ _ _ _ hn
 have hown:w1.ownsRow b 5 1 (.slice none 0 0) 0 []:=World.ownsRow_nil _ _ _ _
 have c0:w1.cell? ⟨b,0,none⟩=some (.pointer (some ⟨b,0,none⟩)):=by rw[Lib.cell_of_heap hbk];rfl
 have c1:w1.cell? ⟨b,1,none⟩=some (.slice none 0 0):=by rw[Lib.cell_of_heap hbk];rfl
 have hs1:=hb1.size
 clear ew1
 go_wp2_with (at_builtin;refine Lib.wpList_append_own_string _ rfl _ _ 253 9 rfl b 5 i0 Tryz.underlying253 Tryz.underlying9 hi hz0 hz1 hz2 _ _ _ rfl hown s rfl ?c3 ?c4 ?c5 ?_)
 case c3=>unfold maxLen;omega
 case c4=>omega
 case c5=>omega
 intro v' w2 hown' hgrow _
 have hlt:b<w1.heap.size:=by omega
 have hb2:w2.heap[b]?=some (.cells #[.pointer (some ⟨b,0,none⟩),.slice none 0 0] 289 (0,0)):=by
  rw[hgrow.block b hlt (fun e=>by cases e)]
  exact hbk
 have d0:w2.cell? ⟨b,0,none⟩=some (.pointer (some ⟨b,0,none⟩)):=by rw[Lib.cell_of_heap hb2];rfl
 have d1:w2.cell? ⟨b,1,none⟩=some (.slice none 0 0):=by rw[Lib.cell_of_heap hb2];rfl
 have f1:w2.frozen? ⟨b,1,none⟩=false:=Lib.frozen_of_heap hb2 1
 obtain ⟨ao,n',cap,rfl⟩:∃ao n' cap,v'=.slice ao n' cap:=by
  rcases hown'.2 with ⟨hv,_⟩ | ⟨g,cap,cur,hv,_⟩
  ·exact ⟨_,_,_,hv⟩
  ·exact ⟨_,_,_,hv⟩
 go_wp2
 go_ret2
 refine ⟨rfl,?_,?_,?_⟩
 ·exact Lib.BuilderAt.put (T:=289) (e:=5) (Nat.le_refl _) hb2 (bs':=Lib.strCells s) (by simpa [Lib.strCells_length] using hown') (by decide)
 ·exact (hb1.grown hgrow (by omega) (fun k hk=>by cases hk)).setCell (p:=⟨b,1,none⟩) (Nat.le_refl _) _
 ·intro k hk hn
  rw[Below.heap_setCell _ _ _ _ hn,hgrow.block k (by omega) (fun e=>by cases e)]
  exact ho1 k hk hn
set_option maxHeartbeats 4000000 in
set_option maxRecDepth 100000 in
theorem Tryz.write_k (b g o cap:Nat) (kv:Value) (w:World) (hbk:w.heap[b]?=some (.cells #[.pointer none,.slice none 0 0] 289 (0,0))) (hg:w.cell? ⟨1,0,none⟩=some (.slice (some ⟨g,o,none⟩) 6 cap))
  (hw:w.cell? ⟨g,o,none⟩=some (.string ⟨#[97,110,121]⟩)) :
  Calls Tryz.prog 311 #[.pointer (some ⟨b,0,none⟩),.agg #[.int .i64 2,.string ⟨#[107]⟩,.int .i64 0,kv]] w fun e w'=>e=.returned (.tuple #[])∧(Lib.BuilderAt 289 5 b b (.pointer (some ⟨b,0,none⟩)) (Lib.strCells kAny) w'∧Below b w w'):=by
 have e269:∀args w,(callFunc 269 args).run Tryz.prog w=.ok (.enter 269 args) w:=enters_of Tryz.func269 (by kernel_rfl) rfl
 have hbl:b<w.heap.size:=by
  rcases Nat.lt_or_ge b w.heap.size with h' | h'
  ·exact h'
  ·simp[Array.getElem?_eq_none h'] at hbk
 have n1:=World.new_ne w _ hg
 have n2:=World.new_ne w _ hw
 go_enter Tryz.func311,Tryz.ntmps311
 go_wp2
 have hcat:((⟨#[107]⟩:ByteArray)++⟨#[58]⟩++⟨#[97,110,121]⟩)=kAny:=by decide
 have fb:(w.alloc (.cells #[.int .i64 2,.string ⟨#[107]⟩,.int .i64 0,kv] 25)).drew.heap[b]?=some (.cells #[.pointer none,.slice none 0 0] 289 (0,0)):=by
  show (w.alloc _).heap[b]?=_
  rw[Below.heap_alloc _ _ _ hbl];exact hbk
 have hsz:((⟨#[107]⟩:ByteArray)++⟨#[58]⟩++⟨#[97,110,121]⟩).size≤140737488355328:=by rw[hcat];decide
 have nb0:w.heap.size≠b:=by omega
 have nb1:1≠b:=by
  intro e;subst e
  rw[Lib.cell_of_heap hbk] at hg
  simp at hg
 have nbg:g≠b:=by
  intro e;subst e
  rw[Lib.cell_of_heap hbk] at hw
  match o,hw with
  | 0,hw=>simp at hw
  | 1,hw=>simp at hw
  | o+2,hw=>simp at hw
 have hnew:(w.alloc (.cells #[.int .i64 2,.string ⟨#[107]⟩,.int .i64 0,kv] 25)).drew.heap[w.heap.size]?=some (.cells #[.int .i64 2,.string ⟨#[107]⟩,.int .i64 0,kv] 25):=by show (w.heap.push _)[w.heap.size]?=_;simp
 have a1:(w.alloc (.cells #[.int .i64 2,.string ⟨#[107]⟩,.int .i64 0,kv] 25)).drew.cell? ⟨w.heap.size,1,none⟩=some (.string ⟨#[107]⟩):=by rw[Lib.cell_of_heap hnew];rfl
 have a2:(w.alloc (.cells #[.int .i64 2,.string ⟨#[107]⟩,.int .i64 0,kv] 25)).drew.cell? ⟨w.heap.size,2,none⟩=some (.int .i64 0):=by rw[Lib.cell_of_heap hnew];rfl
 have hold:∀(k o:Nat) (x:Value),w.cell? ⟨k,o,none⟩=some x→(w.alloc (.cells #[.int .i64 2,.string ⟨#[107]⟩,.int .i64 0,kv] 25)).drew.cell? ⟨k,o,none⟩=some x:=fun k o x hc=>by
  have hb:=World.block_lt_of_cell? w _ hc
  rw[World.cell?_of_block (w:=w) (by show (w.alloc _).heap[k]?=_;exact Below.heap_alloc _ _ _ hb)];exact hc
 have a3:=hold _ _ _ hg
 have a4:=hold _ _ _ hw
 go_region_held3 (fun w'=>w'.cell? ⟨w.heap.size,1,none⟩=some (.string ⟨#[107]⟩)∧w'.cell? ⟨w.heap.size,2,none⟩=some (.int .i64 0)∧w'.cell? ⟨1,0,none⟩=some (.slice (some ⟨g,o,none⟩) 6 cap)∧w'.cell? ⟨g,o,none⟩=some (.string ⟨#[97,110,121]⟩))
  (first | go_keep | exact ⟨hob.cell nb0 a1,hob.cell nb0 a2,hob.cell nb1 a3,hob.cell nbg a4⟩)
  (first | (go_at_call 269;refine (Tryz.writeString_fresh b _ _ fb hsz).mono ?_;rintro e w' ⟨rfl,hB,hb,hob⟩))
 go_wp2
 refine bodyPost_ret (results_none rfl _ _ _) rfl ?_
 rw[hcat] at hB
 exact ⟨rfl,hB,(((Below.refl b w).alloc (Nat.le_of_lt hbl) _).drew).trans hb⟩
end Go.Proofs

/- Closed runs of chapter 48: the ways of calling for them. -/
namespace Go.VZ
open Go Go.V Go.Proofs Go.RowKit
def opens48:List Nat:=[51,52,77,85,93,94,98,100,101,114,126,152,153,154,157,158,170,174,182,183,184,185,186,187,188,189,199,201,204,217,218,224,236,238,239,240,242,243,245,248,254,265,268,269,270,272,273,274,275,276,277,278,279,281,282,288,289,290,295,296,303,304,305,306,307,308,309,310,311,312,313,315,316,317,321,322,323,326,334,335,336,337,344,345,347,360,362,368,384,391,400,401,402,410,414,416,428,429,430,431,434,438,444,445,452,455,462,463,464,481,482,483,484,485,488]
def owns48:List Nat:=[11,18,23,40,43,49,50,56,57,63,68,73,75,76,90,96,103,109,119,120,125,129,138,139,162,168,169,177,178,193,200,202,205,226,227,235,246,249,250,252,283,331,349,353,361,367,389,396,406,435,460,461,499]
def looks48:List Nat:=[102,159]
def mix48:List (Nat × Nat):=[(20,2),(24,10),(27,12),(30,3),(33,4),(34,3),(50,1),(57,1),(103,1),(108,10),(129,1),(153,1),(157,1),(167,3),(169,3),(174,2),(230,4),(230,9),(230,10),(230,12),(230,14),(230,15),(231,6),(231,17),(263,2),(282,1),(323,1),(331,4),(400,2),(451,19),(451,32)]
def md48:FuncId→Go.V.Mode:=fun f=>if looks48.contains f then .openQ else if opens48.contains f then .openH else if owns48.contains f then .ownM else .strip
def wr48:FuncId→Tmp→Bool:=fun _ _=>true
noncomputable def CL:Cfg:={P:=Tryz.prog,mode:=md48,wr:=wr48,prim:=primClone,ext:=ext,extOk:=ext_ok,mix:=fun f i=>mix48.contains (f,i)}
theorem okL (m:Nat):Go.V.Ok Tryz.prog (callR CL m):=callR_ok (C:=CL) good primClone_ok m
def runIs (C:Cfg) (m:Nat) (f:FuncId) (args:List AV) (v:AV):Bool:=match callR C m f args [] with
 | some (r,h)=>match snap (freezeAll h) deep r with
  | some u=>AV.same u v
  | none=>false
 | none=>false
theorem runIs_some {C:Cfg}{m:Nat}{f:FuncId}{args:List AV}{v:AV}(h:runIs C m f args v=true):∃r h1,callR C m f args []=some (r,h1)∧snap (freezeAll h1) deep r=some v:=by
 unfold runIs at h
 split at h<;>first | (cases h;done) | skip
 rename_i r h1 hx
 split at h<;>first | (cases h;done) | skip
 rename_i u hu
 exact ⟨r,h1,hx,by rw[hu,AV.same_eq h]⟩
theorem runIs_CallP {C:Cfg}{m:Nat}{f:FuncId}{args:List AV}{v:AV}(h:runIs C m f args v=true):CallP C f args=some v:=by
 obtain ⟨r,h1,hx,hs⟩:=runIs_some h
 unfold CallP
 rw[Call_of m hx];exact hs
theorem closed_calls {C:Cfg}{m:Nat}(_hC:C.P=Tryz.prog) (ok:Go.V.Ok Tryz.prog (callR C m)){f:FuncId}{args:List AV}{v:AV}(h:runIs C m f args v=true) (hb:hasBody Tryz.prog f=true){w:World}{vs:Array Value}(hg:GlobR (fun _ _=>True) w)
  (hl:vs.size=args.length) (hr:∀(i:Nat) a u,args[i]?=some a→vs[i]?=some u→IRel (fun _ _=>True) w a u) :
  Calls Tryz.prog f vs w fun e w'=>∃u,e=.returned u∧Grows w w'∧IRel (fun _ _=>True) w' v u:=by
 obtain ⟨r,h1,hx,hs⟩:=runIs_some h
 refine (ok.fn f args [] r h1 hb hx w.heap.size (fun _ _=>True) [] w vs (.start hg) hl (fun i a v ha hv=>.data (irel_start (hr i a v ha hv)))).mono ?_
 rintro e w' ⟨u,rfl,σ',k1,k2,k3⟩
 have:=snap_sound (k1.stiller (freezeAll_stiller h1)) deep r v u hs (k3.step (.stiller k1 (freezeAll_stiller h1)))
 exact ⟨u,rfl,of_below k2.below k2.drawn,this.mono fun b o x _ hc=>⟨trivial,hc⟩⟩
end Go.VZ

/- The text of the atom k, as term.Format gives it. -/
namespace Go.VZ
open Go Go.V Go.Proofs Go.RowKit
def tK:AV:=.agg [.int .i64 2,.str ⟨#[107]⟩,.int .i64 0,.isl [] .unk]
theorem valid_k:runIs CL 4000 111 [tK] (.int .i64 0)=true:=by kernel_rfl
theorem grows_glob {w w':World}(g:Grows w w') (h:GlobR (fun _ _=>True) w):GlobR (fun _ _=>True) w':=⟨fun a b hab=>(h.1 a b hab).mono fun _ _ _ _ hc=>⟨trivial,g.cell hc⟩,fun a n ha=>by
 obtain ⟨vs,ty,fr,h1,h2⟩:=h.2 a n ha
 exact ⟨vs,ty,fr,by rw[g.block a (Array.getElem?_eq_some_iff.1 h1).1];exact h1,h2⟩⟩
theorem words_at {w:World}(h:GlobR (fun _ _=>True) w):∃g o cap,w.cell? ⟨1,0,none⟩=some (.slice (some ⟨g,o,none⟩) 6 cap)∧w.cell? ⟨g,o,none⟩=some (.string ⟨#[97,110,121]⟩):=by
 have h1:=h.1 1 _ (if_pos rfl)
 cases h1 with
 | iptr f h1 h2 h3=>
  have c0:=(h2 0 _ rfl).2
  have r0:=h3 0 _ rfl
  simp only[Nat.add_zero] at c0
  generalize f 0=u at c0 r0
  cases r0 with
  | @isl es sz b o cap f hz hc hm h0 q1 q2 q3=>
   refine ⟨b,o,cap,by simpa using c0,?_⟩
   have d0:=(q2 0 0 _ _ rfl rfl).2
   have e0:=q3 0 0 _ _ rfl rfl
   simp only[Nat.zero_mul,Nat.add_zero] at d0
   generalize f 0 0=z at d0 e0
   cases e0
   exact d0
set_option maxHeartbeats 4000000 in
set_option maxRecDepth 100000 in
theorem format_k (kv:Value) (w:World) (hg:GlobR (fun _ _=>True) w) (hkv:IRel (fun _ _=>True) w (.isl [] .unk) kv) :
  Calls Tryz.prog 267 #[.agg #[.int .i64 2,.string ⟨#[107]⟩,.int .i64 0,kv]] w fun e w'=>e=.returned (.tuple #[.string kAny,.int .i64 0])∧Grows w w':=by
 have e111:∀args w,(callFunc 111 args).run Tryz.prog w=.ok (.enter 111 args) w:=enters_of Tryz.func111 (by kernel_rfl) rfl
 have e311:∀args w,(callFunc 311 args).run Tryz.prog w=.ok (.enter 311 args) w:=enters_of Tryz.func311 (by kernel_rfl) rfl
 have e270:∀args w,(callFunc 270 args).run Tryz.prog w=.ok (.enter 270 args) w:=enters_of Tryz.func270 (by kernel_rfl) rfl
 have g1:Grows w (w.alloc (.cells #[.int .i64 2,.string ⟨#[107]⟩,.int .i64 0,kv] 25)):=.alloc _ _
 have hv:Calls Tryz.prog 111 #[.agg #[.int .i64 2,.string ⟨#[107]⟩,.int .i64 0,kv]] (w.alloc (.cells #[.int .i64 2,.string ⟨#[107]⟩,.int .i64 0,kv] 25)) fun e w'=>e=.returned (.int .i64 0)∧Grows (w.alloc (.cells #[.int .i64 2,.string ⟨#[107]⟩,.int .i64 0,kv] 25)) w':=by
  refine (closed_calls (C:=CL) rfl (okL 4000) valid_k (by kernel_rfl) (grows_glob g1 hg) rfl ?_).mono ?_
  ·intro i a u ha hu
   match i with
   | 0=>
    simp at ha hu;subst ha;subst hu
    refine .agg (by simp[AV.one]) rfl fun j c v hc hv=>?_
    match j with
    | 0=>simp at hc hv;subst hc;subst hv;exact .int _ _
    | 1=>simp at hc hv;subst hc;subst hv;exact .str _
    | 2=>simp at hc hv;subst hc;subst hv;exact .int _ _
    | 3=>simp at hc hv;subst hc;subst hv;exact hkv.mono fun _ _ _ _ hc=>⟨trivial,g1.cell hc⟩
    | j+4=>simp at hc
   | i+1=>simp at ha
  ·rintro e w' ⟨u,rfl,hgr,hu⟩
   cases hu
   exact ⟨rfl,hgr⟩
 go_enter Tryz.func267,Tryz.ntmps267
 go_wp2_with (go_at_fn 111;refine hv.mono ?_)
 rintro e w2 ⟨rfl,g2⟩
 have g02:=g1.trans g2
 have hbox:w2.heap[w.heap.size]?=some (.cells #[.int .i64 2,.string ⟨#[107]⟩,.int .i64 0,kv] 25):=by
  rw[g2.block _ (by show w.heap.size<(w.heap.push _).size;simp)]
  show (w.heap.push _)[w.heap.size]?=_
  simp
 have b0:w2.cell? ⟨w.heap.size,0,none⟩=some (.int .i64 2):=by rw[Lib.cell_of_heap hbox];rfl
 have b1:w2.cell? ⟨w.heap.size,1,none⟩=some (.string ⟨#[107]⟩):=by rw[Lib.cell_of_heap hbox];rfl
 have b2:w2.cell? ⟨w.heap.size,2,none⟩=some (.int .i64 0):=by rw[Lib.cell_of_heap hbox];rfl
 have b3:w2.cell? ⟨w.heap.size,3,none⟩=some kv:=by rw[Lib.cell_of_heap hbox];rfl
 have hlt2:w.heap.size<w2.heap.size:=(Array.getElem?_eq_some_iff.1 hbox).1
 have ne2:w2.heap.size≠w.heap.size:=by omega
 have g3:Grows w2 (w2.alloc (.cells #[.pointer none,.slice none 0 0] 289)):=.alloc _ _
 obtain ⟨g,o,cap,hw1,hw2⟩:=words_at (grows_glob (g02.trans g3) hg)
 have hbld:(w2.alloc (.cells #[.pointer none,.slice none 0 0] 289)).heap[w2.heap.size]?=some (.cells #[.pointer none,.slice none 0 0] 289 (0,0)):=by
  show (w2.heap.push _)[w2.heap.size]?=_
  simp
 go_wp2_with (go_at_fn 311;refine (Tryz.write_k w2.heap.size g o cap kv _ hbld hw1 hw2).mono ?_)
 rintro e w4 ⟨rfl,hB,hb4⟩
 have hB2:Lib.IsBuilder 289 5 w2.heap.size w2.heap.size (Lib.byteCells [107,58,97,110,121]) w4:=.inr hB
 go_wp2_with (go_at_fn 270;refine (Tryz.Builder_String w2.heap.size w2.heap.size [107,58,97,110,121] _ hB2 (by simp)).mono ?_)
 rintro e w5 ⟨rfl,hb5⟩
 go_wp2
 go_ret2
 refine ⟨rfl,of_below ?_ fun h=>h.elim⟩
 have k1:Below w.heap.size w w2:=g02.below (Nat.le_refl _)
 have k2:Below w.heap.size w2 (w2.alloc (.cells #[.pointer none,.slice none 0 0] 289)):=g3.below (by omega)
 exact ((k1.trans k2).trans (hb4.mono (by omega))).trans (hb5.mono (by omega))
end Go.VZ

/- The bindings of an empty matcher: none. -/
namespace Go.VZ
open Go Go.V Go.Proofs Go.RowKit
theorem sort_none:runIs CL 4000 158 [.isl [] .unk,.func 159 []] (.tuple [])=true:=by kernel_rfl
set_option maxHeartbeats 4000000 in
set_option maxRecDepth 100000 in
theorem bindings_none (b clock:Nat) (w:World) (hg:GlobR (fun _ _=>True) w) (hb:w.heap[b]?=some (.map #[] clock)) :
  Calls Tryz.prog 102 #[.map (some b)] w fun e w'=>e=.returned (.slice none 0 0)∧Grows w w':=by
 have e158:∀args w,(callFunc 158 args).run Tryz.prog w=.ok (.enter 158 args) w:=enters_of Tryz.func158 (by kernel_rfl) rfl
 have hr:=run_range_map (P:=Tryz.prog) w 152 _ _ b #[] clock Tryz.underlying152 hb
 have hn:∀ty,(Instr.next (.pointer (some ⟨w.heap.size,0,none⟩)) false ty).run Tryz.prog (w.alloc (.mapIter (some b) clock #[] clock))=.ok (.tuple #[.bool false]) (w.alloc (.mapIter (some b) clock #[] clock)):=fun ty=>by
  rcases run_next_map (P:=Tryz.prog) w ty b clock clock #[] #[] clock hb (fun x hx=>by simp at hx) (Nat.le_refl _) with ⟨_,h⟩ | ⟨e,he,_⟩
  ·exact h
  ·exact absurd (mem_left he).1 (by simp)
 have g1:Grows w (w.alloc (.mapIter (some b) clock #[] clock)):=.alloc _ _
 have hs:Calls Tryz.prog 158 #[.slice none 0 0,.func (.func 159) #[] #[]] (w.alloc (.mapIter (some b) clock #[] clock)) fun e w'=>e=.returned (.tuple #[])∧Grows (w.alloc (.mapIter (some b) clock #[] clock)) w':=by
  refine (closed_calls (C:=CL) rfl (okL 4000) sort_none (by kernel_rfl) (grows_glob g1 hg) rfl ?_).mono ?_
  ·intro i a u ha hu
   match i with
   | 0=>simp at ha hu;subst ha;subst hu;exact .islNil
   | 1=>simp at ha hu;subst ha;subst hu;exact .func rfl fun i a v ha=>by simp at ha
   | i+2=>simp at ha
  ·rintro e w' ⟨u,rfl,hgr,hu⟩
   cases hu with
   | tuple hl h=>
    rename_i vs
    have:vs = #[]:=Array.eq_empty_of_size_eq_zero (by simpa using hl)
    subst this
    exact ⟨rfl,hgr⟩
 go_enter Tryz.func102,Tryz.ntmps102
 go_wp2
 refine wp_loop_once ?_
 go_wp2_with (go_at_fn 158;refine hs.mono ?_)
 rintro e w2 ⟨rfl,g2⟩
 go_wp2
 go_ret
 exact ⟨rfl,g1.trans g2⟩
end Go.VZ

/- Closed runs of chapter 48: the contracts beside the runs; the value machine for them is sound. -/
namespace Go.VZ
open Go Go.V Go.Proofs Go.RowKit
def primK (f:FuncId) (args:List AV) (h:H):Option (AV × H):=
 if f=267 then (match args with
  | [a]=>if AV.same a tK then some (.tuple [.str kAny,.int .i64 0],h) else none
  | _=>none)
 else if f=102 then (match args with
  | [.mp i]=>match h[i]? with
   | some (.map [])=>some (.isl [] .full,h)
   | _=>none
  | _=>none)
 else primClone f args h
noncomputable def CK:Cfg:={P:=Tryz.prog,mode:=md48,wr:=wr48,prim:=primK,ext:=ext,extOk:=ext_ok,mix:=fun f i=>mix48.contains (f,i)}
theorem gT {B:Nat}{A0:Nat→Nat→Prop}{σ:List (Option Nat)}{h:H}{w:World}(hr:HRel Tryz.prog B A0 σ h w):GlobR (fun _ _=>True) w:=⟨fun g a hg=>(hr.gr.1 g a hg).mono fun _ _ _ _ hc=>⟨trivial,hc⟩,hr.gr.2⟩
theorem one_arg {vs:Array Value}(hl:vs.size=1):∃v,vs = #[v]:=⟨vs[0],by apply Array.ext<;>simp[hl];intro i hi;subst hi;rfl⟩
theorem tK_value {A:Nat→Nat→Prop}{w:World}{v:Value}(r:IRel A w tK v):∃kv,v=.agg #[.int .i64 2,.string ⟨#[107]⟩,.int .i64 0,kv]∧IRel A w (.isl [] .unk) kv:=by
 cases r with
 | agg h1 hl h=>
  rename_i vs
  obtain ⟨l⟩:=vs
  match l,hl with
  | [a,b,c,d],_=>
   have r0:=h 0 _ a rfl rfl
   have r1:=h 1 _ b rfl rfl
   have r2:=h 2 _ c rfl rfl
   have r3:=h 3 _ d rfl rfl
   cases r0;cases r1;cases r2
   exact ⟨d,rfl,r3⟩
theorem primK_ok (f:FuncId):PrimOk CK.P f (CK.prim f):=by
 intro args h r h' hp B A0 σ w vs hr hl ha
 have hp':primK f args h=some (r,h'):=hp
 have hr':HRel Tryz.prog B A0 σ h w:=hr
 unfold primK at hp'
 split at hp'
 ·rename_i hf;subst hf
  split at hp'<;>first | (cases hp';done) | skip
  rename_i a
  split at hp'<;>first | (cases hp';done) | skip
  rename_i hs
  have hs:=AV.same_eq hs
  subst hs
  simp only[Option.some.injEq,Prod.mk.injEq] at hp'
  obtain ⟨rfl,rfl⟩:=hp'
  obtain ⟨v,rfl⟩:=one_arg hl
  have hv:=snap_sound hr' deep tK tK v (by kernel_rfl) (ha 0 _ v rfl rfl)
  obtain ⟨kv,rfl,hkv⟩:=tK_value hv
  refine (format_k kv w (gT hr') (hkv.mono fun _ _ _ _ hc=>⟨trivial,hc⟩)).mono fun e w' ⟨he,hg⟩=>⟨_,he,σ,hr'.grows hg,.grows hr' hg,.data (.tuple rfl fun i a v hia hiv=>?_)⟩
  match i with
  | 0=>simp at hia hiv;subst hia;subst hiv;exact .str _
  | 1=>simp at hia hiv;subst hia;subst hiv;exact .int _ _
  | i+2=>simp at hia
 ·split at hp'
  ·rename_i hf;subst hf
   split at hp'<;>first | (cases hp';done) | skip
   rename_i i
   split at hp'<;>first | (cases hp';done) | skip
   rename_i hi
   simp only[Option.some.injEq,Prod.mk.injEq] at hp'
   obtain ⟨rfl,rfl⟩:=hp'
   obtain ⟨v,rfl⟩:=one_arg hl
   obtain ⟨b,rfl,hs⟩:=rel_mp (ha 0 _ v rfl rfl)
   obtain ⟨b',mes,clock,k1,k2,k3,k4,_⟩:=hr'.map i _ hi
   have e1:b=b':=by rw[hs] at k1;simpa using k1
   subst e1
   have e2:mes = #[]:=Array.eq_empty_of_size_eq_zero (by simpa using k4)
   subst e2
   exact (bindings_none b clock w (gT hr') k3).mono fun e w' ⟨he,hg⟩=>⟨_,he,σ,hr'.grows hg,.grows hr' hg,.full .islNil⟩
  ·exact primClone_ok f args h r h' hp' B A0 σ w vs hr hl ha
end Go.VZ
