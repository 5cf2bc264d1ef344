/- Unification of two rows of terms: the reference's way walked. -/
import Derived.Test.YtdoegkegjaadeaaGreatDoorSf
namespace Go.VZ
open Go Go.V Go.Proofs TL
def ExtOk (h:H) (x:Ext):Prop:=∀t,x=.tok t→t<h.length
theorem isl_mv {es:List AV}{x:Ext}{n k:Nat}(hx:∀t,x=.tok t→t<n):(AV.isl es x).mv n k=.isl es x:=by
 cases x with
 | tok t=>have:=hx t rfl;simp[AV.mv];omega
 | full=>rfl
 | unk=>rfl
theorem own_ext {e:TypeId}{h:H}{v:AV}{xs:List AV}(o:OwnR e h v xs):∃x,v=.isl xs x∧ExtOk h x:=by
 rcases o with rfl | ⟨id,rfl,hd⟩
 ·exact ⟨.full,rfl,fun t ht=>by cases ht⟩
 ·exact ⟨.tok id,rfl,fun t ht=>by cases ht;exact (List.getElem?_eq_some_iff.1 hd).1⟩
theorem slice203 (p:T × T) (ps:List (T × T)) (x:Ext):∃x',sliceV C.P 203 (.isl ((p::ps).map encB) x) (some (.int .i64 1)) none none=some (.isl (ps.map encB) x')∧(x'=.full∨x'=.unk):=by
 have hs:=szOk_B (p::ps)
 refine ⟨if x=.full then .full else .unk,?_,by split<;>simp⟩
 simp only[List.map_cons] at hs
 have h1:(1:Int)≤(ps.length:Int)+1:=by omega
 have h2:List.take ps.length (List.map encB ps)=List.map encB ps:=List.take_of_length_le (by simp)
 simp[sliceV,u203,s205,bndO,bndV,hs,h1,h2]
def NJ169 (a b:T) (i5 i6:Nat) (ps s:List (T × T)) (x x':Ext) (m:Nat) (st:PT) (h:H):Prop:=∃(k:Nat) (v:AV),m=a.kids.length-k∧k≤a.kids.length∧h[i5]?=some (.cells (enc a).cells .live)∧h[i6]?=some (.cells (enc b).cells .live)∧st.get 0=.isl (ps.map encB) x∧st.get 4=.isl (s.map encB) x'∧st.get 5=.ptr i5 0∧st.get 6=.ptr i6 0∧st.get 7=v∧st.get 8=.int .i64 k ∧
 OwnR 205 h v (((zipU a b).take k).map encB)
def NS169 (U:List T) (K:Nat) (r:List (T × T)) (e:Int) (m:Nat) (st:PT) (h:H):Prop:=∃(ps s:List (T × T)) (x x':Ext),runG insO m ps s=some (r,e)∧InvU U K ps s∧st.get 0=.isl (ps.map encB) x∧st.get 4=.isl (s.map encB) x'∧ExtOk h x
theorem call231 (x y:T) (ps s:List (T × T)) (e1 e2:Ext) (hx:x.size≤400) (hy:y.size≤400) (hp:le400 ps) (hs:le400 s) (hpl:ps.length<4000000) (hsl:s.length<4000000) (h:H) :
  callV C h (.func 231 []) (some [enc x,enc y,.isl (ps.map encB) e1,.isl (s.map encB) e2])=some (.tuple [binds (putP x y ps),binds (insO (x,y) (putS x y s)),.bool (okU x y ps s)],h):=
 callV_strip (by kernel_rfl) rfl (args':=[enc x,enc y,binds ps,binds s]) (by rw[enc_eq x,enc_eq y];rfl) (by simp[short_enc];exact ⟨rfl,rfl⟩) (by simp) (bind231 x y ps s hx hy hp hs hpl hsl)
theorem InvU.le {U K ps s}(h:InvU U K ps s):le400 ps∧le400 s:=⟨fun p hp=>⟨(nodes_zero (h.valid p hp).1).2.1,(nodes_zero (h.valid p hp).2).2.1⟩,fun b hb=>⟨(nodes_zero (h.bval b hb).1).2.1,(nodes_zero (h.bval b hb).2).2.1⟩⟩
set_option maxRecDepth 8000 in
set_option maxHeartbeats 16000000 in
theorem solve169 (U:List T) (K:Nat) (hK:K≤3000000) (hU:U.length≤3000000) (n:Nat) (ps0 r:List (T × T)) (e:Int) (hi0:InvU U K ps0 []) (hr0:runG insO n ps0 []=some (r,e)):CallP C 169 [binds ps0]=some (.tuple [binds r,.int .i64 e]):=by
 refine CallP_W rfl Tryz.func169 rfl (by kernel_rfl) (by simp[Tryz.f169]) fun R hR=>?_
 have fin:∀(st:PT) (h:H) (x:Ext) (l:List (T × T)) (e':Int),st.get 2=.isl (l.map encB) x→st.get 3=.int .i64 e'→l=r→e'=e→∀w,(w=.normal∨w=.ret)→R w st h:=fun st h x l e' h2 h3 hl he w hw=>by
  refine hR _ _ _ hw ⟨.tuple [.isl (l.map encB) x,.int .i64 e'],by simp[resultV,resVs,resV,Tryz.f169,h2,h3],?_⟩
  rw[hl,he];exact snap_tuple rfl rfl (by simp)
 simp[go_sem]
 refine W_loop (NS169 U K r e) n ⟨ps0,[],.unk,.tok 1,hr0,hi0,by simp[go_sem];rfl,by simp[go_sem],fun t ht=>by cases ht⟩ ?_
 clear hr0 hi0
 rintro n st h ⟨ps,s,x,x',hrun,hinv,g0,g4,hx⟩
 have hln:=len203 ps x
 match ps,n,hrun,hinv,g0,hln with
 | [],n,hrun,hinv,g0,hln=>
  have hh:s=r∧(0:Int)=e:=by simpa [runG] using hrun
  simp only[List.map_nil,List.length_nil] at g0 hln
  simp[go_sem,g0,hln]
  exact fin _ _ x' s 0 (by simp[go_sem,g4]) (by simp[go_sem]) hh.1 hh.2 _ (.inr rfl)
 | (a,b)::ps,0,hrun,_,_,_=>simp[runG] at hrun
 | (a,b)::ps,n+1,hrun,hinv,g0,hln=>
  obtain ⟨va,vb⟩:=hinv.valid _ List.mem_cons_self
  have sa:=(nodes_zero va).2.1
  have sb:=(nodes_zero vb).2.1
  have hpl:=hinv.plen
  have hsl:=hinv.slen
  simp only[List.length_cons] at hpl
  have hix:indexAddrV C.P 203 (.isl (((a,b)::ps).map encB) x) (.int .i64 0)=some (.iptr (encB (a,b)) 0):=idx203 ((a,b)::ps) 0 (by simp) x
  obtain ⟨x1,hsl1,hx1⟩:=slice203 (a,b) ps x
  have hx1':∀h:H,ExtOk h x1:=fun h t ht=>by rcases hx1 with e | e<;>rw[e] at ht<;>cases ht
  obtain ⟨N,hN⟩:∃N,N=((a,b)::ps).length:=⟨_,rfl⟩
  have hN0:0<N:=by rw[hN];simp
  rw[←hN] at hln
  generalize hE:((a,b)::ps).map encB=E at g0 hln hix hsl1
  rw[runG] at hrun
  simp[go_sem,g0,hln,hN0]
  refine W_mixedP 3 _ (fun st' h'=>st'.get 0=.isl E x∧st'.get 4=.isl (s.map encB) x'∧st'.get 5=.ptr (h.length+8) 0∧st'.get 6=.ptr (h.length+9) 0∧h'[h.length+8]?=some (.cells (enc a).cells .live)∧h'[h.length+9]?=some (.cells (enc b).cells .live)) (by rw[mixC];decide) (by kernel_rfl) ?_ ?_
  ·generalize hH0:h++List.replicate _ VObj.void=H0
   have pl:Pl h H0 12:=hH0▸Pl.mk' h 12
   have hlen:=pl.len
   clear hH0
   have mE:∀k,(AV.isl E x).mv H0.length k=.isl E x:=fun k=>isl_mv fun t ht=>by have:=hx t ht;omega
   refine MX_pure (.isl E x) rfl rfl (pl.isV (i:=0) (by decide)) (by simp[opN,go_sem,g0]) (mE _) ?_
   refine MX_pure (.iptr (encB (a,b)) 0) rfl rfl (pl.isV (i:=1) (by decide)) (by simp[opN,go_sem,hix]) rfl ?_
   refine MX_pure (.iptr (encB (a,b)) 0) rfl rfl (pl.isV (i:=2) (by decide)) (by simp[opN,go_sem]) rfl ?_
   refine MX_load (.iptr (encB (a,b)) 0) (enc a) (by simp[go_sem]) (ld25i0 (a,b) H0) (by simp[lids]) (pl.isV (i:=3) (by decide)) (mv_enc _ _ _) ?_
   refine MX_pure (.isl E x) rfl rfl (pl.isV (i:=4) (by decide)) (by simp[opN,go_sem,g0]) (mE _) ?_
   refine MX_pure (.iptr (encB (a,b)) 0) rfl rfl (pl.isV (i:=5) (by decide)) (by simp[opN,go_sem,hix]) rfl ?_
   refine MX_pure (.iptr (encB (a,b)) 4) rfl rfl (pl.isV (i:=6) (by decide)) (by simp[opN,go_sem]) rfl ?_
   refine MX_load (.iptr (encB (a,b)) 4) (enc b) (by simp[go_sem]) (ld25i4 (a,b) H0) (by simp[lids]) (pl.isV (i:=7) (by decide)) (mv_enc _ _ _) ?_
   refine MX_alloc _ zv25f (pl.isV (i:=8) (by decide)) ?_
   rw[show VObj.mv H0.length (h.length+8) (.cells (AV.agg zc).cells .live)=.cells zc .live from rfl]
   obtain ⟨H1,eH1⟩:∃g,g=H0.set (h.length+8) (.cells zc .live):=⟨_,rfl⟩
   have hl1:H1.length=H0.length:=by rw[eH1];simp
   have q8:H1[h.length+8]?=some (.cells zc .live):=by rw[eH1];exact List.getElem?_set_self (by omega)
   have u9:isVoid H1[h.length+9]?=true:=by rw[eH1];exact isV_set (pl.isV (i:=9) (by decide)) (by omega)
   have u10:isVoid H1[h.length+10]?=true:=by rw[eH1];exact isV_set (pl.isV (i:=10) (by decide)) (by omega)
   have u11:isVoid H1[h.length+11]?=true:=by rw[eH1];exact isV_set (pl.isV (i:=11) (by decide)) (by omega)
   rw[←eH1]
   refine MX_alloc _ zv25f u9 ?_
   rw[show VObj.mv H1.length (h.length+9) (.cells (AV.agg zc).cells .live)=.cells zc .live from rfl]
   obtain ⟨H2,eH2⟩:∃g,g=H1.set (h.length+9) (.cells zc .live):=⟨_,rfl⟩
   have hl2:H2.length=H0.length:=by rw[eH2];simp[hl1]
   have r8:H2[h.length+8]?=some (.cells zc .live):=by rw[eH2,List.getElem?_set_ne (by omega)];exact q8
   have r9:H2[h.length+9]?=some (.cells zc .live):=by rw[eH2];exact List.getElem?_set_self (by omega)
   have w10:isVoid H2[h.length+10]?=true:=by rw[eH2];exact isV_set u10 (by omega)
   have w11:isVoid H2[h.length+11]?=true:=by rw[eH2];exact isV_set u11 (by omega)
   rw[←eH2]
   refine MX_store (h.length+8) 0 (enc a) _ (by simp[go_sem]) (by simp[go_sem]) (st25zz a r8) (by omega) w10 ?_
   rw[mv_cellsT]
   have t9:(H2.set (h.length+8) (.cells (enc a).cells .live))[h.length+9]?=some (.cells zc .live):=by rw[List.getElem?_set_ne (by omega)];exact r9
   refine MX_store (h.length+9) 0 (enc b) _ (by simp[go_sem]) (by simp[go_sem]) (st25zz b t9) (by omega) (isV_set w11 (by omega)) ?_
   rw[mv_cellsT]
   refine ⟨?_,?_⟩
   ·unfold fpOk
    generalize hb:Region.before _=bb
    have hb1:(bb.getD 10 0).testBit 8=true:=by rw[←hb];kernel_rfl
    have hb2:(bb.getD 11 0).testBit 9=true:=by rw[←hb];kernel_rfl
    clear hb
    simp[lids,meet,List.range,List.range.loop]
    simp[Array.getD_eq_getD_getElem?] at hb1 hb2
    exact ⟨hb1,hb2⟩
   ·refine ⟨by simp[go_sem,g0],by simp[go_sem,g4],by simp[go_sem],by simp[go_sem],?_,List.getElem?_set_self (by simp[hl2];omega)⟩
    rw[List.getElem?_set_ne (by omega)];exact List.getElem?_set_self (by omega)
  ·rintro st' h' ⟨g0',g4',g5',g6',m5,m6⟩
   clear g0 g4 hln hN0 hix
   have sa':a.size≤400:=sa
   have sb':b.size≤400:=sb
   have hka:a.kids.length≤8:=node_kids (nodesE_node (nodes_zero va).1)
   have hkb:b.kids.length≤8:=node_kids (nodesE_node (nodes_zero vb).1)
   have hl6:=(List.getElem?_eq_some_iff.1 m6).1
   clear hx
   have cs:=call69 a b (by omega) (by omega)
   have ca:=call229 a b (by omega) (by omega)
   have la:=ld25h m5
   have lb:=ld25h m6
   simp[go_sem,g0',hsl1,g5',g6',la,lb,cs]
   by_cases q1:a.cmp b=0
   ·rw[if_pos q1] at hrun
    simp[go_sem,q1]
    exact ⟨n,by omega,ps,s,x1,x',hrun,hinv.skip,by simp[go_sem],by simp[go_sem,g4'],hx1' _⟩
   rw[if_neg q1] at hrun
   simp[go_sem,q1,g5',g6',la,lb,ca]
   cases q2:alikeU a b
   ·rw[q2,if_neg (by simp)] at hrun
    have cc:=call230 a b (by omega) (by omega)
    have hlaw:=chooseR_law a b
    obtain ⟨⟨X,Y,e1⟩,hX⟩:∃X,chooseR a b=X:=⟨_,rfl⟩
    rw[hX] at cc hlaw
    have s1:storeV C.P (h'++[.cells zc .live,.cells zc .live]) 25 (.ptr h'.length 0) (enc X)=some (h'++[.cells (enc X).cells .live,.cells zc .live]):=by
     rw[st25zz X (by simp)];simp
    have s2:storeV C.P (h'++[.cells (enc X).cells .live,.cells zc .live]) 25 (.ptr (h'.length+1) 0) (enc Y)=some (h'++[.cells (enc X).cells .live,.cells (enc Y).cells .live]):=by
     rw[st25zz Y (by simp)];simp
    have l1:loadV C.P (h'++[.cells (enc X).cells .live,.cells (enc Y).cells .live]) 25 (.ptr h'.length 0)=some (enc X):=ld25h (by simp)
    have l2:loadV C.P (h'++[.cells (enc X).cells .live,.cells (enc Y).cells .live]) 25 (.ptr (h'.length+1) 0)=some (enc Y):=ld25h (by simp)
    simp[go_sem,g5',g6',la,lb,cc,zv25f,s1,s2]
    generalize hcu:chooseU a b=cu at hrun hlaw
    cases cu with
    | bad e2=>
     obtain ⟨rfl,hne⟩:=hlaw
     simp only[Option.some.injEq,Prod.mk.injEq] at hrun
     simp[go_sem,hne]
     exact fin _ _ _ [] e1 (by simp[go_sem];rfl) (by simp[go_sem]) hrun.1 hrun.2 _ (.inr rfl)
    | ok x2 y2=>
     simp only[Prod.mk.injEq] at hlaw
     obtain ⟨rfl,rfl,rfl⟩:=hlaw
     have hab:a≠b:=fun q=>q1 (by rw[q];exact cmp_refl b)
     have hxy:=(choose_ok va vb hab hcu).2.2
     have hX4:X.size≤400:=by rcases hxy with ⟨p,_⟩ | ⟨p,_⟩<;>rw[p]<;>assumption
     have hY4:Y.size≤400:=by rcases hxy with ⟨_,p⟩ | ⟨_,p⟩<;>rw[p]<;>assumption
     have hle:=hinv.skip.le
     have cb:=call231 X Y ps s x1 x' hX4 hY4 hle.1 hle.2 (by omega) (by omega)
     dsimp only at hrun
     simp[go_sem,l1,l2,g4',cb]
     cases q3:okU X Y ps s
     ·rw[q3,if_neg (by simp)] at hrun
      simp only[Option.some.injEq,Prod.mk.injEq] at hrun
      simp[go_sem]
      exact fin _ _ _ [] 3 (by simp[go_sem];rfl) (by simp[go_sem]) hrun.1 hrun.2 _ (.inr rfl)
     ·rw[q3,if_pos rfl] at hrun
      simp[go_sem]
      exact ⟨n,by omega,putP X Y ps,insO (X,Y) (putS X Y s),.unk,.unk,hrun,(hinv.bind hab hcu q3).1.perm (insO_perm _ _).symm,by simp[go_sem];rfl,by simp[go_sem];rfl,fun t ht=>by cases ht⟩
   ·rw[q2,if_pos rfl] at hrun
    have hkk:a.kids.length=b.kids.length:=by
     simp only[alikeU,Bool.and_eq_true,decide_eq_true_eq] at q2
     exact q2.2
    have hzl:(zipU a b).length=a.kids.length:=by simp[zipU,hkk]
    simp[go_sem]
    refine W_loop (NJ169 a b (h.length+8) (h.length+9) ps s x1 x') a.kids.length ⟨0,.isl [] (.tok h'.length),rfl,Nat.zero_le _,ga m5,ga m6,by simp[go_sem],by simp[go_sem,g4'],by simp[go_sem,g5'],by simp[go_sem,g6'],by simp[go_sem],by simp[go_sem],.inr ⟨h'.length,rfl,by simp⟩⟩ ?_
    generalize h.length+8=i5
    generalize h.length+9=i6
    clear g6' g5' g4' g0' la lb m5 m6 hl6 st' h'
    rintro m st h ⟨k,v,rfl,hk,m5,m6,g0,g4,g5,g6,g7,g8,go⟩
    have l5:=ld23b m5
    have l6:=ld23b m6
    by_cases hlt:k<a.kids.length
    ·have hlt':(k:Int)<a.kids.length:=by omega
     have hix:=idx23t a.kids k hlt
     have hiy:=idx23t b.kids k (by omega)
     have w2:IntKind.i64.wrap ((k:Int)+1)=((k+1:Nat):Int):=by rw[wrap_in (by omega)];omega
     obtain ⟨v',h2,hap,ho,hkp,hid⟩:=append203 (ys:=[(a.kids[k],b.kids[k])]) (x:=.full) go (by simp only[List.length_take,List.length_cons,List.length_nil];omega)
     have etk:(zipU a b).take k++[(a.kids[k],b.kids[k])]=(zipU a b).take (k+1):=by
      rw[←List.take_append_getElem (by omega:k<(zipU a b).length)];simp[zipU]
     rw[etk] at ho
     simp only[List.map_cons,List.map_nil] at hap
     simp[go_sem,g5,g8,l5,hlt',len23t]
     refine W_regionS 11 _ (by simp[mixC]) rfl ?_
     simp[go_sem,g5,g6,g7,g8,l5,l6,hix,hiy,ld25,bld205,nt_B,build203_1,hap,-Int.natCast_add,w2]
     refine ⟨?_,a.kids.length-(k+1),by omega,k+1,v',rfl,hlt,hkp.get m5 (own_not go m5),hkp.get m6 (own_not go m6),by simp[go_sem,g0],by simp[go_sem,g4],by simp[go_sem,g5],by simp[go_sem,g6],by simp[go_sem],by simp[go_sem],ho⟩
     have hn5:=own_not go m5
     have hn6:=own_not go m6
     rcases go with rfl | ⟨id,rfl,hd⟩
     ·simp[go_sem,idsOk,ldIds,apIds,ldId,appId,mslId]
     ·simp only[idOf,ne_eq,Option.some.injEq] at hn5 hn6
      simp[go_sem,idsOk,ldIds,apIds,ldId,appId,mslId]
      (try omega)
    ·have:k=a.kids.length:=by omega
     subst this
     rw[List.take_of_length_le (by omega)] at go
     obtain ⟨v',h2,hap,ho,hkp,hid⟩:=append203 (ys:=ps) (x:=x1) go (by omega)
     obtain ⟨xx,rfl,hxx⟩:=own_ext ho
     simp[go_sem,g5,g8,l5,len23t,g7,g0,hap]
     exact ⟨n,by omega,zipU a b++ps,s,xx,x',hrun,hinv.kids,by simp[go_sem],by simp[go_sem,g4],hxx⟩
end Go.VZ

/- Two rows of terms unified: the run, and the reference's way walked. -/
namespace Go.VZ
open Go Go.V Go.Proofs TL
theorem call169 (ps r:List (T × T)) (e:Int) (x:Ext) (h:H) (hs:CallP C 169 [binds ps]=some (.tuple [binds r,.int .i64 e])):callV C h (.func 169 []) (some [.isl (ps.map encB) x])=some (.tuple [binds r,.int .i64 e],h):=
 callV_strip (by kernel_rfl) rfl (args':=[binds ps]) rfl (by simp[short]) (by simp) hs
def NA109 (l m:List T) (d:Nat) (st:PT) (_h:H):Prop:=∃(k:Nat) (x:Ext),d=(l++m).length-k∧k≤(l++m).length∧st.get 0=terms l∧st.get 1=terms m∧st.get 6=.isl ((l++m).map enc) x∧st.get 7=.int .i64 k
def NB109 (l m:List T) (d:Nat) (st:PT) (h:H):Prop:=∃(k:Nat) (v:AV),d=l.length-k∧k≤l.length∧st.get 0=terms l∧st.get 1=terms m∧st.get 9=v∧st.get 10=.int .i64 k∧OwnR 205 h v (((l.zip m).take k).map encB)
set_option maxRecDepth 8000 in
set_option maxHeartbeats 8000000 in
theorem lists109 (l m:List T) (hvl:∀t∈l,validE t=0) (hvm:∀t∈m,validE t=0) (hlm:l.length=m.length) (hl8:l.length≤8) (r:List (T × T)) (e:Int)
  (hs:CallP C 169 [binds (l.zip m)]=some (.tuple [binds r,.int .i64 e])):CallP C 109 [terms l,terms m]=some (.tuple [binds r,.int .i64 e]):=by
 refine CallP_W rfl Tryz.func109 rfl (by kernel_rfl) (by simp[Tryz.f109]) fun R hR=>?_
 have hll:=len23t l
 have hlm':=len23t m
 rw[←hlm] at hlm'
 have q1:¬(200:Int)<l.length:=by omega
 have q1':¬200<l.length:=by omega
 obtain ⟨v1,h1,ha1,ho1,hk1,_⟩:=append23 (h:=[.tok 0 86]) (v:=.isl [] .full) (xs:=[]) (ys:=l) (x:=.unk) (.inl rfl) (by simp;omega)
 obtain ⟨v2,h2,ha2,ho2,hk2,_⟩:=append23 (ys:=m) (x:=.unk) ho1 (by simp;omega)
 rw[List.nil_append] at ho2
 obtain ⟨x2,rfl,_⟩:=own_ext ho2
 have ha1':appendW C.P false [.tok 0 86] 23 (.isl [] .full) (terms l)=some (v1,h1):=ha1
 have ha2':appendW C.P false h1 23 v1 (terms m)=some (.isl ((l++m).map enc) x2,h2):=ha2
 simp[go_sem,hll,hlm',q1,build23_0,ha1',ha2']
 refine W_loop (NA109 l m) (l++m).length ⟨0,x2,by simp,by simp,by simp[go_sem],by simp[go_sem],by simp[go_sem],by simp[go_sem]⟩ ?_
 clear ha1 ha2 ha1' ha2' ho1 ho2 hk1 hk2
 rintro d st h ⟨k,x,rfl,hk,g0,g1,g6,g7⟩
 have hla:lenV C.P 23 (.isl ((l++m).map enc) x)=some (.int .i64 (l++m).length):=by rw[len23];simp
 by_cases hlt:k<(l++m).length
 ·have hix:=idx23 (l++m) k hlt x
  have hva:validE (l++m)[k]=0:=by
   rcases List.mem_append.1 (List.getElem_mem hlt) with q | q
   ·exact hvl _ q
   ·exact hvm _ q
  have cv:=call86 (l++m)[k] (by have:=(nodes_zero hva).2.1;omega)
  have hkl:k<16:=by rw[List.length_append] at hlt;omega
  have w2:IntKind.i64.wrap ((k:Int)+1)=((k+1:Nat):Int):=by rw[wrap_in (by omega)];omega
  generalize (l++m)[k]=t at hix hva cv
  generalize hN:(l++m).length=N at hla hlt
  generalize hE:(l++m).map enc=E at hla hix g6
  have hlt':(k:Int)<N:=by omega
  rw[hva] at cv
  simp[go_sem,g6,g7,hla,hlt',hix,ld25,cv,-Int.natCast_add,w2]
  exact ⟨N-(k+1),by omega,k+1,x,by rw[hN],by omega,by simp[go_sem,g0],by simp[go_sem,g1],by simp[go_sem,g6,hE],by simp[go_sem]⟩
 ·have hN':k=(l++m).length:=by omega
  rw[←hN'] at hla
  generalize (l++m).map enc=E at hla g6
  simp[go_sem,g0,g1,g6,g7,hla,hll,hlm']
  refine W_loop (NB109 l m) l.length ⟨0,.isl [] (.tok h.length),by simp,by simp,by simp[go_sem,g0],by simp[go_sem,g1],by simp[go_sem],by simp[go_sem],.inr ⟨h.length,rfl,by simp⟩⟩ ?_
  clear hla hN' hlt hk g7 g6 g1 g0
  rintro d st h ⟨k,v,rfl,hk,g0,g1,g9,g10,go⟩
  have hzl:(l.zip m).length=l.length:=by simp[hlm]
  by_cases hlt:k<l.length
  ·have hlt':(k:Int)<l.length:=by omega
   have hix:=idx23t l k hlt
   have hiy:=idx23t m k (by omega)
   have w2:IntKind.i64.wrap ((k:Int)+1)=((k+1:Nat):Int):=by rw[wrap_in (by omega)];omega
   obtain ⟨v',h2,hap,ho,hkp,hid⟩:=append203 (ys:=[(l[k],m[k])]) (x:=.full) go (by simp only[List.length_take,List.length_cons,List.length_nil];omega)
   have etk:(l.zip m).take k++[(l[k],m[k])]=(l.zip m).take (k+1):=by
    rw[←List.take_append_getElem (by omega:k<(l.zip m).length)];simp
   rw[etk] at ho
   simp only[List.map_cons,List.map_nil] at hap
   simp[go_sem,g0,g10,hll,hlt']
   refine W_regionS 16 _ (by simp[mixC]) rfl ?_
   simp[go_sem,g0,g1,g9,g10,hix,hiy,ld25,bld205,nt_B,build203_1,hap,-Int.natCast_add,w2]
   refine ⟨?_,l.length-(k+1),by omega,k+1,v',rfl,hlt,by simp[go_sem,g0],by simp[go_sem,g1],by simp[go_sem],by simp[go_sem],ho⟩
   rcases go with rfl | ⟨id,rfl,hd⟩
   ·simp[go_sem,idsOk,ldIds,apIds,ldId,appId,mslId]
   ·simp[go_sem,idsOk,ldIds,apIds,ldId,appId,mslId]
  ·have:k=l.length:=by omega
   subst this
   rw[List.take_of_length_le (by omega)] at go
   obtain ⟨xx,rfl,hxx⟩:=own_ext go
   have cs:=fun h=>call169 (l.zip m) r e xx h hs
   simp[go_sem,g0,g10,hll,g9,cs]
   exact hR _ _ _ (.inr rfl) ⟨.tuple [binds r,.int .i64 e],by simp[resultV,resVs,resV,Tryz.f109,go_sem,binds],snap_tuple rfl rfl (by simp)⟩
end Go.VZ

/- Two rows of terms: the run of their unification, the two orders. -/
namespace Go.VZ
open Go Go.V Go.Proofs TL
theorem mem_walks {u t:T}:∀ {l:List T},t∈l→u∈walkT single t→u∈walkTs single l
 | [],h,_=>by simp at h
 | a::l,h,hu=>by
  rw[walkTs,List.mem_append]
  rcases List.mem_cons.1 h with rfl | h
  ·exact .inl hu
  ·exact .inr (mem_walks h hu)
def varsU (l:List T):List T:=(walkTs single l).filter fun t=>decide (t.kind=1)
theorem invU_start {l m:List T}(hvl:∀t∈l,validE t=0) (hvm:∀t∈m,validE t=0):InvU (varsU (l++m)) (l.length+400*(varsU (l++m)).length) (l.zip m) []:=by
 have hz:∀p∈l.zip m,p.1∈l∧p.2∈m:=fun p hp=>⟨(List.of_mem_zip hp).1,(List.of_mem_zip hp).2⟩
 have hc:=cntU_len (varsU (l++m)) (l.zip m)
 refine ⟨fun p hp=>⟨hvl _ (hz p hp).1,hvm _ (hz p hp).2⟩,fun p hp u hu h=>?_,fun u hu=>?_,fun b hb=>by simp at hb,fun b hb=>by simp at hb,.nil,⟨[],l.zip m,rfl,by simp,?_⟩,by simpa using hc⟩
 ·refine List.mem_filter.2 ⟨?_,by simpa using hu⟩
  rcases h with h | h
  ·exact mem_walks (List.mem_append_left _ (hz p hp).1) h
  ·exact mem_walks (List.mem_append_right _ (hz p hp).2) h
 ·simpa using (List.mem_filter.1 hu).2
 ·have:=Nat.mul_le_mul_left 400 hc
  rw[List.length_zip];omega
end Go.VZ

/- The program's put of a term for a variable: walked. -/
namespace Go.VZ
open Go Go.V Go.Proofs TL
def NI348 (x y t:T) (q:Nat) (h0:H) (m:Nat) (st:PT) (h:H):Prop:=∃k:Nat,m=t.kids.length-k∧k≤t.kids.length∧Pre h0 h∧h0.length+3≤h.length∧h[h0.length]?=some (.cells (enc t).cells .live)∧h[h0.length+1]?=some (.cells zc .live)∧h[h0.length+2]?=some (.cells (cellsT ((t.kids.take k).map (putK x y))++zs (t.kids.length-k)) .live) ∧
 st.get 0=.mp q∧st.get 3=.ptr h0.length 0∧st.get 4=.ptr (h0.length+1) 0∧st.get 7=.msl (h0.length+2) 0 4 t.kids.length (some t.kids.length)∧st.get 32=terms t.kids∧st.get 33=.int .i64 t.kids.length∧st.get 34=.int .i64 k
theorem fromPre {h0 h:H}(p:Pre h0 h){i:Nat}{cs:List AV}(hi:h0.length≤i) (e:h[i]?=some (.cells cs .live)):∃g,h=h0++g∧(h0++freezeAll g)[i]?=some (.cells cs .frozen):=by
 obtain ⟨g,rfl⟩:=p
 refine ⟨g,rfl,?_⟩
 rw[List.getElem?_append_right hi] at e ⊢
 rw[freezeAll_get,e]
theorem stzz {h:H}{i:Nat}(hi:h[i]?=some (.cells zc .live)):storeV C.P h 25 (.ptr i 0) (.agg zc)=some h:=by
 have h2:h.set i (.cells zc .live)=h:=by
  refine List.ext_getElem? fun j=>?_
  rw[List.getElem?_set]
  split
  ·rename_i e;subst e
   split
   ·exact hi.symm
   ·rename_i q;rw[List.getElem?_eq_none (by omega)]
  ·rfl
 have:storeV C.P h 25 (.ptr i 0) (.agg zc)=some (h.set i (.cells zc .live)):=by simp[storeV,hi,s25,zc]
 rw[this,h2]
set_option maxRecDepth 8000 in
set_option maxHeartbeats 8000000 in
theorem put348 (x y t:T) (ht:t.size≤20000) (hc:∀k∈t.kids,∀(h:H) (q:Nat),MapIs h q x y→∃g,callV C h (.func 348 []) (some [.mp q,enc k])=some (enc (putK x y k),h++g)) (h0:H) (q:Nat) (hq:MapIs h0 q x y) :
  ∃g,callV C h0 (.func 348 []) (some [.mp q,enc t])=some (enc (putK x y t),h0++g):=by
 suffices hh:∃r h',Go.V.Call C 348 [.mp q,enc t] h0=some (r,h')∧∃g,h'=h0++g∧snap (h0++freezeAll g) deep r=some (enc (putK x y t)) by
  obtain ⟨r,h',a,g,rfl,b⟩:=hh
  exact ⟨freezeAll g,callV_F (by kernel_rfl) rfl a b⟩
 refine Call_WQ rfl Tryz.func348 rfl (by kernel_rfl) (by simp[Tryz.f348]) fun R hR=>?_
 have hsz:=size_kids t
 have hlen:=len_sizes t.kids
 have hln:=len23t t.kids
 have hpe:=putK_eq x y t
 have dat:∀(st:PT) (h:H) (u:T),st.get 4=.ptr (h0.length+1) 0→h[h0.length+1]?=some (.cells (enc u).cells .live)→Pre h0 h→u=putK x y t→∀e,(e=.normal∨e=.ret)→R e st h:=fun st h u g4 m1 hp hu e he=>by
  refine hR _ _ _ he ⟨enc u,by simp[resultV,resV,Tryz.f348,g4,ld25h m1],?_⟩
  obtain ⟨g,rfl⟩:=hp
  exact ⟨g,rfl,by rw[←hu];exact snap_dat (dat_enc' u) (short_enc u)⟩
 obtain ⟨h1,eh1⟩:∃g:H,g=h0++[.cells (enc t).cells .live,.cells zc .live]:=⟨_,rfl⟩
 have p1:Pre h0 h1:=⟨_,eh1⟩
 have hl1:h1.length=h0.length+2:=by rw[eh1];simp
 have m0:h1[h0.length]?=some (.cells (enc t).cells .live):=by rw[eh1];simp
 have m1:h1[h0.length+1]?=some (.cells zc .live):=by rw[eh1];simp
 have l0:=ld25h m0
 have lk:=ld23b m0
 have c1:=call320 t
 have c2:=call346 t
 have lq:=lk353 (h:=h1) t (show MapIs h1 q x y from p1.get hq)
 have z25c:=zv25
 have s1:=st25zz t m1
 have hlt1:=(List.getElem?_eq_some_iff.1 m1).1
 rw[eh1] at l0 lk lq s1
 by_cases k1:t.kind=1
 ·have hv:isVr t=true:=by simp[isVr,k1]
  rw[if_pos k1] at hpe
  rw[hv] at c1
  by_cases k2:t.name=x.name∧t.sort=x.sort
  ·rw[if_pos k2] at hpe lq
   have t1:storeV C.P (h0++[.cells (enc t).cells .live,.cells zc .live,.cells zc .live]) 25 (.ptr (h0.length+2) 0) (enc y)=some (h0++[.cells (enc t).cells .live,.cells zc .live,.cells (enc y).cells .live]):=by
    rw[st25zz y (by simp)];simp
   have t2:loadV C.P (h0++[.cells (enc t).cells .live,.cells zc .live,.cells (enc y).cells .live]) 25 (.ptr (h0.length+2) 0)=some (enc y):=ld25h (by simp)
   have t3:storeV C.P (h0++[.cells (enc t).cells .live,.cells zc .live,.cells (enc y).cells .live]) 25 (.ptr (h0.length+1) 0) (enc y)=some (h0++[.cells (enc t).cells .live,.cells (enc y).cells .live,.cells (enc y).cells .live]):=by
    rw[st25zz y (by simp)];simp
   simp[go_sem,initS,box25f,zv25f,cells_agg,l0,c1,c2,lq,t1,t2,t3]
   exact dat _ _ y (by simp[go_sem]) (by simp) ⟨_,rfl⟩ hpe.symm _ (.inr rfl)
  ·rw[if_neg k2] at hpe lq
   have t1:storeV C.P (h0++[.cells (enc t).cells .live,.cells zc .live,.cells zc .live]) 25 (.ptr (h0.length+2) 0) (.agg zc)=some (h0++[.cells (enc t).cells .live,.cells zc .live,.cells zc .live]):=stzz (by simp)
   have t2:loadV C.P (h0++[.cells (enc t).cells .live,.cells zc .live,.cells zc .live]) 25 (.ptr h0.length 0)=some (enc t):=ld25h (by simp)
   have t3:storeV C.P (h0++[.cells (enc t).cells .live,.cells zc .live,.cells zc .live]) 25 (.ptr (h0.length+1) 0) (enc t)=some (h0++[.cells (enc t).cells .live,.cells (enc t).cells .live,.cells zc .live]):=by
    rw[st25zz t (by simp)];simp
   simp[go_sem,initS,box25f,zv25f,cells_agg,l0,c1,c2,lq,t1,t2,t3]
   exact dat _ _ t (by simp[go_sem]) (by simp) ⟨_,rfl⟩ hpe.symm _ (.inr rfl)
 ·have hv:isVr t=false:=by simp[isVr,k1]
  rw[if_neg k1] at hpe
  rw[hv] at c1
  by_cases k3:t.kids.length=0
  ·have e0:t.kids=[]:=List.eq_nil_of_length_eq_zero k3
   have t3:storeV C.P (h0++[.cells (enc t).cells .live,.cells zc .live]) 25 (.ptr (h0.length+1) 0) (enc t)=some (h0++[.cells (enc t).cells .live,.cells (enc t).cells .live]):=by
    rw[st25zz t (by simp)];simp
   have hpe':t=putK x y t:=by rw[hpe,e0];exact T.ext rfl rfl rfl e0
   rw[k3] at hln
   simp[go_sem,initS,box25f,zv25f,cells_agg,l0,lk,c1,hln,t3]
   exact dat _ _ t (by simp[go_sem]) (by simp) ⟨_,rfl⟩ hpe' _ (.inr rfl)
  obtain ⟨N,hN⟩:∃N,N=t.kids.length:=⟨_,rfl⟩
  have k4:¬N=0:=by omega
  have k4':¬(N:Int)=0:=by omega
  rw[←hN] at hln
  have mk:=mk23 false (h0++[.cells (enc t).cells .live,.cells zc .live]) N (by omega) (by omega)
  have l2:loadV C.P (h0++[.cells (enc t).cells .live,.cells zc .live,.cells (zs N) .live]) 23 (.ptr h0.length 3)=some (terms t.kids):=ld23b (by simp)
  simp[go_sem,box25f,zv25f,cells_agg,l0,lk,c1,hln,k4,mk,l2]
  refine W_loop (NI348 x y t q h0) N ⟨0,by omega,by omega,⟨_,rfl⟩,by simp,by simp,by simp,by simp[cellsT,hN],by simp[go_sem],by simp[go_sem],by simp[go_sem],by simp[go_sem,hN],by simp[go_sem],by simp[go_sem,hN],by simp[go_sem]⟩ ?_
  clear mk l2 l0 lk lq s1 z25c hlt1 m0 m1 hl1 p1 eh1 h1 k4 k4' k3
  rintro m st h ⟨k,rfl,hk,pre,hl3,m0,m1,m2,g0,g3,g4,g7,g32,g33,g34⟩
  by_cases hlt:k<t.kids.length
  ·have hlt':(k:Int)<t.kids.length:=by omega
   have hix:=idx23t t.kids k hlt
   have w2:IntKind.i64.wrap ((k:Int)+1)=((k+1:Nat):Int):=by rw[wrap_in (by omega)];omega
   have t1:storeV C.P (h++[.cells zc .live]) 25 (.ptr h.length 0) (enc t.kids[k])=some (h++[.cells (enc t.kids[k]).cells .live]):=by
    rw[st25zz _ (by simp)];simp
   have t2:loadV C.P (h++[.cells (enc t.kids[k]).cells .live]) 25 (.ptr h.length 0)=some (enc t.kids[k]):=ld25h (by simp)
   obtain ⟨g,hg⟩:=hc _ (List.getElem_mem hlt) (h++[.cells (enc t.kids[k]).cells .live]) q ((pre.trans ⟨_,rfl⟩).get hq)
   obtain ⟨h2,eh2⟩:∃h2,h2=h++[.cells (enc t.kids[k]).cells .live]++g:=⟨_,rfl⟩
   rw[←eh2] at hg
   have kp:∀ {j:Nat}{o:VObj},h[j]?=some o→h2[j]?=some o:=fun {j o} hj=>by rw[eh2];exact ga (ga hj)
   have hr:zs (t.kids.length-k)=zc++zs (t.kids.length-(k+1)):=by rw[show t.kids.length-k=(t.kids.length-(k+1))+1 by omega,zs_succ]
   rw[hr] at m2
   have tk:((t.kids.take k).map (putK x y)).length=k:=by simp;omega
   have t3:=stZ (putK x y t.kids[k]) (kp m2)
   rw[tk] at t3
   have etk:(t.kids.take k).map (putK x y)++[putK x y t.kids[k]]=(t.kids.take (k+1)).map (putK x y):=by
    rw[←List.take_append_getElem hlt,List.map_append];rfl
   rw[etk] at t3
   have hiz:=idxZ (id:=h0.length+2) (c:=some t.kids.length) hlt
   simp[go_sem,g0,g7,g32,g33,g34,hlt',hix,ld25,zv25f,cells_agg,t1,t2,hg,hiz,t3,-Int.natCast_add,w2]
   have hl2:h.length≤h2.length:=by rw[eh2];simp
   have pre2:Pre h0 h2:=by rw[eh2];exact (pre.app _).app _
   exact ⟨t.kids.length-(k+1),by omega,k+1,rfl,hlt,pre2.set (by omega) _,by simp;omega,by rw[List.getElem?_set_ne (by omega)];exact kp m0,by rw[List.getElem?_set_ne (by omega)];exact kp m1,by rw[List.getElem?_set_self (by omega),List.map_take],by simp[go_sem,g0],by simp[go_sem,g3],by simp[go_sem,g4],by simp[go_sem,g7],by simp[go_sem,g32],by simp[go_sem,g33],by simp[go_sem]⟩
  ·have:k=t.kids.length:=by omega
   subst this
   rw[List.take_length,Nat.sub_self,show zs 0=[] from rfl,List.append_nil] at m2
   have tk:(t.kids.map (putK x y)).length=t.kids.length:=by simp
   obtain ⟨v,ev⟩:∃v,v=AV.msl (h0.length+2) 0 4 t.kids.length (some t.kids.length):=⟨_,rfl⟩
   have hv1:notTuple v=true:=by rw[ev];rfl
   rw[←ev] at g7
   have hl0:h0.length<h.length:=by omega
   have hst:storeV C.P h 23 (.ptr h0.length 3) v=some (h.set h0.length (.cells [.int .i64 t.kind,.str t.name,.int .i64 t.sort,v] .live)):=by
    rw[enc_cells] at m0
    rw[ev];simp[storeV,m0,s23]
   obtain ⟨h2,eh2⟩:∃h2,h2=h.set h0.length (.cells [.int .i64 t.kind,.str t.name,.int .i64 t.sort,v] .live):=⟨_,rfl⟩
   rw[←eh2] at hst
   have hlen2:h2.length=h.length:=by rw[eh2];simp
   have n0:h2[h0.length]?=some (.cells [.int .i64 t.kind,.str t.name,.int .i64 t.sort,v] .live):=by rw[eh2];exact List.getElem?_set_self hl0
   have n1:h2[h0.length+1]?=some (.cells zc .live):=by rw[eh2,List.getElem?_set_ne (by omega)];exact m1
   have n2:h2[h0.length+2]?=some (.cells (cellsT (t.kids.map (putK x y))) .live):=by rw[eh2,List.getElem?_set_ne (by omega)];exact m2
   have pre2:Pre h0 h2:=by rw[eh2];exact pre.set (Nat.le_refl _) _
   have e5:loadV C.P h2 25 (.ptr h0.length 0)=some (.agg [.int .i64 t.kind,.str t.name,.int .i64 t.sort,v]):=by simp[loadV,n0,cellsAt,a25,s25]
   have e6:storeV C.P h2 25 (.ptr (h0.length+1) 0) (.agg [.int .i64 t.kind,.str t.name,.int .i64 t.sort,v])=some (h2.set (h0.length+1) (.cells [.int .i64 t.kind,.str t.name,.int .i64 t.sort,v] .live)):=by simp[storeV,n1,s25,zc]
   have e7:loadV C.P (h2.set (h0.length+1) (.cells [.int .i64 t.kind,.str t.name,.int .i64 t.sort,v] .live)) 25 (.ptr (h0.length+1) 0)=some (.agg [.int .i64 t.kind,.str t.name,.int .i64 t.sort,v]):=by
    simp[loadV,List.getElem?_set_self (show h0.length+1<h2.length by omega),cellsAt,a25,s25]
   simp[go_sem,g3,g4,g7,g33,g34,hst,e5,e6]
   refine hR _ _ _ (.inr rfl) ⟨.agg [.int .i64 t.kind,.str t.name,.int .i64 t.sort,v],by simp[resultV,resV,Tryz.f348,go_sem,g4,e7],?_⟩
   obtain ⟨g,eg,hg⟩:=fromPre (pre2.set (i:=h0.length+1) (by omega) (.cells [.int .i64 t.kind,.str t.name,.int .i64 t.sort,v] .live)) (i:=h0.length+2) (by omega) (by rw[List.getElem?_set_ne (by omega)];exact n2)
   refine ⟨g,eg,?_⟩
   have hsn:=snapF (cap:=some t.kids.length) hg (by rw[tk];omega) t.kind t.sort t.name
   rw[tk,←ev] at hsn
   rw[hsn,hpe,enc_eq];rfl
theorem put348_all (x y:T):∀t:T,t.size≤20000→∀(h:H) (q:Nat),MapIs h q x y→∃g,callV C h (.func 348 []) (some [.mp q,enc t])=some (enc (putK x y t),h++g):=by
 refine T.ind fun t ih ht h q hq=>put348 x y t ht (fun k hk h q hq=>ih k hk ?_ h q hq) h q hq
 have:=kid_size hk
 omega
end Go.VZ

/- The program's change of a term in a row: walked. -/
namespace Go.VZ
open Go Go.V Go.Proofs TL
theorem ld353 {h:H}{pb q:Nat}(hpb:h[pb]?=some (.cells [.mp q] .live)):loadV C.P h 353 (.ptr pb 0)=some (.mp q):=by
 have s353:sizeV C.P 353=some 1:=by kernel_rfl
 have a353:isAggB C.P 353=some false:=by kernel_rfl
 simp[loadV,hpb,cellsAt,a353,s353]
theorem ld4p {h:H}{p:Nat}{b:Bool}(hp:h[p]?=some (.cells [.bool b] .live)):loadV C.P h 4 (.ptr p 0)=some (.bool b):=by
 have s4:sizeV C.P 4=some 1:=by kernel_rfl
 have a4:isAggB C.P 4=some false:=by kernel_rfl
 simp[loadV,hp,cellsAt,a4,s4]
theorem st4p {h:H}{p:Nat}{b:Bool}(c:Bool) (hp:h[p]?=some (.cells [.bool b] .live)):storeV C.P h 4 (.ptr p 0) (.bool c)=some (h.set p (.cells [.bool c] .live)):=by
 have s4:sizeV C.P 4=some 1:=by kernel_rfl
 simp[storeV,hp,s4]
theorem ldAB {h:H}{i:Nat}{A B:List AV}{t:T}(hi:h[i]?=some (.cells (A++(enc t).cells++B) .live)):loadV C.P h 25 (.ptr i A.length)=some (enc t):=by
 have e5:(enc t).cells.length=4:=by rw[enc_cells];rfl
 have ev:AV.agg (enc t).cells=enc t:=by rw[enc_cells,enc_eq]
 have a1:((A++(enc t).cells++B).drop A.length).take 4=(enc t).cells:=by
  rw[List.append_assoc,List.drop_left,List.take_append_of_le_length (by omega),List.take_of_length_le (by omega)]
 have a2:A.length+4≤(A++(enc t).cells++B).length:=by simp only[List.length_append,e5];omega
 rw[←ev]
 generalize (enc t).cells=cc at *
 generalize A++cc++B=D at *
 simp[loadV,hi,cellsAt,a25,s25,a1,a2]
theorem stAB {h:H}{i:Nat}{A B:List AV}{t:T}(u:T) (hi:h[i]?=some (.cells (A++(enc t).cells++B) .live)):storeV C.P h 25 (.ptr i A.length) (enc u)=some (h.set i (.cells (A++(enc u).cells++B) .live)):=by
 have e5:(enc t).cells.length=4:=by rw[enc_cells];rfl
 have e6:(enc u).cells.length=4:=by rw[enc_cells];rfl
 have ev:enc u=.agg (enc u).cells:=by rw[enc_cells,enc_eq]
 have a1:(A++(enc t).cells++B).take A.length=A:=by rw[List.append_assoc,List.take_left]
 have a2:(A++(enc t).cells++B).drop (A.length+4)=B:=List.drop_left' (by simp only[List.length_append,e5])
 have a3:A.length+4≤(A++(enc t).cells++B).length:=by simp only[List.length_append,e5];omega
 generalize hcc:(enc u).cells=cc at *
 generalize A++(enc t).cells++B=D at *
 rw[ev]
 simp only[storeV,hi,s25]
 rw[if_pos ⟨e6,a3⟩,a1,a2,List.append_assoc]
set_option maxRecDepth 8000 in
set_option maxHeartbeats 8000000 in
theorem change347 (x y t:T) (b:Bool) (h0:H) (q pb pr i:Nat) (A B:List AV) (hpb:h0[pb]?=some (.cells [.mp q] .live)) (hpr:h0[pr]?=some (.cells [.bool b] .live)) (hi:h0[i]?=some (.cells (A++(enc t).cells++B) .live)) (hq:MapIs h0 q x y) (ht:t.size≤20000) (hu:(putK x y t).size<4000000) (_hip:i≠pb) (hir:i≠pr) :
  ∃g,Go.V.Call C 347 [.ptr i A.length,.ptr pb 0,.ptr pr 0] h0=some (.tuple [],((h0++g).set i (.cells (A++(enc (putK x y t)).cells++B) .live)).set pr (.cells [.bool (b&&decide (validE (putK x y t)=0))] .live)):=by
 obtain ⟨g,hg⟩:=put348_all x y t ht h0 q hq
 refine ⟨g,?_⟩
 refine Call_W rfl Tryz.func347 rfl (by kernel_rfl) (by simp[Tryz.f347]) fun R hR=>?_
 have l1:=ld353 hpb
 have l2:=ldAB hi
 have s1:=stAB (putK x y t) (show (h0++g)[i]?=_ from ga hi)
 obtain ⟨h1,e1⟩:∃h1,h1=(h0++g).set i (.cells (A++(enc (putK x y t)).cells++B) .live):=⟨_,rfl⟩
 have hli:i<(h0++g).length:=(List.getElem?_eq_some_iff.1 (show (h0++g)[i]?=_ from ga hi)).1
 have m1:h1[i]?=some (.cells (A++(enc (putK x y t)).cells++B) .live):=by rw[e1];exact List.getElem?_set_self hli
 have m2:h1[pr]?=some (.cells [.bool b] .live):=by rw[e1,List.getElem?_set_ne hir];exact ga hpr
 rw[←e1] at s1
 rw[←e1] at hR
 have l3:=ldAB m1
 have l4:=ld4p m2
 have c1:=call111 (putK x y t) hu
 have s2:=fun c=>st4p c m2
 cases b<;>by_cases k:validE (putK x y t)=0<;>
 ·simp[go_sem,initS,l1,l2,hg,s1,l3,l4,c1,s2,k]
  exact hR _ _ _ (.inl rfl) ⟨.tuple [],by simp[resultV,resVs,Tryz.f347],by simp[k]⟩
theorem callc_open {f:FuncId}{caps args:List AV}{h:H}(hb:hasBody C.P f=true) (hm:C.mode f=.openH):callV C h (.func f caps) (some args)=Go.V.Call C f (args++caps) h:=by
 simp[callV,hb,applyCall,hm,Go.V.Call]
end Go.VZ

/- Maps made and filled in mixed regions; the binding of the program: its first part. -/
namespace Go.V
open Go
section
variable {C:Cfg}{cf:FuncId}{ops:Array Oper}{base:Nat}{K:PT→H→List FP→Prop}{i:Nat}{l:List Oper}{s:PT}{h:H}{F:List FP}
theorem MX_makeMap {d:Tmp}{t ty:TypeId}{p:String}{af:Array Edge}(hp:isVoid h[base+i]?=true)
  (hk:MX C cf ops base K (i+1) l (s.set d (.mp (base+i))) (h.set (base+i) (.map [])) (F++[([base+i],[base+i])])):MX C cf ops base K i (⟨some d,.makeMap t none,ty,p,af,none⟩::l) s h F:=by
 refine MX_push0 (.mp h.length) (.map []) rfl rfl ?_ hp ?_
 ·rw[opV_active rfl];simp only[opA]
 ·have:(AV.mp h.length).mv h.length (base+i)=.mp (base+i):=by simp[AV.mv]
  rw[this];exact hk
theorem MX_insert {t ty:TypeId}{m k x:Operand}{p:String}{af:Array Edge}(id:Nat) (a v:AV) (z:VObj) (hx:ev s m=some (.mp id)) (ha:ev s k=some a) (hv:ev s x=some v) (hs:mapUpdateV C.P h t (.mp id) a v=some (h.set id z)) (hn:id≠base+i) (hp:isVoid h[base+i]?=true)
  (hk:MX C cf ops base K (i+1) l (s) (h.set id (z.mv h.length (base+i))) (F++[([base+i,id],[base+i,id])])):MX C cf ops base K i (⟨none,.insert t m k x,ty,p,af,none⟩::l) s h F:=by
 refine ⟨AV.undef,h.set id (z.mv h.length (base+i)),([base+i,id],[base+i,id]),?_,hk⟩
 have hf:foot C s h ⟨none,.insert t m k x,ty,p,af,none⟩=some ([id],true):=by simp only[foot,active,if_true,hx,mpId]
 have ho:opV C (Call C) cf s h ⟨none,.insert t m k x,ty,p,af,none⟩=some (AV.undef,h.set id z):=by
  rw[opV_active rfl]
  simp only[opA,hx,ha,hv,hs]
 unfold mixStep
 rw[if_pos (by simp[Region.wanted]),hf,ho]
 dsimp only
 rw[if_pos ⟨by simp,by simpa using fun e=>hn e.symm,hp⟩,if_pos rfl,if_pos rfl,fin_store hn]
 rfl
end
end Go.V
namespace Go.VZ
open Go Go.V Go.Proofs TL
theorem zv353:zeroV C.P 353=some .nilmap:=by kernel_rfl
theorem st353 {h:H}{i q:Nat}{z:AV}(hi:h[i]?=some (.cells [z] .live)):storeV C.P h 353 (.ptr i 0) (.mp q)=some (h.set i (.cells [.mp q] .live)):=by
 have s353:sizeV C.P 353=some 1:=by kernel_rfl
 simp[storeV,hi,s353]
end Go.VZ

/- Rows of pairs in the program: their form, and their copy. -/
namespace Go.VZ
open Go Go.V Go.Proofs TL
theorem u248:C.P.underlying 248=some (.slice 250):=by kernel_rfl
theorem s250:sizeV C.P 250=some 8:=by kernel_rfl
theorem b250:bytesV C.P 250=some 112:=by kernel_rfl
theorem z250:zeroOk C.P 250=true:=by kernel_rfl
theorem is248:isSliceT C.P 248=some 250:=by kernel_rfl
attribute [go_sem] is248
theorem fa250_0 (i o:Nat):fieldAddrV C.P 250 (.ptr i o) 0=some (.ptr i o):=by kernel_rfl
theorem fa250_1 (i o:Nat):fieldAddrV C.P 250 (.ptr i o) 1=some (.ptr i (o+4)):=by kernel_rfl
theorem fa86_1p (i o:Nat):fieldAddrV C.P 86 (.ptr i o) 1=some (.ptr i (o+4)):=by kernel_rfl
theorem cellsB_cons (a:T × T) (l:List (T × T)):cellsB (a::l)=((enc a.1).cells++(enc a.2).cells)++cellsB l:=rfl
theorem enc4 (t:T):(enc t).cells.length=4:=by rw[enc_cells];rfl
theorem cellsB_len (l:List (T × T)):(cellsB l).length=8*l.length:=by
 induction l with
 | nil=>rfl
 | cons a l ih=>rw[cellsB_cons,List.length_append,ih,List.length_append,enc4,enc4,List.length_cons];omega
theorem cellsB_map (l:List (T × T)):(l.map encB).flatMap AV.cells=cellsB l:=by
 rw[List.flatMap_map];exact congrArg (fun f=>l.flatMap f) (funext fun b=>cells_encB b)
theorem dats1_app:∀ {l m l' m':List AV},dats1 l=some l'→dats1 m=some m'→dats1 (l++m)=some (l'++m')
 | [],m,l',m',h,k=>by simp only[dats1,Option.some.injEq] at h;subst h;exact k
 | a::l,m,l',m',h,k=>by
  simp only[dats1] at h
  split at h<;>first | (cases h;done) | skip
  rename_i b r h1 h2
  simp only[Option.some.injEq] at h;subst h
  have:=dats1_app h2 k
  simp only[List.cons_append,dats1,h1,this]
theorem dats1_cellsB (l:List (T × T)):dats1 (cellsB l)=some (cellsB l):=by
 induction l with
 | nil=>rfl
 | cons a l ih=>rw[cellsB_cons];exact dats1_app (by rw[enc_cells,enc_cells];rfl) ih
set_option maxHeartbeats 1000000 in
theorem clone349 (a:T × T) (l:List (T × T)) (hl:(a::l).length≤100000):Go.V.Call C 349 [binds (a::l)] []=some (.msl 0 0 8 (a::l).length none,[.cells (cellsB (a::l)) .live]):=by
 refine Call_W rfl Tryz.func349 rfl (by kernel_rfl) (by simp[Tryz.f349]) fun R hR=>?_
 have hsz:=szOk_B (a::l)
 have e1:binV C.P .eql 248 (.tmp 3) (.const (.slice none 0 0)) (binds (a::l)) (.isl [] .full)=some (.bool false):=by
  simp[binV,binds,toVal,toScalar,nilCmpV,sureV,isNil,isSl,u248,eqSign]
 have e2:buildSliceV C.P [] 248 0 []=some (.isl [] .full,[]):=buildSlice_dats u248 s250 z250 rfl (by omega) rfl (es:=[]) rfl rfl (by simp) rfl
 have e3:appendW C.P true [] 248 (.isl [] .full) (binds (a::l))=some (.msl 0 0 8 (a::l).length none,[.cells (cellsB (a::l)) .live]):=by
  have e4:srcV [] 8 (.isl ((a::l).map encB) .unk)=some (cellsB (a::l),(a::l).length):=by
   simp only[srcV,hsz,if_true,cellsB_map,List.length_map]
  simp only[appendW,knownCap,Bool.not_true,if_false,Bool.false_eq_true,appendN,u248,s250,b250,z250,binds,e4]
  have h0:0<(a::l).length:=by simp
  generalize (a::l).length=m at hl h0
  have h1:¬m=0:=by omega
  have h2:m*113≤35184372088832:=by omega
  simp[szOk,h1,h2]
 simp[go_sem,initS,e1,e2,e3]
 refine hR _ _ _ (.inr rfl) ⟨.msl 0 0 8 (a::l).length none,by simp[resultV,resV,Tryz.f349,go_sem],rfl⟩
theorem chunk_cellsB:∀l:List (T × T),chunk 8 l.length (cellsB l)=l.map encB
 | []=>rfl
 | a::l=>by
  have:=chunk_cellsB l
  have e:((enc a.1).cells++(enc a.2).cells).length=8:=by rw[List.length_append,enc4,enc4]
  have e2:AV.agg ((enc a.1).cells++(enc a.2).cells)=encB a:=by rw[enc_cells,enc_cells];rfl
  rw[cellsB_cons]
  generalize (enc a.1).cells++(enc a.2).cells=cc at e e2
  simp only[List.length_cons,chunk,List.map_cons]
  rw[List.take_append_of_le_length (by omega),List.take_of_length_le (by omega),List.drop_left' e,this]
  simp[e2]
def RowP (h:H) (v:AV) (ps:List (T × T)):Prop:=(∃x,v=.isl (ps.map encB) x∧∀t,x≠.tok t)∨∃id pre c,v=.msl id (8*pre.length) 8 ps.length c∧h[id]?=some (.cells (cellsB (pre++ps)) .live)
theorem cellsB_append (l m:List (T × T)):cellsB (l++m)=cellsB l++cellsB m:=List.flatMap_append
theorem snapB {hf:H}{id:Nat}{pre ps:List (T × T)}{c:Option Nat}(hid:hf[id]?=some (.cells (cellsB (pre++ps)) .frozen)) (hl:(pre++ps).length≤100000) (n:Nat) (hn:800002≤n):snap hf (n+1) (.msl id (8*pre.length) 8 ps.length c)=some (binds ps):=by
 have e3:=cellsB_len (pre++ps)
 obtain ⟨n,rfl⟩:∃m,n=m+1:=⟨n-1,by omega⟩
 have e2:=(dats1_snap (h:=hf) (dats1_cellsB (pre++ps)) n (by omega)).1
 have e4:=cellsB_len pre
 simp only[snap,hid,e2]
 rw[if_pos ⟨by rw[e3,List.length_append];omega,by omega⟩,cellsB_append,List.drop_left' e4,chunk_cellsB];rfl
theorem callV_ownMs {f:FuncId}{h:H}{args args':List AV}{R:List Nat}(hb:hasBody C.P f=true) (hm:C.mode f=.ownM) (e2:reachs h deep args=R) (e1:snaps (Go.V.freeze h R) deep args=some args')
  {id len sz:Nat}{h1:H}{cs:List AV}(hsz:1<sz) (hc:Go.V.Call C f args' []=some (.msl id 0 sz len none,h1)) (hid:h1[id]?=some (.cells cs .live)) (hcs:dats1 cs=some cs) (hcl:cs.length≤900000) (hlen:len*sz≤cs.length) :
  callV C h (.func f []) (some args)=some (.msl h.length 0 sz len none,Go.V.freeze h R++[.cells cs .live]):=by
 simp only[callV,hb,if_true,List.append_nil]
 unfold applyCall
 rw[hm]
 dsimp only
 rw[e2]
 simp only[e1]
 rw[hc]
 dsimp only
 unfold finishV
 dsimp only
 have f1:snaps (freezeBut h1 id) deep cs=some cs:=(dats1_snap (h:=freezeBut h1 id) hcs 999999 (by omega)).1
 have f2:adoptR C.P .ownM h1 h (.msl id 0 sz len none)=none:=by
  simp only[adoptR,adopt,hid]
  rw[if_neg (by omega)]
 rw[f2]
 simp only[adoptD,adoptM,hid,f1]
 rw[if_pos ⟨by omega,by omega⟩,freeze_length]
theorem rowP_reach {h:H}{v:AV}{ps:List (T × T)}(r:RowP h v ps) (hl:∀id pre c,v=.msl id (8*pre.length) 8 ps.length c→h[id]?=some (.cells (cellsB (pre++ps)) .live)→(pre++ps).length≤100000):∃R,reachs h deep [v]=R∧(∀j∈R,idOf v=some j)∧snaps (Go.V.freeze h R) deep [v]=some [binds ps]:=by
 obtain ⟨m,e0⟩:∃m,deep=m+3:=⟨999997,rfl⟩
 have em:m=999997:=by unfold deep at e0;omega
 rcases r with ⟨x,rfl,_⟩ | ⟨id,pre,c,rfl,hid⟩
 ·have q:=dats_snap (h:=h) (l:=[.isl (ps.map encB) x]) (l':=[binds ps]) rfl rfl deep (by simp[deep])
  exact ⟨[],q.2,by simp,q.1⟩
 ·have hlen:=hl id pre c rfl hid
  have e3:=cellsB_len (pre++ps)
  have q:=dats1_snap (h:=h) (dats1_cellsB (pre++ps)) m (by omega)
  have hR:reachs h deep [.msl id (8*pre.length) 8 ps.length c]=[id]:=by
   rw[e0]
   simp only[reachs,reach,hid,q.2]
   rfl
  refine ⟨[id],hR,by simp[idOf],?_⟩
  have hf:(Go.V.freeze h [id])[id]?=some (.cells (cellsB (pre++ps)) .frozen):=by rw[freeze_spec,hid];simp
  have s1:=snapB (c:=c) hf hlen (m+1) (by omega)
  rw[e0]
  simp only[snaps,s1]
end Go.VZ

/- The copy of a row of pairs, called. -/
namespace Go.VZ
open Go Go.V Go.Proofs TL
theorem freeze_keep {h:H}{R:List Nat}{x:Option Nat}(hR:∀j∈R,x=some j):Keep h (Go.V.freeze h R) x:=by
 refine ⟨by rw[freeze_length];omega,fun j _ hj=>?_⟩
 rw[freeze_spec]
 have:j∉R:=fun hm=>hj (hR j hm)
 split<;>simp_all
theorem call349c {h:H}{v:AV}{a:T × T}{l:List (T × T)}(r:RowP h v (a::l)) (hl1:(a::l).length≤100000) (hl:∀id pre c,v=.msl id (8*pre.length) 8 (a::l).length c→h[id]?=some (.cells (cellsB (pre++a::l)) .live)→(pre++a::l).length≤100000) :
  ∃h',callV C h (.func 349 []) (some [v])=some (.msl h.length 0 8 (a::l).length none,h'++[.cells (cellsB (a::l)) .live])∧h'.length=h.length∧Keep h h' (idOf v):=by
 obtain ⟨R,e2,hR,e1⟩:=rowP_reach r hl
 have hcl:=cellsB_len (a::l)
 exact ⟨_,callV_ownMs (by kernel_rfl) rfl e2 e1 (by omega) (clone349 a l hl1) rfl (dats1_cellsB _) (by omega) (by omega),freeze_length _ _,freeze_keep hR⟩
theorem call349n {h:H}{v:AV}(r:RowP h v []) (hl:∀id pre c,v=.msl id (8*pre.length) 8 ([]:List (T × T)).length c→h[id]?=some (.cells (cellsB (pre++[])) .live)→(pre++[]).length≤100000) :
  callV C h (.func 349 []) (some [v])=some (.isl [] .full,h):=by
 obtain ⟨R,e2,hR,e1⟩:=rowP_reach r hl
 have hbd:hasBody C.P 349=true:=by kernel_rfl
 simp only[callV,hbd,if_true,List.append_nil]
 unfold applyCall
 rw[show C.mode 349=.ownM from rfl]
 dsimp only
 rw[e2]
 simp only[e1]
 have hp:C.prim 349 [binds []] []=some (.isl [] .full,[]):=by simp[C,prim,primClone,cloneIds,binds]
 have hq:Go.V.Call C 349 [binds []] []=some (.isl [] .full,[]):=Call_prim (C:=C) (fn:=Tryz.f349) Tryz.func349 hp
 rw[hq]
 rfl
end Go.VZ

/- The program's binding of a variable: walked. -/
namespace Go.VZ
open Go Go.V Go.Proofs TL
def RowS (h:H) (v:AV) (bs:List (T × T)):Prop:=(bs=[]∧v=.isl [] .full)∨∃id,v=.msl id 0 8 bs.length none∧h[id]?=some (.cells (cellsB bs) .live)
def putPK (x y:T) (ps:List (T × T)):List (T × T):=ps.map fun p=>(putK x y p.1,putK x y p.2)
def putSK (x y:T) (s:List (T × T)):List (T × T):=s.map fun b=>(b.1,putK x y b.2)
def okPK (x y:T) (ps:List (T × T)):Bool:=ps.all fun p=>decide (validE (putK x y p.1)=0)&&decide (validE (putK x y p.2)=0)
def okSK (x y:T) (s:List (T × T)):Bool:=s.all fun b=>decide (validE (putK x y b.2)=0)
def Bound (x y:T) (h0:H) (s:Nat) (vp vb:AV) (ps bs:List (T × T)) (r:AV) (h':H):Prop:=r=.int .i64 (if (okPK x y ps&&okSK x y bs)=true then 0 else 3)∧∃vp' vb',h'[s]?=some (.cells [vp',vb'] .live)∧RowS h' vp' (putPK x y ps)∧RowS h' vb' (putSK x y bs++[(x,y)])∧(∀i,idOf vp'=some i→idOf vb'≠some i) ∧
 ∀j,j<h0.length→j≠s→idOf vp≠some j→idOf vb≠some j→h'[j]?=h0[j]?
theorem get_chg {h g:H}{i p j:Nat}{o a b:VObj}(e:h[j]?=some o) (h1:i≠j) (h2:p≠j):(((h++g).set i a).set p b)[j]?=some o:=by
 rw[List.getElem?_set_ne h2,List.getElem?_set_ne h1];exact ga e
theorem call349 {h:H}{v:AV}{ps:List (T × T)}(r:RowP h v ps) (hl1:ps.length≤100000) (hl:∀id pre c,v=.msl id (8*pre.length) 8 ps.length c→h[id]?=some (.cells (cellsB (pre++ps)) .live)→(pre++ps).length≤100000) :
  ∃v' h',callV C h (.func 349 []) (some [v])=some (v',h')∧RowS h' v' ps∧(∀i,idOf v'=some i→h.length≤i)∧Keep h h' (idOf v):=by
 cases ps with
 | nil=>exact ⟨_,_,call349n r hl,.inl ⟨rfl,rfl⟩,fun i e=>by simp[idOf] at e,.refl _ _⟩
 | cons a l=>
  obtain ⟨h',e1,e2,e3⟩:=call349c r hl1 hl
  exact ⟨_,_,e1,.inr ⟨h.length,rfl,by rw[←e2];simp⟩,fun i e=>by simp only[idOf,Option.some.injEq] at e;omega,⟨by simp;omega,fun j hj hn=>by rw[List.getElem?_append_left (by omega)];exact e3.2 j hj hn⟩⟩
def NA323 (x y:T) (h0:H) (s q pb pr:Nat) (vp vb v10:AV) (ps _bs:List (T × T)) (m:Nat) (st:PT) (h:H):Prop:=∃k:Nat,m=ps.length-k∧k≤ps.length∧st.get 0=.ptr s 0∧st.get 4=.ptr h0.length 0∧st.get 5=.ptr (h0.length+1) 0∧st.get 8=.ptr pr 0∧st.get 9=.func 347 [.ptr pb 0,.ptr pr 0]∧st.get 10=v10∧st.get 25=.int .i64 ps.length∧st.get 26=.int .i64 k ∧
 h[s]?=some (.cells [vp,vb] .live)∧h[h0.length]?=some (.cells (enc x).cells .live)∧h[h0.length+1]?=some (.cells (enc y).cells .live)∧h[pb]?=some (.cells [.mp q] .live)∧MapIs h q x y∧h[pr]?=some (.cells [.bool (okPK x y (ps.take k))] .live)∧RowS h v10 (putPK x y (ps.take k)++ps.drop k) ∧
 ∀j,j<h0.length→j≠s→idOf vp≠some j→h[j]?=h0[j]?
theorem appB0 (h:H) (b:T × T):appendW C.P true h 46 (.isl [] .full) (.isl [encB b] .full)=some (.msl h.length 0 8 1 none,h++[.cells (cellsB [b]) .live]):=by
 have hsz:=szOk_B [b]
 have e4:srcV h 8 (.isl [encB b] .full)=some (cellsB [b],1):=by
  have:=cellsB_map [b]
  simp only[List.map_cons,List.map_nil] at hsz this
  simp only[srcV,hsz,if_true,this];rfl
 simp only[appendW,knownCap,Bool.not_true,if_false,Bool.false_eq_true,appendN,u46,s86,b86,z86,e4]
 simp[szOk]
theorem appB1 {h:H}{id:Nat}{l:List (T × T)}(b:T × T) (hid:h[id]?=some (.cells (cellsB l) .live)) (hl:l.length≤10000):appendW C.P true h 46 (.msl id 0 8 l.length none) (.isl [encB b] .full)=some (.msl h.length 0 8 (l.length+1) none,h.set id (.cells (cellsB l) .dead)++[.cells (cellsB (l++[b])) .live]):=by
 have hsz:=szOk_B [b]
 have e4:srcV h 8 (.isl [encB b] .full)=some (cellsB [b],1):=by
  have:=cellsB_map [b]
  simp only[List.map_cons,List.map_nil] at hsz this
  simp only[srcV,hsz,if_true,this];rfl
 have hcl:=cellsB_len l
 simp only[appendW,knownCap,Bool.not_true,if_false,Bool.false_eq_true,appendN,u46,s86,b86,z86,e4,hid]
 rw[if_neg (by simp),if_neg (by simp),if_pos ⟨trivial,trivial,by omega,by omega⟩,List.take_of_length_le (by omega),cellsB_append]
def NB323 (x y:T) (h0:H) (s q pb pr:Nat) (vp vb v10:AV) (ps bs:List (T × T)) (m:Nat) (st:PT) (h:H):Prop:=∃k:Nat,m=bs.length-k∧k≤bs.length∧st.get 0=.ptr s 0∧st.get 4=.ptr h0.length 0∧st.get 5=.ptr (h0.length+1) 0∧st.get 8=.ptr pr 0∧st.get 9=.func 347 [.ptr pb 0,.ptr pr 0]∧st.get 10=v10∧st.get 46=.int .i64 bs.length∧st.get 47=.int .i64 k ∧
 h[s]?=some (.cells [vp,vb] .live)∧h[h0.length]?=some (.cells (enc x).cells .live)∧h[h0.length+1]?=some (.cells (enc y).cells .live)∧h[pb]?=some (.cells [.mp q] .live)∧MapIs h q x y∧h[pr]?=some (.cells [.bool (okPK x y ps&&okSK x y (bs.take k))] .live)∧RowS h v10 (putPK x y ps)∧RowS h vb (putSK x y (bs.take k)++bs.drop k) ∧
 ∀j,j<h0.length→j≠s→idOf vp≠some j→idOf vb≠some j→h[j]?=h0[j]?
theorem idx248 {id n k:Nat}(hk:k<n):indexAddrV C.P 248 (.msl id 0 8 n none) (.int .i64 k)=some (.ptr id (8*k)):=by
 simp[indexAddrV,u248,s250,hk,Nat.mul_comm]
theorem len248m (id n:Nat):lenV C.P 248 (.msl id 0 8 n none)=some (.int .i64 n):=by simp[lenV,u248]
theorem idx46m {id n k:Nat}(hk:k<n):indexAddrV C.P 46 (.msl id 0 8 n none) (.int .i64 k)=some (.ptr id (8*k)):=by
 simp[indexAddrV,u46,s86,hk,Nat.mul_comm]
theorem fa305_0 (i:Nat):fieldAddrV C.P 305 (.ptr i 0) 0=some (.ptr i 0):=by kernel_rfl
theorem fa305_1 (i:Nat):fieldAddrV C.P 305 (.ptr i 0) 1=some (.ptr i 1):=by kernel_rfl
attribute [go_sem] fa305_0 fa305_1 fa250_0 fa250_1 fa86_1p
theorem ldS0 {h:H}{s:Nat}{vp vb:AV}(hs:h[s]?=some (.cells [vp,vb] .live)):loadV C.P h 248 (.ptr s 0)=some vp:=by
 have a:isAggB C.P 248=some false:=by kernel_rfl
 have z:sizeV C.P 248=some 1:=by kernel_rfl
 simp[loadV,hs,cellsAt,a,z]
theorem ldS1 {h:H}{s:Nat}{vp vb:AV}(hs:h[s]?=some (.cells [vp,vb] .live)):loadV C.P h 46 (.ptr s 1)=some vb:=by
 have a:isAggB C.P 46=some false:=by kernel_rfl
 have z:sizeV C.P 46=some 1:=by kernel_rfl
 simp[loadV,hs,cellsAt,a,z]
theorem zv4:zeroV C.P 4=some (.bool false):=by kernel_rfl
theorem len46m (id n:Nat):lenV C.P 46 (.msl id 0 8 n none)=some (.int .i64 n):=by simp[lenV,u46]
set_option maxRecDepth 8000 in
set_option maxHeartbeats 8000000 in
theorem bind323 (x y:T) (h0:H) (s:Nat) (vp vb:AV) (ps bs:List (T × T)) (hs:h0[s]?=some (.cells [vp,vb] .live)) (hp:RowP h0 vp ps) (hb:RowS h0 vb bs) (hne:∀i,idOf vp=some i→idOf vb≠some i) (hpl:ps.length≤100000) (hbl:bs.length≤4000)
  (hpp:∀id pre c,vp=.msl id (8*pre.length) 8 ps.length c→h0[id]?=some (.cells (cellsB (pre++ps)) .live)→(pre++ps).length≤100000) (hzp:∀p∈ps,p.1.size≤400∧p.2.size≤400) (hzb:∀b∈bs,b.2.size≤400) (hu:∀t:T,t.size≤400→(putK x y t).size<4000000) :
  ∃r h',Go.V.Call C 323 [.ptr s 0,enc x,enc y] h0=some (r,h')∧Bound x y h0 s vp vb ps bs r h':=by
 refine Call_WQ rfl Tryz.func323 rfl (by kernel_rfl) (by simp[Tryz.f323]) fun R hR=>?_
 simp[go_sem,box25f]
 obtain ⟨h,eh⟩:∃h:H,h=h0++[.cells (enc x).cells .live,.cells (enc y).cells .live]:=⟨_,rfl⟩
 have m4:h[h0.length]?=some (.cells (enc x).cells .live):=by rw[eh];simp
 have m5:h[h0.length+1]?=some (.cells (enc y).cells .live):=by rw[eh];simp
 have pre:Pre h0 h:=⟨_,eh⟩
 have hl:h.length=h0.length+2:=by rw[eh];simp
 rw[←eh]
 change W C 323 R _ _ _ h
 refine W_mixedP 1 _ (fun st' h'=>st'.get 0=.ptr s 0∧st'.get 4=.ptr h0.length 0∧st'.get 5=.ptr (h0.length+1) 0∧st'.get 7=.ptr (h.length+6) 0∧h'[h.length+6]?=some (.cells [.mp h.length] .live)∧MapIs h' h.length x y∧Keep h h' none) (by rw[mixC];decide) (by kernel_rfl) ?_ ?_
 ·generalize hH0:h++List.replicate _ VObj.void=H0
  have pl:Pl h H0 8:=hH0▸Pl.mk' h 8
  have hlen:=pl.len
  clear hH0
  have vd:∀ {g:H}{j:Nat}{o:VObj}{c:Nat},isVoid g[c]?=true→j≠c→isVoid (g.set j o)[c]?=true:=fun hv hn=>isV_set hv hn
  refine MX_makeMap (pl.isV (i:=0) (by decide)) ?_
  obtain ⟨H1,e1⟩:∃g,g=H0.set (h.length+0) (.map []):=⟨_,rfl⟩
  have hl1:H1.length=H0.length:=by rw[e1];simp
  have q0:H1[h.length]?=some (.map []):=by rw[e1];exact List.getElem?_set_self (by omega)
  have q4:H1[h0.length]?=some (.cells (enc x).cells .live):=by rw[e1,List.getElem?_set_ne (by omega)];exact pl.get m4
  have q5:H1[h0.length+1]?=some (.cells (enc y).cells .live):=by rw[e1,List.getElem?_set_ne (by omega)];exact pl.get m5
  have u:∀i,0<i→i<8→isVoid H1[h.length+i]?=true:=fun i h1 h2=>by rw[e1];exact isV_set (pl.isV h2) (by omega)
  rw[←e1]
  have p4:=ld25h q4
  have p5:=ld25h q5
  have hr1:reachs H1 deep [enc x]=[]:=(dats_snap (h:=H1) (dat_enc x) (by simp[short_enc]) deep (by simp[deep])).2
  refine MX_load (.ptr h0.length 0) (enc x) (by simp[go_sem]) p4 (lids_no (by omega)) (u 1 (by decide) (by decide)) (mv_enc _ _ _) ?_
  refine MX_call (args:=[.tmp 14]) [enc x] (keyV x) (by kernel_rfl) rfl (by simp[go_sem]) hr1 (call346 x _) (u 2 (by decide) (by decide)) rfl ?_
  refine MX_load (.ptr (h0.length+1) 0) (enc y) (by simp[go_sem]) p5 (lids_no (by omega)) (u 3 (by decide) (by decide)) (mv_enc _ _ _) ?_
  have hKx:VObj.mv H1.length (h.length+4) (.map [(keyV x,enc y)])=.map [(keyV x,enc y)]:=by simp[VObj.mv,mv_enc]
  refine MX_insert (h.length+0) (keyV x) (enc y) _ (by simp[go_sem]) (by simp[go_sem]) (by simp[go_sem]) (ins353 x y q0) (by omega) (u 4 (by decide) (by decide)) ?_
  rw[hKx]
  obtain ⟨H2,e2⟩:∃g,g=H1.set (h.length+0) (.map [(keyV x,enc y)]):=⟨_,rfl⟩
  have hl2:H2.length=H0.length:=by rw[e2];simp[hl1]
  have r0:H2[h.length]?=some (.map [(keyV x,enc y)]):=by rw[e2];exact List.getElem?_set_self (by omega)
  have u2:∀i,0<i→i<8→isVoid H2[h.length+i]?=true:=fun i h1 h2=>by rw[e2];exact isV_set (u i h1 h2) (by omega)
  have o2:∀j,j<h.length→H2[j]?=h[j]?:=fun j hj=>by rw[e2,List.getElem?_set_ne (by omega),e1,List.getElem?_set_ne (by omega),pl.old j hj]
  rw[←e2]
  refine MX_pure (.mp h.length) rfl rfl (u2 5 (by decide) (by decide)) (by simp[opN,go_sem]) (by simp[AV.mv];omega) ?_
  refine MX_alloc _ zv353 (u2 6 (by decide) (by decide)) ?_
  rw[show VObj.mv H2.length (h.length+6) (.cells (AV.nilmap).cells .live)=.cells [.nilmap] .live from rfl]
  obtain ⟨H3,e3⟩:∃g,g=H2.set (h.length+6) (.cells [.nilmap] .live):=⟨_,rfl⟩
  have hl3:H3.length=H0.length:=by rw[e3];simp[hl2]
  have t6:H3[h.length+6]?=some (.cells [.nilmap] .live):=by rw[e3];exact List.getElem?_set_self (by omega)
  rw[←e3]
  refine MX_store (h.length+6) 0 (.mp h.length) _ (by simp[go_sem]) (by simp[go_sem]) (st353 t6) (by omega) (by rw[e3];exact isV_set (u2 7 (by decide) (by decide)) (by omega)) ?_
  have hKy:VObj.mv H3.length (h.length+7) (.cells [.mp h.length] .live)=.cells [.mp h.length] .live:=by
   have:¬h.length=H3.length:=by omega
   simp[VObj.mv,AV.mvs,AV.mv,this]
  rw[hKy]
  refine ⟨?_,?_⟩
  ·unfold fpOk
   generalize hb:Region.before _=b
   have hb1:(b.getD 4 0).testBit 0=true:=by rw[←hb];kernel_rfl
   have hb2:(b.getD 7 0).testBit 6=true:=by rw[←hb];kernel_rfl
   clear hb
   have o0:¬h.length=h0.length:=by omega
   have o1:¬h.length=h0.length+1:=by omega
   have oa:∀k,¬h.length+k=h0.length:=fun k=>by omega
   have ob:∀k,¬h.length+k=h0.length+1:=fun k=>by omega
   have oc:∀k,¬h0.length=h.length+k:=fun k=>by omega
   have od:∀k,¬h0.length+1=h.length+k:=fun k=>by omega
   simp[Array.getD_eq_getD_getElem?] at hb1 hb2
   simp[lids,meet,List.range,List.range.loop,oa,ob,o0,o1]
   exact ⟨hb1,hb2⟩
  ·refine ⟨by simp[go_sem],by simp[go_sem],by simp[go_sem],by simp[go_sem],List.getElem?_set_self (by omega),?_,?_⟩
   ·unfold MapIs
    rw[List.getElem?_set_ne (by omega),e3,List.getElem?_set_ne (by omega)];exact r0
   ·exact ⟨by simp;omega,fun j hj _=>by rw[List.getElem?_set_ne (by omega),e3,List.getElem?_set_ne (by omega)];exact o2 j hj⟩
 ·rintro st' h' ⟨g0,g4,g5,g7,m7,hq,kp⟩
  have hl':h.length+6<h'.length:=(List.getElem?_eq_some_iff.1 m7).1
  have t1:storeV C.P (h'++[.cells [.bool false] .live]) 4 (.ptr h'.length 0) (.bool true)=some (h'++[.cells [.bool true] .live]):=by
   rw[st4p true (by simp:(h'++[VObj.cells [.bool false] .live])[h'.length]?=some (.cells [.bool false] .live))];simp
  obtain ⟨h2,e2⟩:∃h2,h2=h'++[VObj.cells [.bool true] .live]:=⟨_,rfl⟩
  rw[←e2] at t1
  have k2:Keep h h2 none:=⟨by rw[e2];simp;have:=kp.1;omega,fun j hj hn=>by rw[e2,List.getElem?_append_left (by have:=kp.1;omega)];exact kp.2 j hj hn⟩
  have n7:h2[h.length+6]?=some (.cells [.mp h.length] .live):=by rw[e2];exact ga m7
  have nq:MapIs h2 h.length x y:=by rw[e2];exact ga hq
  have n8:h2[h'.length]?=some (.cells [.bool true] .live):=by rw[e2];simp
  have ns:h2[s]?=some (.cells [vp,vb] .live):=k2.get (pre.get hs) (by simp)
  have l0:=ldS0 ns
  have hpb0:h.length≤h.length+6:=by omega
  generalize h.length+6=pb at g7 n7 m7 hl' hpb0
  have cb:(AV.bool false).cells=[.bool false]:=rfl
  have rp2:RowP h2 vp ps:=by
   rcases hp with ⟨e,rfl,hne2⟩ | ⟨id,pr2,c,rfl,hid⟩
   ·exact .inl ⟨e,rfl,hne2⟩
   ·exact .inr ⟨id,pr2,c,rfl,k2.get (pre.get hid) (by simp)⟩
  have hpp2:∀id pre c,vp=.msl id (8*pre.length) 8 ps.length c→h2[id]?=some (.cells (cellsB (pre++ps)) .live)→(pre++ps).length≤100000:=fun id pr2 c e1 e3=>by
   rcases hp with ⟨e,rfl,_⟩ | ⟨id',pr3,c',rfl,hid⟩
   ·cases e1
   ·simp only[AV.msl.injEq] at e1
    obtain ⟨rfl,e4,_⟩:=e1
    have:=hpp id' pr3 c' rfl hid
    simp only[List.length_append] at this ⊢;omega
  obtain ⟨v10,h3,c1,r10,hid10,k3⟩:=call349 rp2 (by omega) hpp2
  have hl10:lenV C.P 248 v10=some (.int .i64 ps.length):=by
   rcases r10 with ⟨rfl,rfl⟩ | ⟨id,rfl,_⟩
   ·simp[lenV,u248]
   ·exact len248m id ps.length
  have ivp:∀i,idOf vp=some i→i<h0.length∧i≠s:=fun i hi=>by
   rcases hp with ⟨e,rfl,hne2⟩ | ⟨id',pr3,c',rfl,hid⟩
   ·cases e with
    | tok t=>exact absurd rfl (hne2 t)
    | full=>simp[idOf] at hi
    | unk=>simp[idOf] at hi
   ·simp only[idOf,Option.some.injEq] at hi
    subst hi
    refine ⟨(List.getElem?_eq_some_iff.1 hid).1,fun e=>?_⟩
    subst e
    rw[hs] at hid
    simp only[Option.some.injEq,VObj.cells.injEq] at hid
    have:=congrArg List.length hid.1
    rw[cellsB_len] at this
    simp at this;omega
  have kn:∀j,h0.length≤j∨j=s→idOf vp≠some j:=fun j hj e=>by
   have:=ivp j e
   omega
  have hls:s<h0.length:=(List.getElem?_eq_some_iff.1 hs).1
  have hl2:h.length≤h2.length:=k2.1
  have hpr0:h.length≤h'.length:=kp.1
  have u4:h2[h0.length]?=some (.cells (enc x).cells .live):=k2.get m4 (by simp)
  have u5:h2[h0.length+1]?=some (.cells (enc y).cells .live):=k2.get m5 (by simp)
  simp[go_sem,g0,g7,zv4,cb,t1,l0,c1,hl10]
  refine W_loop (NA323 x y h0 s h.length pb h'.length vp vb v10 ps bs) ps.length ⟨0,rfl,Nat.zero_le _,by simp[go_sem,g0],by simp[go_sem,g4],by simp[go_sem,g5],by simp[go_sem],by simp[go_sem],by simp[go_sem],by simp[go_sem],by simp[go_sem],k3.get ns (kn _ (.inr rfl)),k3.get u4 (kn _ (.inl (Nat.le_refl _))),k3.get u5 (kn _ (.inl (by omega))),k3.get n7 (kn _ (.inl (by omega))),k3.get nq (kn _ (.inl (by omega))),k3.get n8 (kn _ (.inl (by omega))),by simpa [putPK] using r10,fun j hj hjs hv=>?_⟩ ?_
  ·rw[k3.2 j (by omega) hv,k2.2 j (by omega) (by simp)]
   obtain ⟨g,eg⟩:=pre
   rw[eg,List.getElem?_append_left hj]
  have i10:∀i,idOf v10=some i→h2.length≤i:=hid10
  have hprl:h'.length<h2.length:=by rw[e2];simp
  have hq0:h0.length≤h.length:=by omega
  generalize h'.length=pr at hprl hpr0 hl'
  generalize hqq:h.length=q at *
  clear l0 t1 cb
  rintro m st hh ⟨k,rfl,hk,g0,g4,g5,g8,g9,g10,g25,g26,ms,mx,my,mb,mq,mr,mrow,old⟩
  by_cases hlt:k<ps.length
  ·have hlt':(k:Int)<ps.length:=by omega
   have w2:IntKind.i64.wrap ((k:Int)+1)=((k+1:Nat):Int):=by rw[wrap_in (by omega)];omega
   have hll:(putPK x y (ps.take k)++ps.drop k).length=ps.length:=by simp[putPK];omega
   rcases mrow with ⟨e,_⟩ | ⟨id,ev,hid⟩
   ·rw[e] at hll;simp at hll;omega
   have ig:=i10 id (by rw[ev];rfl)
   have hcell:cellsB (putPK x y (ps.take k)++ps.drop k)=cellsB (putPK x y (ps.take k))++(enc ps[k].1).cells++((enc ps[k].2).cells++cellsB (ps.drop (k+1))):=by
    rw[List.drop_eq_getElem_cons hlt,cellsB_append,cellsB_cons];simp only[List.append_assoc]
   rw[hll] at ev
   rw[hcell] at hid
   have hAl:(cellsB (putPK x y (ps.take k))).length=8*k:=by rw[cellsB_len];simp[putPK];omega
   have hz:=hzp _ (List.getElem_mem hlt)
   obtain ⟨f1,q1⟩:=change347 x y ps[k].1 (okPK x y (ps.take k)) hh q pb pr id _ _ mb mr hid mq (by omega) (hu _ hz.1) (by omega) (by omega)
   rw[hAl] at q1
   obtain ⟨H1,eH1⟩:∃H1,H1=((hh++f1).set id (.cells (cellsB (putPK x y (ps.take k))++(enc (putK x y ps[k].1)).cells++((enc ps[k].2).cells++cellsB (ps.drop (k+1)))) .live)).set pr (.cells [.bool (okPK x y (ps.take k)&&decide (validE (putK x y ps[k].1)=0))] .live):=⟨_,rfl⟩
   rw[←eH1] at q1
   have hidl:id<(hh++f1).length:=(List.getElem?_eq_some_iff.1 (show (hh++f1)[id]?=_ from ga hid)).1
   have hprl2:pr<(hh++f1).length:=(List.getElem?_eq_some_iff.1 (show (hh++f1)[pr]?=_ from ga mr)).1
   have n1:H1[id]?=some (.cells ((cellsB (putPK x y (ps.take k))++(enc (putK x y ps[k].1)).cells)++(enc ps[k].2).cells++cellsB (ps.drop (k+1))) .live):=by
    rw[eH1,List.getElem?_set_ne (by omega),List.getElem?_set_self hidl];simp only[List.append_assoc]
   have n2:H1[pr]?=some (.cells [.bool (okPK x y (ps.take k)&&decide (validE (putK x y ps[k].1)=0))] .live):=by rw[eH1];exact List.getElem?_set_self (by simpa using hprl2)
   have kk:∀ {j:Nat}{o:VObj},hh[j]?=some o→j<h2.length→j≠pr→H1[j]?=some o:=fun {j o} e h1 h2=>by rw[eH1];exact get_chg e (by omega) (fun q=>h2 q.symm)
   obtain ⟨f2,q2⟩:=change347 x y ps[k].2 _ H1 q pb pr id _ _ (kk mb (by omega) (by omega)) n2 n1 (kk mq (by omega) (by omega)) (by omega) (hu _ hz.2) (by omega) (by omega)
   rw[List.length_append,hAl,enc4] at q2
   obtain ⟨H2,eH2⟩:∃H2,H2=((H1++f2).set id (.cells ((cellsB (putPK x y (ps.take k))++(enc (putK x y ps[k].1)).cells)++(enc (putK x y ps[k].2)).cells++cellsB (ps.drop (k+1))) .live)).set pr (.cells [.bool (okPK x y (ps.take k)&&decide (validE (putK x y ps[k].1)=0)&&decide (validE (putK x y ps[k].2)=0))] .live):=⟨_,rfl⟩
   rw[←eH2] at q2
   have cc1:callV C hh (.func 347 [.ptr pb 0,.ptr pr 0]) (some [.ptr id (8*k)])=some (.tuple [],H1):=by rw[callc_open (by kernel_rfl) rfl];exact q1
   have cc2:callV C H1 (.func 347 [.ptr pb 0,.ptr pr 0]) (some [.ptr id (8*k+4)])=some (.tuple [],H2):=by rw[callc_open (by kernel_rfl) rfl];exact q2
   have hix:=idx248 (id:=id) hlt
   rw[ev] at g10
   have hlH:h2.length≤hh.length:=by
    have:=(List.getElem?_eq_some_iff.1 hid).1;omega
   have kk2:∀ {j:Nat}{o:VObj},hh[j]?=some o→j<h2.length→j≠pr→H2[j]?=some o:=fun {j o} e h1 h2=>by rw[eH2];exact get_chg (kk e h1 h2) (by omega) (fun q=>h2 q.symm)
   simp[go_sem,g9,g10,g25,g26,hlt',hix,cc1,cc2,-Int.natCast_add,w2]
   have eok:okPK x y (ps.take (k+1))=(okPK x y (ps.take k)&&decide (validE (putK x y ps[k].1)=0)&&decide (validE (putK x y ps[k].2)=0)):=by
    rw[←List.take_append_getElem hlt,okPK,List.all_append,okPK];simp[Bool.and_assoc]
   have eput:putPK x y (ps.take (k+1))=putPK x y (ps.take k)++[(putK x y ps[k].1,putK x y ps[k].2)]:=by
    rw[←List.take_append_getElem hlt,putPK,putPK,List.map_append];rfl
   have hl1:hh.length≤H1.length:=by rw[eH1];simp
   have hi1:=(List.getElem?_eq_some_iff.1 hid).1
   have hi2:=(List.getElem?_eq_some_iff.1 mr).1
   have s1:H2[id]?=some (.cells (cellsB (putPK x y (ps.take (k+1))++ps.drop (k+1))) .live):=by
    rw[eH2,List.getElem?_set_ne (by omega),List.getElem?_set_self (by simp;omega),eput,cellsB_append,cellsB_append,cellsB_cons]
    simp only[List.append_assoc,cellsB,List.flatMap_nil,List.nil_append]
   have s2:H2[pr]?=some (.cells [.bool (okPK x y (ps.take (k+1)))] .live):=by
    rw[eH2,eok];exact List.getElem?_set_self (by simp;omega)
   refine ⟨ps.length-(k+1),by omega,k+1,rfl,hlt,by simp[go_sem,g0],by simp[go_sem,g4],by simp[go_sem,g5],by simp[go_sem,g8],by simp[go_sem,g9],by simp[go_sem,g10,ev],by simp[go_sem,g25],by simp[go_sem],kk2 ms (by omega) (by omega),kk2 mx (by omega) (by omega),kk2 my (by omega) (by omega),kk2 mb (by omega) (by omega),kk2 mq (by omega) (by omega),s2,.inr ⟨id,?_,s1⟩,fun j hj hjs hv=>?_⟩
   ·rw[ev,show (putPK x y (ps.take (k+1))++ps.drop (k+1)).length=ps.length by simp[putPK];omega]
   ·rw[←old j hj hjs hv,eH2,List.getElem?_set_ne (by omega),List.getElem?_set_ne (by omega),List.getElem?_append_left (by omega),eH1,List.getElem?_set_ne (by omega),List.getElem?_set_ne (by omega),List.getElem?_append_left (by omega)]
  ·have hk2:k=ps.length:=by omega
   subst hk2
   rw[List.take_length,List.drop_length,List.append_nil] at mrow
   rw[List.take_length] at mr
   have ivb:∀i,idOf vb=some i→i<h0.length∧i≠s:=fun i hi=>by
    rcases hb with ⟨e,rfl⟩ | ⟨id,rfl,hid⟩
    ·simp[idOf] at hi
    ·simp only[idOf,Option.some.injEq] at hi
     subst hi
     refine ⟨(List.getElem?_eq_some_iff.1 hid).1,fun e=>?_⟩
     subst e
     rw[hs] at hid
     simp only[Option.some.injEq,VObj.cells.injEq] at hid
     have:=congrArg List.length hid.1
     rw[cellsB_len] at this
     simp at this;omega
   have rb:RowS hh vb bs:=by
    rcases hb with ⟨e,rfl⟩ | ⟨id,rfl,hid⟩
    ·exact .inl ⟨e,rfl⟩
    ·have:=ivb id rfl
     exact .inr ⟨id,rfl,by rw[old id this.1 this.2 (fun e=>hne id e rfl)];exact hid⟩
   have lb:=ldS1 ms
   have hlb:lenV C.P 46 vb=some (.int .i64 bs.length):=by
    rcases rb with ⟨rfl,rfl⟩ | ⟨id,rfl,_⟩
    ·simp[lenV,u46]
    ·exact len46m id bs.length
   simp[go_sem,g0,g25,g26,lb,hlb]
   refine W_loop (NB323 x y h0 s q pb pr vp vb v10 ps bs) bs.length ⟨0,rfl,Nat.zero_le _,by simp[go_sem,g0],by simp[go_sem,g4],by simp[go_sem,g5],by simp[go_sem,g8],by simp[go_sem,g9],by simp[go_sem,g10],by simp[go_sem],by simp[go_sem],ms,mx,my,mb,mq,by simpa [okSK] using mr,mrow,by simpa [putSK] using rb,fun j h1 h2 h3 _=>old j h1 h2 h3⟩ ?_
   clear rb lb mr mrow old ms mx my mb mq g0 g4 g5 g8 g9 g10 g25 g26 hlt hk
   rintro m st hh ⟨k,rfl,hk,g0,g4,g5,g8,g9,g10,g46,g47,ms,mx,my,mb,mq,mr,mrow,mbs,old⟩
   have lb:=ldS1 ms
   by_cases hlt:k<bs.length
   ·have hlt':(k:Int)<bs.length:=by omega
    have w2:IntKind.i64.wrap ((k:Int)+1)=((k+1:Nat):Int):=by rw[wrap_in (by omega)];omega
    have hll:(putSK x y (bs.take k)++bs.drop k).length=bs.length:=by simp[putSK];omega
    rcases mbs with ⟨e,_⟩ | ⟨id,ev,hid⟩
    ·rw[e] at hll;simp at hll;omega
    have ib:=ivb id (by rw[ev];rfl)
    have h10n:idOf v10≠some id:=fun e=>by have:=i10 id e;omega
    have hcell:cellsB (putSK x y (bs.take k)++bs.drop k)=(cellsB (putSK x y (bs.take k))++(enc bs[k].1).cells)++(enc bs[k].2).cells++cellsB (bs.drop (k+1)):=by
     rw[List.drop_eq_getElem_cons hlt,cellsB_append,cellsB_cons];simp only[List.append_assoc]
    rw[hll] at ev
    rw[hcell] at hid
    have hAl:(cellsB (putSK x y (bs.take k))++(enc bs[k].1).cells).length=8*k+4:=by rw[List.length_append,enc4,cellsB_len];simp[putSK];omega
    have hz:=hzb _ (List.getElem_mem hlt)
    obtain ⟨f1,q1⟩:=change347 x y bs[k].2 (okPK x y ps&&okSK x y (bs.take k)) hh q pb pr id _ _ mb mr hid mq (by omega) (hu _ hz) (by omega) (by omega)
    rw[hAl] at q1
    obtain ⟨H1,eH1⟩:∃H1,H1=((hh++f1).set id (.cells ((cellsB (putSK x y (bs.take k))++(enc bs[k].1).cells)++(enc (putK x y bs[k].2)).cells++cellsB (bs.drop (k+1))) .live)).set pr (.cells [.bool (okPK x y ps&&okSK x y (bs.take k)&&decide (validE (putK x y bs[k].2)=0))] .live):=⟨_,rfl⟩
    rw[←eH1] at q1
    have hi1:=(List.getElem?_eq_some_iff.1 hid).1
    have hi2:=(List.getElem?_eq_some_iff.1 mr).1
    have kk:∀ {j:Nat}{o:VObj},hh[j]?=some o→j≠id→j≠pr→H1[j]?=some o:=fun {j o} e h1 h2=>by rw[eH1];exact get_chg e (fun q=>h1 q.symm) (fun q=>h2 q.symm)
    have cc1:callV C hh (.func 347 [.ptr pb 0,.ptr pr 0]) (some [.ptr id (8*k+4)])=some (.tuple [],H1):=by rw[callc_open (by kernel_rfl) rfl];exact q1
    have hix:=idx46m (id:=id) hlt
    have eok:okSK x y (bs.take (k+1))=(okSK x y (bs.take k)&&decide (validE (putK x y bs[k].2)=0)):=by
     rw[←List.take_append_getElem hlt,okSK,List.all_append,okSK];simp
    have eput:putSK x y (bs.take (k+1))=putSK x y (bs.take k)++[(bs[k].1,putK x y bs[k].2)]:=by
     rw[←List.take_append_getElem hlt,putSK,putSK,List.map_append];rfl
    have s1:H1[id]?=some (.cells (cellsB (putSK x y (bs.take (k+1))++bs.drop (k+1))) .live):=by
     rw[eH1,List.getElem?_set_ne (by omega),List.getElem?_set_self (by simp;omega),eput,cellsB_append,cellsB_append,cellsB_cons]
     simp only[List.append_assoc,cellsB,List.flatMap_nil,List.nil_append]
    have s2:H1[pr]?=some (.cells [.bool (okPK x y ps&&okSK x y (bs.take (k+1)))] .live):=by
     rw[eH1,eok,←Bool.and_assoc];exact List.getElem?_set_self (by simp;omega)
    have s3:RowS H1 v10 (putPK x y ps):=by
     rcases mrow with e | ⟨i,e,hi⟩
     ·exact .inl e
     ·have:=i10 i (by rw[e];rfl)
      exact .inr ⟨i,e,kk hi (by omega) (by omega)⟩
    have ev2:vb=.msl id 0 8 bs.length none:=ev
    rw[ev2] at lb
    simp[go_sem,g0,g9,g46,g47,hlt',lb,hix,cc1,-Int.natCast_add,w2]
    refine ⟨bs.length-(k+1),by omega,k+1,rfl,hlt,by simp[go_sem,g0],by simp[go_sem,g4],by simp[go_sem,g5],by simp[go_sem,g8],by simp[go_sem,g9],by simp[go_sem,g10],by simp[go_sem,g46],by simp[go_sem],kk ms (by omega) (by omega),kk mx (by omega) (by omega),kk my (by omega) (by omega),kk mb (by omega) (by omega),kk mq (by omega) (by omega),s2,s3,.inr ⟨id,?_,s1⟩,fun j hj hjs hv hw=>?_⟩
    ·rw[ev,show (putSK x y (bs.take (k+1))++bs.drop (k+1)).length=bs.length by simp[putSK];omega]
    ·have hjn:j≠id:=fun e=>hw (by rw[ev2,e];rfl)
     rw[←old j hj hjs hv hw,eH1,List.getElem?_set_ne (by omega),List.getElem?_set_ne (by omega),List.getElem?_append_left (by omega)]
   ·have hk3:k=bs.length:=by omega
    subst hk3
    rw[List.take_length,List.drop_length,List.append_nil] at mbs
    rw[List.take_length] at mr
    have lx:=ld25h mx
    have ly:=ld25h my
    have bl:=bld86 x y
    have hlb:∀n:Nat,n=bs.length→True:=fun _ _=>trivial
    obtain ⟨vb',h5,ha,r5,k5,nb⟩:∃vb' h5,appendW C.P true hh 46 vb (.isl [encB (x,y)] .full)=some (vb',h5)∧RowS h5 vb' (putSK x y bs++[(x,y)])∧Keep hh h5 (idOf vb)∧∀i,idOf vb'=some i→hh.length≤i:=by
     have hsl:(putSK x y bs).length=bs.length:=by simp[putSK]
     rcases mbs with ⟨e,ev⟩ | ⟨id,ev,hid⟩
     ·rw[ev]
      exact ⟨_,_,appB0 hh (x,y),.inr ⟨hh.length,by rw[e];rfl,by rw[e];simp⟩,Keep.append _ _ _,fun i hi=>by simp only[idOf,Option.some.injEq] at hi;omega⟩
     ·rw[ev]
      have hidl:=(List.getElem?_eq_some_iff.1 hid).1
      exact ⟨_,_,appB1 (x,y) hid (by omega),.inr ⟨hh.length,by simp,by rw[List.getElem?_append_right (by simp)];simp⟩,⟨by simp,fun j hj hn=>by
       have:id≠j:=fun e=>hn (by rw[e];rfl)
       rw[List.getElem?_append_left (by simpa using hj),List.getElem?_set_ne this]⟩,fun i hi=>by simp only[idOf,Option.some.injEq] at hi;omega⟩
    simp[go_sem,g46,g47]
    refine W_regionS 16 _ (by simp[mixC]) rfl ?_
    have ms5:=k5.get ms (fun e=>(ivb s e).2 rfl)
    have hs5:=(List.getElem?_eq_some_iff.1 ms5).1
    have nt1:notTuple v10=true:=by rcases mrow with ⟨_,rfl⟩ | ⟨_,rfl,_⟩<;>rfl
    have nt2:notTuple vb'=true:=by rcases r5 with ⟨_,rfl⟩ | ⟨_,rfl,_⟩<;>rfl
    have t1:storeV C.P h5 248 (.ptr s 0) v10=some (h5.set s (.cells [v10,vb] .live)):=by
     have z:sizeV C.P 248=some 1:=by kernel_rfl
     rcases mrow with ⟨_,rfl⟩ | ⟨_,rfl,_⟩<;>simp[storeV,ms5,z]
    have t2:storeV C.P (h5.set s (.cells [v10,vb] .live)) 46 (.ptr s 1) vb'=some (h5.set s (.cells [v10,vb'] .live)):=by
     have z:sizeV C.P 46=some 1:=by kernel_rfl
     rcases r5 with ⟨_,rfl⟩ | ⟨_,rfl,_⟩<;>simp[storeV,List.getElem?_set_self hs5,z]
    have m6:(h5.set s (.cells [v10,vb'] .live))[pr]?=some (.cells [.bool (okPK x y ps&&okSK x y bs)] .live):=by
     rw[List.getElem?_set_ne (by omega)];exact k5.get mr (fun e=>by have:=(ivb pr e).1;omega)
    have l6:=ld4p m6
    simp[go_sem,g0,g4,g5,g8,g10,lb,lx,ly,bl,build46_1,nt_B,ha,t1,t2]
    refine ⟨?_,?_⟩
    ·rcases mbs with ⟨_,rfl⟩ | ⟨id,rfl,_⟩
     ·simp[go_sem,g4,g5,idsOk,ldIds,apIds,ldId,appId,mslId]
     ·have:=ivb id rfl
      simp[go_sem,g4,g5,idsOk,ldIds,apIds,ldId,appId,mslId]
      (try omega)
    ·have fin:∃vp' vb'',(h5.set s (.cells [v10,vb'] .live))[s]?=some (.cells [vp',vb''] .live)∧RowS (h5.set s (.cells [v10,vb'] .live)) vp' (putPK x y ps)∧RowS (h5.set s (.cells [v10,vb'] .live)) vb'' (putSK x y bs++[(x,y)])∧(∀i,idOf vp'=some i→idOf vb''≠some i) ∧
       ∀j,j<h0.length→j≠s→idOf vp≠some j→idOf vb≠some j→(h5.set s (.cells [v10,vb'] .live))[j]?=h0[j]?:=by
      refine ⟨v10,vb',List.getElem?_set_self hs5,?_,?_,?_,fun j hj hjs hv hw=>?_⟩
      ·rcases mrow with e | ⟨i,e,hi⟩
       ·exact .inl e
       ·have h1:=i10 i (by rw[e];rfl)
        exact .inr ⟨i,e,by rw[List.getElem?_set_ne (by omega)];exact k5.get hi (fun q=>by have:=(ivb i q).1;omega)⟩
      ·rcases r5 with e | ⟨i,e,hi⟩
       ·exact .inl e
       ·refine .inr ⟨i,e,?_⟩
        rw[List.getElem?_set_ne ?_]
        ·exact hi
        ·rintro rfl
         rw[ms5] at hi
         simp only[Option.some.injEq,VObj.cells.injEq] at hi
         have:=congrArg List.length hi.1
         rw[cellsB_len] at this
         simp at this;omega
      ·intro i hi hn
       have h1:=nb i hn
       rcases mrow with ⟨_,e⟩ | ⟨i2,e,hi2⟩
       ·rw[e] at hi;simp[idOf] at hi
       ·rw[e] at hi
        simp only[idOf,Option.some.injEq] at hi
        have:=(List.getElem?_eq_some_iff.1 hi2).1
        omega
      ·have hjl:j<hh.length:=by
        have:=(List.getElem?_eq_some_iff.1 mx).1;omega
       rw[List.getElem?_set_ne (fun e=>hjs e.symm),k5.2 j hjl hw];exact old j hj hjs hv hw
     cases hok:(okPK x y ps&&okSK x y bs)
     ·rw[hok] at l6
      simp[go_sem,l6]
      exact hR _ _ _ (.inr rfl) ⟨.int .i64 3,by simp[resultV,resV,Tryz.f323,go_sem],by rw[hok];rfl,fin⟩
     ·rw[hok] at l6
      simp[go_sem,l6]
      exact hR _ _ _ (.inr rfl) ⟨.int .i64 0,by simp[resultV,resV,Tryz.f323,go_sem],by rw[hok];rfl,fin⟩
end Go.VZ

/- One of two variables bound: the program's way walked. -/
namespace Go.VZ
open Go Go.V Go.Proofs TL
def twoU (a b:T):Ch:=if (a.sort=b.sort∧a.cmp b<0)∨(a.sort≠b.sort∧b.sort=0) then .ok b a else if a.sort≠b.sort∧a.sort≠0 then .bad 11 else .ok a b
theorem ldsort {h:H}{i:Nat}{t:T}(hi:h[i]?=some (.cells (enc t).cells .live)):loadV C.P h 3 (.ptr i 2)=some (.int .i64 t.sort):=by
 rw[enc_cells] at hi
 simp[loadV,hi,cellsAt,a3,s3]
theorem st25on {h:H}{i:Nat}{t:T}(u:T) (hi:h[i]?=some (.cells (enc t).cells .live)):storeV C.P h 25 (.ptr i 0) (enc u)=some (h.set i (.cells (enc u).cells .live)):=by
 have:=stAB (A:=[]) (B:=[]) u (show h[i]?=some (.cells ([]++(enc t).cells++[]) .live) by simpa using hi)
 simpa using this
set_option maxRecDepth 8000 in
set_option maxHeartbeats 8000000 in
theorem two321 (a b:T) (h0:H) (s:Nat) (ha:a.size<4000000) (hb:b.size<4000000) (Q:AV→H→Prop)
  (hq:∀x y:T,twoU a b=.ok x y→∀g,∃e h',Go.V.Call C 323 [.ptr s 0,enc x,enc y] (h0++g)=some (.int .i64 e,h')∧Q (.int .i64 e) h') (hc:twoU a b=.bad 11→∀g,Q (.int .i64 11) (h0++g)):∃r h',Go.V.Call C 321 [.ptr s 0,enc a,enc b] h0=some (r,h')∧Q r h':=by
 refine Call_WQ rfl Tryz.func321 rfl (by kernel_rfl) (by simp[Tryz.f321]) fun R hR=>?_
 have ls1:∀p q:T,loadV C.P (h0++[.cells (enc p).cells .live,.cells (enc q).cells .live]) 3 (.ptr h0.length 2)=some (.int .i64 p.sort):=fun p q=>ldsort (by simp)
 have ls2:∀p q:T,loadV C.P (h0++[.cells (enc p).cells .live,.cells (enc q).cells .live]) 3 (.ptr (h0.length+1) 2)=some (.int .i64 q.sort):=fun p q=>ldsort (by simp)
 have l1:∀p q:T,loadV C.P (h0++[.cells (enc p).cells .live,.cells (enc q).cells .live]) 25 (.ptr h0.length 0)=some (enc p):=fun p q=>ld25h (by simp)
 have l2:∀p q:T,loadV C.P (h0++[.cells (enc p).cells .live,.cells (enc q).cells .live]) 25 (.ptr (h0.length+1) 0)=some (enc q):=fun p q=>ld25h (by simp)
 have s1:∀p q u:T,storeV C.P (h0++[.cells (enc p).cells .live,.cells (enc q).cells .live]) 25 (.ptr h0.length 0) (enc u)=some (h0++[.cells (enc u).cells .live,.cells (enc q).cells .live]):=fun p q u=>by
  rw[st25on u (t:=p) (by simp)];simp
 have s2:∀p q u:T,storeV C.P (h0++[.cells (enc p).cells .live,.cells (enc q).cells .live]) 25 (.ptr (h0.length+1) 0) (enc u)=some (h0++[.cells (enc p).cells .live,.cells (enc u).cells .live]):=fun p q u=>by
  rw[st25on u (t:=q) (by simp)];simp
 have cm:=call112 a b ha hb
 have cb:∀(x y:T) (h:H),callV C h (.func 323 []) (some [.ptr s 0,enc x,enc y])=Go.V.Call C 323 [.ptr s 0,enc x,enc y] h:=fun x y h=>callV_open (by kernel_rfl) rfl
 unfold twoU at hq hc
 by_cases q1:a.sort=b.sort
 ·by_cases q2:a.cmp b<0
  ·obtain ⟨e,h',c1,hQ⟩:=hq b a (by rw[if_pos (.inl ⟨q1,q2⟩)]) [.cells (enc b).cells .live,.cells (enc a).cells .live]
   simp[go_sem,initS,box25f,ls1,ls2,l1,l2,s1,s2,cm,cb,q1,q2,c1]
   exact hR _ _ _ (.inr rfl) ⟨.int .i64 e,by simp[resultV,resV,Tryz.f321,go_sem],hQ⟩
  ·obtain ⟨e,h',c1,hQ⟩:=hq a b (by rw[if_neg (by simp[q1,q2]),if_neg (by simp[q1])]) [.cells (enc a).cells .live,.cells (enc b).cells .live]
   simp[go_sem,initS,box25f,ls1,ls2,l1,l2,cm,cb,q1,q2,c1]
   exact hR _ _ _ (.inr rfl) ⟨.int .i64 e,by simp[resultV,resV,Tryz.f321,go_sem],hQ⟩
 ·by_cases q2:b.sort=0
  ·obtain ⟨e,h',c1,hQ⟩:=hq b a (by rw[if_pos (.inr ⟨q1,q2⟩)]) [.cells (enc b).cells .live,.cells (enc a).cells .live]
   have q1':¬a.sort=0:=fun e=>q1 (by rw[e,q2])
   simp[go_sem,initS,box25f,ls1,ls2,l1,l2,s1,s2,cb,q1',q2,c1]
   exact hR _ _ _ (.inr rfl) ⟨.int .i64 e,by simp[resultV,resV,Tryz.f321,go_sem],hQ⟩
  ·by_cases q3:a.sort=0
   ·obtain ⟨e,h',c1,hQ⟩:=hq a b (by rw[if_neg (by simp[q1,q2]),if_neg (by simp[q3])]) [.cells (enc a).cells .live,.cells (enc b).cells .live]
    have q1':¬(0:Int)=b.sort:=fun e=>q2 e.symm
    simp[go_sem,initS,box25f,ls1,ls2,l1,l2,cb,q1',q2,q3,c1]
    exact hR _ _ _ (.inr rfl) ⟨.int .i64 e,by simp[resultV,resV,Tryz.f321,go_sem],hQ⟩
   ·have hQ:=hc (by rw[if_neg (by simp[q1,q2]),if_pos ⟨q1,q3⟩]) [.cells (enc a).cells .live,.cells (enc b).cells .live]
    simp[go_sem,initS,box25f,ls1,ls2,q1,q2,q3]
    exact hR _ _ _ (.inr rfl) ⟨.int .i64 11,by simp[resultV,resV,Tryz.f321,go_sem],hQ⟩
end Go.VZ

/- The program's state of a unification: what it holds; a binding in it. -/
namespace Go.VZ
open Go Go.V Go.Proofs TL
def RowQ (h:H) (v:AV) (ps:List (T × T)):Prop:=(∃x,v=.isl (ps.map encB) x∧∀t,x≠.tok t)∨∃id pre,v=.msl id (8*pre.length) 8 ps.length none∧h[id]?=some (.cells (cellsB (pre++ps)) .live)∧(pre++ps).length≤100000
theorem RowQ.rowP {h:H}{v:AV}{ps:List (T × T)}(r:RowQ h v ps):RowP h v ps:=by
 rcases r with e | ⟨id,pre,e,hid,_⟩
 ·exact .inl e
 ·exact .inr ⟨id,pre,none,e,hid⟩
theorem RowQ.bnd {h:H}{v:AV}{ps:List (T × T)}(r:RowQ h v ps):∀id pre c,v=.msl id (8*pre.length) 8 ps.length c→h[id]?=some (.cells (cellsB (pre++ps)) .live)→(pre++ps).length≤100000:=by
 intro id pre c e hid
 rcases r with ⟨x,e2,_⟩ | ⟨id2,pre2,e2,hid2,hl⟩
 ·rw[e2] at e;cases e
 ·rw[e2] at e
  simp only[AV.msl.injEq] at e
  obtain ⟨rfl,e4,_⟩:=e
  rw[hid] at hid2
  simp only[Option.some.injEq,VObj.cells.injEq] at hid2
  have:=congrArg List.length hid2.1
  rw[cellsB_len,cellsB_len] at this
  omega
theorem RowQ.of {h:H}{v:AV}{ps:List (T × T)}(r:RowS h v ps) (hl:ps.length≤100000):RowQ h v ps:=by
 rcases r with ⟨rfl,rfl⟩ | ⟨id,rfl,hid⟩
 ·exact .inl ⟨.full,rfl,fun t e=>by cases e⟩
 ·exact .inr ⟨id,[],by simp,by simpa using hid,by simpa using hl⟩
theorem RowQ.keep {h h':H}{v:AV}{ps:List (T × T)}(r:RowQ h v ps) (k:∀i,idOf v=some i→h'[i]?=h[i]?):RowQ h' v ps:=by
 rcases r with e | ⟨id,pre,rfl,hid,hl⟩
 ·exact .inl e
 ·exact .inr ⟨id,pre,rfl,by rw[k id rfl];exact hid,hl⟩
theorem RowS.keep {h h':H}{v:AV}{ps:List (T × T)}(r:RowS h v ps) (k:∀i,idOf v=some i→h'[i]?=h[i]?):RowS h' v ps:=by
 rcases r with e | ⟨id,rfl,hid⟩
 ·exact .inl e
 ·exact .inr ⟨id,rfl,by rw[k id rfl];exact hid⟩
theorem RowQ.lt {h:H}{v:AV}{ps:List (T × T)}(r:RowQ h v ps){i:Nat}(hi:idOf v=some i):i<h.length:=by
 rcases r with ⟨x,rfl,hx⟩ | ⟨id,pre,rfl,hid,hl⟩
 ·cases x with
  | tok t=>exact absurd rfl (hx t)
  | _=>cases hi
 ·simp only[idOf,Option.some.injEq] at hi;subst hi;exact (List.getElem?_eq_some_iff.1 hid).1
theorem RowQ.ne {h:H}{v:AV}{ps:List (T × T)}(r:RowQ h v ps){s:Nat}{x y:AV}(hs:h[s]?=some (.cells [x,y] .live)):∀i,idOf v=some i→i≠s:=by
 intro i hi e
 subst e
 rcases r with ⟨x,rfl,hx⟩ | ⟨id,pre,rfl,hid,hl⟩
 ·cases x with
  | tok t=>exact absurd rfl (hx t)
  | _=>cases hi
 ·simp only[idOf,Option.some.injEq] at hi;subst hi
  rw[hs] at hid
  simp only[Option.some.injEq,VObj.cells.injEq] at hid
  have:=congrArg List.length hid.1
  rw[cellsB_len] at this
  simp at this;omega
theorem RowS.lt {h:H}{v:AV}{ps:List (T × T)}(r:RowS h v ps){i:Nat}(hi:idOf v=some i):i<h.length:=by
 rcases r with ⟨_,rfl⟩ | ⟨id,rfl,hid⟩
 ·cases hi
 ·simp only[idOf,Option.some.injEq] at hi;subst hi;exact (List.getElem?_eq_some_iff.1 hid).1
theorem RowS.ne {h:H}{v:AV}{ps:List (T × T)}(r:RowS h v ps){s:Nat}{x y:AV}(hs:h[s]?=some (.cells [x,y] .live)):∀i,idOf v=some i→i≠s:=by
 intro i hi e
 subst e
 rcases r with ⟨_,rfl⟩ | ⟨id,rfl,hid⟩
 ·cases hi
 ·simp only[idOf,Option.some.injEq] at hi;subst hi
  rw[hs] at hid
  simp only[Option.some.injEq,VObj.cells.injEq] at hid
  have:=congrArg List.length hid.1
  rw[cellsB_len] at this
  simp at this;omega
def Took (h:H) (s:Nat) (ps bs:List (T × T)):Prop:=∃vp vb,h[s]?=some (.cells [vp,vb] .live)∧RowQ h vp ps∧RowS h vb bs∧∀i,idOf vp=some i→idOf vb≠some i
theorem Took.app {h:H}{s:Nat}{ps bs:List (T × T)}(t:Took h s ps bs) (g:H):Took (h++g) s ps bs:=by
 obtain ⟨vp,vb,hs,rp,rb,hn⟩:=t
 refine ⟨vp,vb,ga hs,rp.keep fun i hi=>?_,rb.keep fun i hi=>?_,hn⟩
 ·rw[List.getElem?_append_left (rp.lt hi)]
 ·rw[List.getElem?_append_left (rb.lt hi)]
theorem putK_size {x y:T}(hy:y.size≤400):∀t:T,(putK x y t).size≤400*t.size:=by
 refine T.ind fun t ih=>?_
 rw[putK_eq]
 have hp:=size_pos t
 split
 ·split
  ·omega
  ·omega
 ·have key:∀l:List T,(∀k∈l,(putK x y k).size≤400*k.size)→sizes (l.map (putK x y))≤400*sizes l:=by
   intro l
   induction l with
   | nil=>intro _;simp[sizes]
   | cons a l ihl=>
    intro h
    have h1:=h a List.mem_cons_self
    have h2:=ihl fun k hk=>h k (List.mem_cons_of_mem _ hk)
    rw[List.map_cons,sizes,sizes];omega
  have h1:=key t.kids ih
  have h2:∀k n s l,(T.mk k n s l).size=sizes l+1:=fun k n s l=>by rw[T.size]
  have h3:=size_kids t
  rw[h2]
  cases t with
  | mk k n s l=>simp only[T.kids] at h1 ⊢;rw[h2];omega
theorem put_law {x y:T}{ps:List (T × T)}(hx:x.kind=1) (hk:x.kids=[]) (hv:∀p∈ps,validE p.1=0∧validE p.2=0):putPK x y ps=putP x y ps∧okPK x y ps=okP x y ps∧putSK x y ps=putS x y ps∧okSK x y ps=okS x y ps:=by
 have h1:∀p∈ps,putK x y p.1=put1 x y p.1∧putK x y p.2=put1 x y p.2:=fun p hp=>⟨putK_put1 hx hk _ (valid_leafy (hv p hp).1),putK_put1 hx hk _ (valid_leafy (hv p hp).2)⟩
 refine ⟨List.map_congr_left fun p hp=>by rw[(h1 p hp).1,(h1 p hp).2],?_,List.map_congr_left fun p hp=>by rw[(h1 p hp).2],?_⟩
 ·unfold okPK okP
  rw[Bool.eq_iff_iff,List.all_eq_true,List.all_eq_true]
  exact forall₂_congr fun p hp=>by rw[(h1 p hp).1,(h1 p hp).2]
 ·unfold okSK okS
  rw[Bool.eq_iff_iff,List.all_eq_true,List.all_eq_true]
  exact forall₂_congr fun p hp=>by rw[(h1 p hp).2]
theorem bindU (x y:T) (ps bs:List (T × T)) (h:H) (s:Nat) (t:Took h s ps bs) (hx:x.kind=1) (vx:validE x=0) (vy:validE y=0) (hv:∀p∈ps,validE p.1=0∧validE p.2=0) (hb:∀p∈bs,validE p.1=0∧validE p.2=0) (hpl:ps.length≤100000) (hbl:bs.length≤4000) :
  ∃e h',Go.V.Call C 323 [.ptr s 0,enc x,enc y] h=some (.int .i64 e,h')∧(if okU x y ps bs=true then e=0∧Took h' s (putP x y ps) (putS x y bs++[(x,y)]) else e=3):=by
 obtain ⟨vp,vb,hs,rp,rb,hn⟩:=t
 have sz:∀u:T,validE u=0→u.size≤400:=fun u hu=>(nodes_zero hu).2.1
 have xk:x.kids=[]:=valid_leafy vx x (walk_self x) hx
 obtain ⟨r,h',hc,hr,vp',vb',hs',rp',rb',hn',_⟩:=bind323 x y h s vp vb ps bs hs rp.rowP rb hn hpl hbl rp.bnd (fun p hp=>⟨sz _ (hv p hp).1,sz _ (hv p hp).2⟩) (fun b hb'=>sz _ (hb b hb').2) (fun u hu=>by have:=putK_size (x:=x) (sz y vy) u;omega)
 obtain ⟨e1,e2,_,_⟩:=put_law (y:=y) hx xk hv
 obtain ⟨_,_,e3,e4⟩:=put_law (y:=y) hx xk hb
 rw[e1] at rp'
 rw[e3] at rb'
 rw[e2,e4] at hr
 subst hr
 refine ⟨_,h',hc,?_⟩
 unfold okU
 by_cases q:(okP x y ps&&okS x y bs)=true
 ·rw[if_pos q,if_pos q]
  exact ⟨rfl,vp',vb',hs',RowQ.of rp' (by simp[putP];omega),rb',hn'⟩
 ·rw[if_neg q,if_neg q]
end Go.VZ

/- Rows of pairs in the program's state: the first pair, the rest, appending. -/
namespace Go.VZ
open Go Go.V Go.Proofs TL
theorem bld250 (a b:T):buildV C.P 250 [(0,enc a),(1,enc b)]=some (encB (a,b)):=by
 rw[enc_eq a,enc_eq b]
 have e:∀(k s k' s':Int) (n n':ByteArray) (l l':List AV),buildV C.P 250 [(0,.agg [.int .i64 k,.str n,.int .i64 s,.isl l .unk]),(1,.agg [.int .i64 k',.str n',.int .i64 s',.isl l' .unk])]=some (.agg [.int .i64 k,.str n,.int .i64 s,.isl l .unk,.int .i64 k',.str n',.int .i64 s',.isl l' .unk]):=fun k s k' s' n n' l l'=>by kernel_rfl
 exact e _ _ _ _ _ _ _ _
theorem build248_1 (h:H) (b:T × T):buildSliceV C.P h 248 1 [(0,encB b)]=some (.isl [encB b] .full,h):=buildSlice_dats u248 s250 z250 rfl (by omega) rfl rfl rfl (by simp) rfl
theorem fa250i_0 (e:AV):fieldAddrV C.P 250 (.iptr e 0) 0=some (.iptr e 0):=by kernel_rfl
theorem fa250i_1 (e:AV):fieldAddrV C.P 250 (.iptr e 0) 1=some (.iptr e 4):=by kernel_rfl
theorem RowQ.len {h:H}{v:AV}{ps:List (T × T)}(r:RowQ h v ps):lenV C.P 248 v=some (.int .i64 ps.length):=by
 rcases r with ⟨x,rfl,_⟩ | ⟨id,pre,rfl,_⟩
 ·simp[lenV,u248]
 ·simp[lenV,u248]
theorem RowQ.nt {h:H}{v:AV}{ps:List (T × T)}(r:RowQ h v ps):notTuple v=true:=by
 rcases r with ⟨x,rfl,_⟩ | ⟨id,pre,rfl,_⟩<;>rfl
theorem RowS.nt {h:H}{v:AV}{ps:List (T × T)}(r:RowS h v ps):notTuple v=true:=by
 rcases r with ⟨_,rfl⟩ | ⟨id,rfl,_⟩<;>rfl
theorem RowQ.head {h:H}{v:AV}{p:T × T}{ps:List (T × T)}(r:RowQ h v (p::ps)):∃A A4,indexAddrV C.P 248 v (.int .i64 0)=some A∧fieldAddrV C.P 250 A 0=some A∧fieldAddrV C.P 250 A 1=some A4 ∧
  (∀h':H,(∀i,idOf v=some i→h'[i]?=h[i]?)→loadV C.P h' 25 A=some (enc p.1)∧loadV C.P h' 25 A4=some (enc p.2))∧lids A=(idOf v).toList∧lids A4=(idOf v).toList∧∀n k,(∀i,idOf v=some i→i≠n)→A.mv n k=A∧A4.mv n k=A4∧v.mv n k=v:=by
 rcases r with ⟨x,rfl,hx⟩ | ⟨id,pre,rfl,hid,hl⟩
 ·refine ⟨.iptr (encB p) 0,.iptr (encB p) 4,?_,fa250i_0 _,fa250i_1 _,fun h' _=>⟨ld25i0 p h',ld25i4 p h'⟩,?_,?_,fun n k _=>⟨rfl,rfl,isl_mv fun t e=>absurd e (hx t)⟩⟩
  ·have:=idx203 (p::ps) 0 (by simp) x
   simp[indexAddrV,u248,s250,encB,cells_agg]
  ·cases x with
   | tok t=>exact absurd rfl (hx t)
   | _=>rfl
  ·cases x with
   | tok t=>exact absurd rfl (hx t)
   | _=>rfl
 ·have e1:cellsB (pre++p::ps)=cellsB pre++(enc p.1).cells++((enc p.2).cells++cellsB ps):=by rw[cellsB_append,cellsB_cons];simp only[List.append_assoc]
  have e2:cellsB (pre++p::ps)=(cellsB pre++(enc p.1).cells)++(enc p.2).cells++cellsB ps:=by rw[e1];simp only[List.append_assoc]
  have e3:=cellsB_len pre
  refine ⟨.ptr id (8*pre.length),.ptr id (8*pre.length+4),?_,fa250_0 _ _,fa250_1 _ _,fun h' hh=>⟨?_,?_⟩,rfl,rfl,fun n k hn=>?_⟩
  ·simp[indexAddrV,u248,s250]
  ·have:=ldAB (h:=h') (i:=id) (A:=cellsB pre) (t:=p.1) (B:=(enc p.2).cells++cellsB ps) (by rw[hh id rfl,hid,e1])
   rwa [e3] at this
  ·have:=ldAB (h:=h') (i:=id) (A:=cellsB pre++(enc p.1).cells) (t:=p.2) (B:=cellsB ps) (by rw[hh id rfl,hid,e2])
   rwa [List.length_append,e3,enc4] at this
  ·have:=hn id rfl
   exact ⟨by simp[AV.mv,this],by simp[AV.mv,this],by simp[AV.mv,this]⟩
theorem RowQ.tail {h:H}{v:AV}{p:T × T}{ps:List (T × T)}(r:RowQ h v (p::ps)):∃v',sliceV C.P 248 v (some (.int .i64 1)) none none=some v'∧RowQ h v' ps∧∀i,idOf v'=some i→idOf v=some i:=by
 rcases r with ⟨x,rfl,hx⟩ | ⟨id,pre,rfl,hid,hl⟩
 ·have hs:=szOk_B (p::ps)
  simp only[List.map_cons] at hs
  have h1:(1:Int)≤(ps.length:Int)+1:=by omega
  have h2:List.take ps.length (List.map encB ps)=List.map encB ps:=List.take_of_length_le (by simp)
  refine ⟨.isl (ps.map encB) (if x=.full then .full else .unk),?_,.inl ⟨_,rfl,fun t=>by split<;>simp⟩,fun i hi=>?_⟩
  ·simp[sliceV,u248,s250,bndO,bndV,hs,h1,h2]
  ·split at hi<;>cases hi
 ·have h1:(1:Int)≤(ps.length:Int)+1:=by omega
  by_cases h0:ps=[]
  ·subst h0
   exact ⟨.isl [] .unk,by simp[sliceV,u248,s250,bndO,bndV],.inl ⟨.unk,rfl,fun t e=>by cases e⟩,fun i hi=>by cases hi⟩
  ·have hp:0<ps.length:=List.length_pos_iff.2 h0
   refine ⟨.msl id (8*pre.length+8) 8 ps.length none,by simp[sliceV,u248,s250,bndO,bndV,h1,hp],.inr ⟨id,pre++[p],by simp;omega,by simpa using hid,by simpa using hl⟩,fun i hi=>hi⟩
theorem appQ {h:H}{v w:AV}{xs ys:List (T × T)}(r:RowS h v xs) (q:RowQ h w ys) (hl:xs.length+ys.length≤100000) :
  ∃v' h',appendW C.P true h 248 v w=some (v',h')∧RowS h' v' (xs++ys)∧Keep h h' (idOf v)∧(∀i,idOf v'=some i→h.length≤i∨(ys=[]∧v'=v)):=by
 have e4:srcV h 8 w=some (cellsB ys,ys.length):=by
  rcases q with ⟨x,rfl,_⟩ | ⟨id,pre,rfl,hid,hl2⟩
  ·simp only[srcV,szOk_B ys,if_true,cellsB_map,List.length_map]
  ·have e1:=cellsB_len (pre++ys)
   have e2:=cellsB_len pre
   have e3:=cellsB_len ys
   rw[List.length_append] at e1
   simp only[srcV,hid]
   rw[if_pos ⟨trivial,by omega⟩,cellsB_append,List.drop_left' e2,List.take_of_length_le (by omega)]
 simp only[appendW,Bool.not_true,Bool.false_eq_true,if_false]
 rcases r with ⟨rfl,rfl⟩ | ⟨id,rfl,hid⟩
 ·by_cases h0:ys.length=0
  ·have:ys=[]:=List.length_eq_zero_iff.1 h0
   subst this
   refine ⟨.isl [] .full,h,?_,.inl ⟨rfl,rfl⟩,.refl _ _,fun i hi=>by cases hi⟩
   simp only[knownCap,Bool.false_eq_true,if_false,appendN,u248,s250,b250,z250,e4]
   simp
  ·refine ⟨.msl h.length 0 8 ys.length none,h++[.cells (cellsB ys) .live],?_,.inr ⟨h.length,rfl,by simp⟩,.append _ _ _,fun i hi=>by simp only[idOf,Option.some.injEq] at hi;omega⟩
   simp only[knownCap,Bool.false_eq_true,if_false,appendN,u248,s250,b250,z250,e4]
   have h2:ys.length*113≤35184372088832:=by simp only[List.length_nil] at hl;omega
   simp[h0,h2,szOk]
 ·have hcl:=cellsB_len xs
  by_cases h0:ys.length=0
  ·have:ys=[]:=List.length_eq_zero_iff.1 h0
   subst this
   refine ⟨.msl id 0 8 xs.length none,h,?_,.inr ⟨id,by simp,by simpa using hid⟩,.refl _ _,fun i hi=>.inr ⟨rfl,rfl⟩⟩
   simp only[knownCap,Bool.false_eq_true,if_false,appendN,u248,s250,b250,z250,e4]
   simp
  ·have hidl:=(List.getElem?_eq_some_iff.1 hid).1
   refine ⟨.msl h.length 0 8 (xs.length+ys.length) none,h.set id (.cells (cellsB xs) .dead)++[.cells (cellsB (xs++ys)) .live],?_,.inr ⟨h.length,by simp,by rw[List.getElem?_append_right (by simp)];simp⟩,⟨by simp,fun j hj hn=>?_⟩,fun i hi=>by simp only[idOf,Option.some.injEq] at hi;omega⟩
   ·simp only[knownCap,Bool.false_eq_true,if_false,appendN,u248,s250,b250,z250,e4,hid]
    rw[if_neg (by simp),if_neg h0,if_pos ⟨trivial,trivial,by omega,by omega⟩,List.take_of_length_le (by omega),cellsB_append]
   ·have:id≠j:=fun e=>hn (by rw[e];rfl)
    rw[List.getElem?_append_left (by simpa using hj),List.getElem?_set_ne this]
theorem fitsB_U {x t:T}(vx:validE x=0) (vt:validE t=0) (kx:x.kind=1) (kt:t.kind≠1):fitsB x t = !decide (x.sort≠0∧(t.kind≠2∨t.sort≠x.sort)):=by
 have h1:t.kind=1∨t.kind=2∨t.kind=3:=by
  have:=nodesE_node (nodes_zero vt).1
  unfold nodeE at this
  split at this
  ·cases this
  ·rename_i hb
   simp only[badN] at hb
   by_cases a1:t.kind=1<;>by_cases a2:t.kind=2<;>by_cases a3:t.kind=3<;>simp[a1,a2,a3] at hb ⊢
 unfold fitsB
 simp only[vx,vt,kx,decide_true,Bool.true_and]
 rw[Bool.eq_iff_iff]
 simp only[Bool.or_eq_true,Bool.and_eq_true,decide_eq_true_eq,Bool.not_eq_true',decide_eq_false_iff_not]
 omega
end Go.VZ
