/- Calls that work on the caller's memory and answer data; the program's put of a term for a variable: walked. -/
import Derived.Test.YtdoegkegjaadeaaGreatDoorSe
import Derived.Test.YtdoegkegjaadeaaGreatDoorV35
namespace Go.V
open Go
theorem beqB (a b:ByteArray):(a==b)=decide (a=b):=by
 cases a with | mk a=>cases b with | mk b=>
 show (a==b)=_
 rw[Bool.eq_iff_iff]
 simp
mutual
theorem AV.same_refl:∀a:AV,AV.same a a=true
 | .bool b=>by simp[AV.same]
 | .int k n=>by simp[AV.same]
 | .str s=>by simp[AV.same]
 | .nilptr=>rfl
 | .ptr a b=>by simp[AV.same]
 | .iptr e o=>by simp[AV.same,AV.same_refl e]
 | .isl es x=>by simp[AV.same,AV.sames_refl es]
 | .msl a b c d e=>by simp[AV.same]
 | .nilmap=>rfl
 | .nilFunc=>rfl
 | .func f cs=>by simp[AV.same,AV.sames_refl cs]
 | .nilIface=>rfl
 | .iface t v=>by simp[AV.same,AV.same_refl v]
 | .agg cs=>by simp[AV.same,AV.sames_refl cs]
 | .tuple cs=>by simp[AV.same,AV.sames_refl cs]
 | .yield i=>by simp[AV.same]
 | .mp i=>by simp[AV.same]
theorem AV.sames_refl:∀l:List AV,AV.sames l l=true
 | []=>rfl
 | a::l=>by simp[AV.sames,AV.same_refl a,AV.sames_refl l]
end
theorem nlB_app:∀h g:H,nlB h (h++g)=true
 | [],g=>by cases g<;>rfl
 | o::h,g=>by
  have:=nlB_app h g
  cases o<;>simp[nlB,AV.sames_refl,this]
theorem freezeAll_get:∀(h:H) (j:Nat),(freezeAll h)[j]?=(match h[j]? with | some (.cells cs .live)=>some (.cells cs .frozen) | x=>x)
 | [],j=>by simp[freezeAll]
 | o::h,0=>by
  cases o with
  | cells cs st=>cases st<;>rfl
  | _=>rfl
 | o::h,j+1=>by
  have:=freezeAll_get h j
  cases o with
  | cells cs st=>cases st<;>simpa [freezeAll] using this
  | _=>simpa [freezeAll] using this
theorem freeze_news (h g:H):freeze (h++g) (news h (h++g))=h++freezeAll g:=by
 apply List.ext_getElem?
 intro j
 rw[freeze_spec]
 by_cases hj:j<h.length
 ·have hn:j∉news h (h++g):=by simp[news,List.mem_range'_1];omega
  rw[List.getElem?_append_left hj,List.getElem?_append_left hj]
  cases e:h[j]? with
  | none=>rfl
  | some o=>cases o with
   | cells cs st=>cases st<;>simp[hn]
   | _=>rfl
 ·rw[List.getElem?_append_right (by omega),List.getElem?_append_right (by omega),freezeAll_get]
  cases e:g[j-h.length]? with
  | none=>rfl
  | some o=>
   have hlt:=(List.getElem?_eq_some_iff.1 e).1
   have hn:j∈news h (h++g):=by simp[news,List.mem_range'_1];omega
   cases o with
   | cells cs st=>cases st<;>simp[hn]
   | _=>rfl
end Go.V
namespace Go.VZ
open Go Go.V Go.Proofs TL
theorem callV_F {f:FuncId}{args:List AV}{h g:H}{r v:AV}(hb:hasBody C.P f=true) (hm:C.mode f=.openF) (hc:Go.V.Call C f args h=some (r,h++g)) (hs:snap (h++freezeAll g) deep r=some v):callV C h (.func f []) (some args)=some (v,h++freezeAll g):=by
 simp only[callV,hb,if_true,List.append_nil]
 unfold applyCall
 rw[hm]
 dsimp only
 rw[hc]
 simp only[nlB_app,if_true,freeze_news,hs]
def Pre (h0 h:H):Prop:=∃g,h=h0++g
theorem Pre.refl (h:H):Pre h h:=⟨[],by simp⟩
theorem Pre.app {h0 h:H}(p:Pre h0 h) (g:H):Pre h0 (h++g):=by obtain ⟨a,rfl⟩:=p;exact ⟨a++g,by simp⟩
theorem Pre.set {h0 h:H}(p:Pre h0 h){i:Nat}(hi:h0.length≤i) (o:VObj):Pre h0 (h.set i o):=by
 obtain ⟨a,rfl⟩:=p
 exact ⟨a.set (i-h0.length) o,by rw[List.set_append];simp[show ¬i<h0.length by omega]⟩
theorem Pre.get {h0 h:H}(p:Pre h0 h){j:Nat}{o:VObj}(e:h0[j]?=some o):h[j]?=some o:=by obtain ⟨a,rfl⟩:=p;exact ga e
theorem Pre.trans {a b c:H}(p:Pre a b) (q:Pre b c):Pre a c:=by obtain ⟨g,rfl⟩:=p;obtain ⟨k,rfl⟩:=q;exact ⟨g++k,by simp⟩
theorem Pre.len {h0 h:H}(p:Pre h0 h):h0.length≤h.length:=by obtain ⟨a,rfl⟩:=p;simp
theorem same318 (a b:T) (hs:a.size<4000000) (hs2:b.size<4000000):CallP C 318 [enc a,enc b]=some (.bool (decide (a.cmp b=0))):=by
 refine CallP_W rfl Tryz.func318 rfl (by kernel_rfl) (by simp[Tryz.f318]) fun R hR=>?_
 have c1:=call112 a b hs hs2
 simp[go_sem,initS,terms,ld25c,ld25d,c1]
 refine hR _ _ _ (.inr rfl) ⟨.bool (decide (a.cmp b=0)),by simp[resultV,resV,Tryz.f318,go_sem],snap_dat rfl rfl⟩
theorem call318 (a b:T) (hs:a.size<4000000) (hs2:b.size<4000000) (h:H):callV C h (.func 318 []) (some [enc a,enc b])=some (.bool (decide (a.cmp b=0)),h):=callV_strip (by kernel_rfl) rfl (dat_enc2 _ _) (by simp[short_enc]) (by simp) (same318 a b hs hs2)
theorem isVar320 (a:T):CallP C 320 [enc a]=some (.bool (isVr a)):=by
 refine CallP_W rfl Tryz.func320 rfl (by kernel_rfl) (by simp[Tryz.f320]) fun R hR=>?_
 simp[go_sem,initS,box25]
 refine hR _ _ _ (.inr rfl) ⟨.bool (isVr a),by simp[resultV,resV,Tryz.f320,go_sem,isVr],snap_dat rfl rfl⟩
theorem call320 (a:T) (h:H):callV C h (.func 320 []) (some [enc a])=some (.bool (isVr a),h):=callV_strip (by kernel_rfl) rfl (dat_enc _) (by simp[short_enc]) (by simp) (isVar320 a)
def keyV (x:T):AV:=.agg [.str x.name,.int .i64 x.sort]
theorem key346 (x:T):CallP C 346 [enc x]=some (keyV x):=by
 refine CallP_W rfl Tryz.func346 rfl (by kernel_rfl) (by simp[Tryz.f346]) fun R hR=>?_
 have k1:loadV C.P [.cells (enc x).cells .live,.cells [.str ⟨#[]⟩,.int .i64 0] .live] 9 (.ptr 0 1)=some (.str x.name):=by simp[loadV,cellsAt,a9,s9,enc_cells]
 have k2:loadV C.P [.cells (enc x).cells .live,.cells [.str ⟨#[]⟩,.int .i64 0] .live] 3 (.ptr 0 2)=some (.int .i64 x.sort):=by simp[loadV,cellsAt,a3,s3,enc_cells]
 have z:zeroV C.P 351=some (.agg [.str ⟨#[]⟩,.int .i64 0]):=by kernel_rfl
 have b:buildV C.P 351 [(0,.str x.name),(1,.int .i64 x.sort)]=some (keyV x):=by
  have e:∀(n:ByteArray) (s:Int),buildV C.P 351 [(0,.str n),(1,.int .i64 s)]=some (.agg [.str n,.int .i64 s]):=fun n s=>by kernel_rfl
  exact e _ _
 have s351:sizeV C.P 351=some 2:=by kernel_rfl
 have a351:isAggB C.P 351=some true:=by kernel_rfl
 have st:storeV C.P [.cells (enc x).cells .live,.cells [.str ⟨#[]⟩,.int .i64 0] .live] 351 (.ptr 1 0) (keyV x)=some [.cells (enc x).cells .live,.cells [.str x.name,.int .i64 x.sort] .live]:=by
  simp[storeV,s351,keyV]
 simp[go_sem,box25,z,cells_agg]
 rw[←enc_cells]
 simp[go_sem,k1,b,st,notTuple]
 refine hR _ _ _ (.inr rfl) ⟨keyV x,by simp[resultV,resV,Tryz.f346,go_sem,loadV,cellsAt,s351,a351,keyV],snap_dat rfl rfl⟩
theorem call346 (x:T) (h:H):callV C h (.func 346 []) (some [enc x])=some (keyV x,h):=callV_strip (by kernel_rfl) rfl (dat_enc _) (by simp[short_enc]) (by simp) (key346 x)
theorem pv_prog:pureVal Tryz.prog program=some Tryz.prog:=rfl
theorem pv_under {t:TypeId}{d:TypeDesc}(h:Tryz.prog.underlying t=some d):pureVal Tryz.prog (underlying t)=some d:=by
 unfold underlying
 rw[pureVal_bind,pv_prog,Option.bind_some,h];rfl
theorem eqS (n:Nat) (a b:ByteArray):pureVal Tryz.prog (Op.equalIn (n+1) 9 (.string a) (.string b))=some (a==b):=by
 rw[Op.equalIn,pureVal_bind,pv_under Tryz.underlying9]
 rfl
theorem eqI (n:Nat) (a b:Int):pureVal Tryz.prog (Op.equalIn (n+1) 3 (.int .i64 a) (.int .i64 b))=some (a==b):=by
 rw[Op.equalIn,pureVal_bind,pv_under Tryz.underlying3]
 rfl
theorem pt9 (a:ByteArray) (s:Int):pureVal Tryz.prog (part 9 #[.string a,.int .i64 s] 0)=some (.string a):=by kernel_rfl
theorem pt3 (a:ByteArray) (s:Int):pureVal Tryz.prog (part 3 #[.string a,.int .i64 s] 1)=some (.int .i64 s):=by kernel_rfl
theorem eqK (n:Nat) (a b:ByteArray) (s r:Int):pureVal Tryz.prog (Op.equalIn (n+2) 351 (.agg #[.string a,.int .i64 s]) (.agg #[.string b,.int .i64 r]))=some ((a==b)&&(s==r)):=by
 have hst:Tryz.prog.stoodInHeld 351=false:=by kernel_rfl
 rw[Op.equalIn,pureVal_bind,pv_under Tryz.underlying351]
 simp only[Option.bind_some]
 cases h1:(a==b)<;>cases h2:(s==r)<;>simp[pureVal_bind,pv_prog,hst,pt9,pt3,eqS,eqI,h1,h2,pureVal_pure]
theorem ck351f (a:ByteArray) (s:Int):pureVal Tryz.prog (Instr.checkKey false 10000 351 (.agg #[.string a,.int .i64 s]))=some ():=by kernel_rfl
theorem find351 (a b:ByteArray) (s r:Int) (v:AV):findV Tryz.prog false 351 (.agg [.str a,.int .i64 s]) [(.agg [.str b,.int .i64 r],v)]=some (if (a==b&&s==r)=true then some 0 else none):=by
 have e1:toVal (.agg [.str a,.int .i64 s])=some (.agg #[.string a,.int .i64 s]):=rfl
 have e2:keyEntries [(.agg [.str b,.int .i64 r],v)] 0=some [{key:=.agg #[.string b,.int .i64 r],val:=.int .i64 0,born:=0}]:=rfl
 unfold findV
 rw[e1,e2]
 dsimp only
 unfold asksV
 rw[pureVal_bind,ck351f]
 simp only[Option.bind_some]
 unfold Instr.findKey
 rw[pureVal_bind,pv_under Tryz.underlying351]
 simp only[Option.bind_some,Instr.findNow,Instr.sameNow]
 unfold Instr.findAsking
 rw[pureVal_bind]
 have:pureVal Tryz.prog (Op.equal 351 (.agg #[.string a,.int .i64 s]) (.agg #[.string b,.int .i64 r]))=some ((a==b)&&(s==r)):=eqK 9998 a b s r
 rw[this]
 cases h:(a==b&&s==r)<;>simp[pureVal_pure,Instr.findAsking]
theorem find351n (a:ByteArray) (s:Int):findV Tryz.prog false 351 (.agg [.str a,.int .i64 s]) []=some none:=by
 have e1:toVal (.agg [.str a,.int .i64 s])=some (.agg #[.string a,.int .i64 s]):=rfl
 unfold findV
 rw[e1]
 dsimp only[keyEntries]
 unfold asksV
 rw[pureVal_bind,ck351f]
 simp only[Option.bind_some]
 unfold Instr.findKey
 rw[pureVal_bind,pv_under Tryz.underlying351]
 rfl
theorem u353:C.P.underlying 353=some (.map 351 25):=Tryz.underlying353
def MapIs (h:H) (q:Nat) (x y:T):Prop:=h[q]?=some (.map [(keyV x,enc y)])
theorem lk353 {h:H}{q:Nat}{x y:T}(t:T) (hq:MapIs h q x y):lookupV C.P h 353 (.mp q) (keyV t) true=some (if t.name=x.name∧t.sort=x.sort then .tuple [enc y,.bool true] else .tuple [.agg zc,.bool false]):=by
 have hf:=find351 t.name x.name t.sort x.sort (enc y)
 have hz:zeroV C.P 25=some (.agg zc):=zv25
 unfold lookupV
 rw[u353]
 dsimp only
 rw[show h[q]?=some (.map [(keyV x,enc y)]) from hq]
 dsimp only
 rw[show findV C.P (List.isEmpty [(keyV x,enc y)]) 351 (keyV t) [(keyV x,enc y)]=_ from hf]
 rw[beqB]
 by_cases e:t.name=x.name∧t.sort=x.sort
 ·rw[if_pos e,if_pos (by simp[e.1,e.2])];rfl
 ·rw[if_neg e,if_neg (by simpa using e)]
  dsimp only
  rw[hz];rfl
theorem ins353 {h:H}{q:Nat}(x y:T) (hq:h[q]?=some (.map [])):mapUpdateV C.P h 353 (.mp q) (keyV x) (enc y)=some (h.set q (.map [(keyV x,enc y)])):=by
 have hf:=find351n x.name x.sort
 unfold mapUpdateV
 rw[u353]
 dsimp only
 rw[hq]
 dsimp only
 rw[show findV C.P false 351 (keyV x) []=_ from hf]
 rw[show notTuple (enc y)=true from notTuple_enc y,if_neg (by simp)]
 dsimp only
 rw[if_pos (show (toVal (keyV x)).isSome=true from rfl)];rfl
end Go.VZ

/- The program's put of a term for a variable: walked. -/
namespace Go.VZ
open Go Go.V Go.Proofs TL
mutual
def putK (x y:T):T→T
 | .mk k n s l=>if k=1 then (if n=x.name∧s=x.sort then y else .mk k n s l) else .mk k n s (putKs x y l)
def putKs (x y:T):List T→List T
 | []=>[]
 | t::l=>putK x y t::putKs x y l
end
theorem putKs_map (x y:T):∀l,putKs x y l=l.map (putK x y)
 | []=>rfl
 | t::l=>by rw[putKs,putKs_map x y l];rfl
theorem putK_eq (x y t:T):putK x y t=if t.kind=1 then (if t.name=x.name∧t.sort=x.sort then y else t) else .mk t.kind t.name t.sort (t.kids.map (putK x y)):=by cases t;rw[putK,putKs_map];rfl
theorem T.ext {a b:T}(h1:a.kind=b.kind) (h2:a.name=b.name) (h3:a.sort=b.sort) (h4:a.kids=b.kids):a=b:=by
 cases a;cases b;simp only[T.kind,T.name,T.sort,T.kids] at h1 h2 h3 h4;subst h1;subst h2;subst h3;subst h4;rfl
theorem putK_put1 {x y:T}(hx:x.kind=1) (hk:x.kids=[]):∀t:T,leafy t→putK x y t=put1 x y t:=by
 refine T.ind fun t ih ht=>?_
 rw[putK_eq,put1_eq]
 by_cases h1:t.kind=1
 ·rw[if_pos h1]
  have htk:=ht t (walk_self t) h1
  by_cases h2:t.name=x.name∧t.sort=x.sort
  ·rw[if_pos h2,if_pos (cmp_zero.2 (T.ext (h1.trans hx.symm) h2.1 h2.2 (htk.trans hk.symm)))]
  ·rw[if_neg h2,if_neg (fun e=>h2 (by rw[cmp_zero.1 e];exact ⟨rfl,rfl⟩))]
   exact T.ext rfl rfl rfl (by rw[htk];rfl)
 ·rw[if_neg h1,if_neg (fun e=>h1 (by rw[cmp_zero.1 e];exact hx))]
  congr 1
  exact List.map_congr_left fun k hk=>ih k hk (leafy_kid ht hk)
theorem snapF_n {hf:H}{id:Nat}{l:List T}{cap:Option Nat}(hid:hf[id]?=some (.cells (cellsT l) .frozen)) (n:Nat) (hn:900000+(cellsT l).length+3≤n):snap hf (n+1) (.msl id 0 4 l.length cap)=some (terms l):=by
 have e2:=(dats_snap (h:=hf) (dats_cellsT l) (short_cellsT l) n hn).1
 have e3:=cellsT_len l
 simp only[snap,hid,e2]
 rw[if_pos (by omega),List.drop_zero,chunk_cellsT];rfl
theorem snapF_t {hf:H}{v:AV}{l:List T}(k s:Int) (nm:ByteArray) (n:Nat) (e1:snap hf (n+1) v=some (terms l)):snap hf (n+6) (.agg [.int .i64 k,.str nm,.int .i64 s,v])=some (.agg [.int .i64 k,.str nm,.int .i64 s,terms l]):=by
 have k1:∀(m:Nat) (z:Int),snap hf (m+1) (.int .i64 z)=some (.int .i64 z):=fun _ _=>rfl
 have k2:∀(m:Nat) (z:ByteArray),snap hf (m+1) (.str z)=some (.str z):=fun _ _=>rfl
 have k3:snaps hf (n+5) [.int .i64 k,.str nm,.int .i64 s,v]=some [.int .i64 k,.str nm,.int .i64 s,terms l]:=by simp only[snaps,e1,k1,k2]
 have k4:snap hf (n+6) (.agg [.int .i64 k,.str nm,.int .i64 s,v])=(match snaps hf (n+5) [.int .i64 k,.str nm,.int .i64 s,v] with
  | some l=>some (.agg l)
  | none=>none):=rfl
 rw[k4,k3]
theorem snapF {hf:H}{id:Nat}{l:List T}{cap:Option Nat}(hid:hf[id]?=some (.cells (cellsT l) .frozen)) (hl:l.length≤20000) (k s:Int) (nm:ByteArray):snap hf deep (.agg [.int .i64 k,.str nm,.int .i64 s,.msl id 0 4 l.length cap])=some (.agg [.int .i64 k,.str nm,.int .i64 s,terms l]):=by
 have e3:=cellsT_len l
 exact snapF_t k s nm 999994 (snapF_n hid 999994 (by omega))
def zs (n:Nat):List AV:=(List.replicate n zc).flatten
theorem zs_succ (n:Nat):zs (n+1)=zc++zs n:=by rw[zs,List.replicate_succ,List.flatten_cons];rfl
theorem mk23 (wr:Bool) (h:H) (n:Nat) (h0:0<n) (hn:n≤1000000):makeSliceV C.P wr h 23 (.int .i64 n) (.int .i64 n)=some (.msl h.length 0 4 n (some n),h++[.cells (zs n) .live]):=by
 have h1:(n:Int)≤1073741824:=by omega
 have h2:¬n=0:=by omega
 simp[makeSliceV,u23,s25,b25,zv25,z25,h1,h2,cells_agg,zs,zc]
theorem stZ {h:H}{id:Nat}{l:List T}{rest:List AV}(t:T) (hid:h[id]?=some (.cells (cellsT l++(zc++rest)) .live)):storeV C.P h 25 (.ptr id (4*l.length)) (enc t)=some (h.set id (.cells (cellsT (l++[t])++rest) .live)):=by
 have e3:=cellsT_len l
 have e4:cellsT (l++[t])=cellsT l++(enc t).cells:=by simp[cellsT]
 have e5:(enc t).cells.length=4:=by rw[enc_cells];rfl
 have ev:enc t=.agg (enc t).cells:=by rw[enc_cells,enc_eq]
 have a1:(cellsT l++(zc++rest)).take (4*l.length)=cellsT l:=by rw[List.take_append_of_le_length (by omega),List.take_of_length_le (by omega)]
 have a2:(cellsT l++(zc++rest)).drop (4*l.length+4)=rest:=by
  rw[←List.append_assoc,List.drop_left' (by simp[zc,e3])]
 rw[e4]
 generalize hcc:(enc t).cells=cc at *
 rw[ev]
 simp only[storeV,hid,s25]
 rw[if_pos ⟨e5,by simp only[List.length_append,e3,zc,List.length_cons,List.length_nil];omega⟩,a1,a2]
theorem idxZ {id n k:Nat}{c:Option Nat}(hk:k<n):indexAddrV C.P 23 (.msl id 0 4 n c) (.int .i64 k)=some (.ptr id (4*k)):=by
 simp[indexAddrV,u23,s25,hk,Nat.mul_comm]
end Go.VZ

/- Whether a term occurs in another one: both ways walked. -/
namespace Go.VZ
open Go Go.V Go.Proofs TL
def idxP {α:Type}(p:α→Bool):List α→Nat→Int
 | [],_=>-1
 | a::l,k=>if p a=true then k else idxP p l (k+1)
theorem idxP_any {α:Type}(p:α→Bool):∀(l:List α) (k:Nat),decide (0≤idxP p l k)=l.any p
 | [],k=>by simp[idxP]
 | a::l,k=>by
  rw[idxP,List.any_cons]
  by_cases h:p a=true
  ·rw[if_pos h,h,Bool.true_or,decide_eq_true (by omega)]
  ·rw[if_neg h,idxP_any p l (k+1)];simp[h]
def NJ151 (l:List T) (g:FuncId) (caps:List AV) (p:T→Bool) (h0:H) (m:Nat) (st:PT) (h:H):Prop:=∃k:Nat,m=l.length-k∧k≤l.length∧h=h0∧st.get 0=terms l∧st.get 1=.func g caps∧st.get 7=.int .i64 l.length∧st.get 8=.int .i64 k∧idxP p l 0=idxP p (l.drop k) k
set_option maxRecDepth 8000 in
set_option maxHeartbeats 4000000 in
theorem index151p (l:List T) (g:FuncId) (caps:List AV) (p:T→Bool) (hl:l.length<4000000) (hp:∀k∈l,∀h,callV C h (.func g caps) (some [enc k])=some (.bool (p k),h)) (h0:H):Go.V.Call C 151 [terms l,.func g caps] h0=some (.int .i64 (idxP p l 0),h0):=by
 suffices hh:∃r h',Go.V.Call C 151 [terms l,.func g caps] h0=some (r,h')∧(r=.int .i64 (idxP p l 0)∧h'=h0) by
  obtain ⟨r,h',a,rfl,rfl⟩:=hh
  exact a
 refine Call_WQ rfl Tryz.func151 rfl (by kernel_rfl) (by simp[Tryz.f151]) fun R hR=>?_
 have hln:=len23t l
 simp[go_sem,hln]
 refine W_loop (NJ151 l g caps p h0) l.length ⟨0,rfl,Nat.zero_le _,rfl,by simp[go_sem],by simp[go_sem],by simp[go_sem],by simp[go_sem],rfl⟩ ?_
 rintro m st h ⟨k,rfl,hk,rfl,g0,g1,g7,g8,hd⟩
 by_cases hlt:k<l.length
 ·have hlt':(k:Int)<l.length:=by omega
  have hix:=idx23t l k hlt
  have cp:=hp l[k] (List.getElem_mem hlt)
  have w2:IntKind.i64.wrap ((k:Int)+1)=((k+1:Nat):Int):=by rw[wrap_in (by omega)];omega
  rw[List.drop_eq_getElem_cons hlt,idxP] at hd
  by_cases hz:p l[k]=true
  ·rw[if_pos hz] at hd
   rw[hz] at cp
   simp[go_sem,g0,g1,g7,g8,hlt',hix,ld25,cp]
   refine hR _ _ _ (.inr rfl) ⟨.int .i64 k,by simp[resultV,resV,Tryz.f151,go_sem],by rw[hd],rfl⟩
  ·rw[if_neg hz] at hd
   have hz':p l[k]=false:=by simpa using hz
   rw[hz'] at cp
   simp[go_sem,g0,g1,g7,g8,hlt',hix,ld25,cp,-Int.natCast_add,w2]
   exact ⟨l.length-(k+1),by omega,k+1,rfl,hlt,rfl,by simp[go_sem,g0],by simp[go_sem,g1],by simp[go_sem,g7],by simp[go_sem],hd⟩
 ·have:k=l.length:=by omega
  subst this
  rw[List.drop_length,idxP] at hd
  simp[go_sem,g7,g8]
  refine hR _ _ _ (.inr rfl) ⟨.int .i64 (-1),by simp[resultV,resV,Tryz.f151,go_sem],by rw[hd],rfl⟩
theorem contains131 (l:List T) (g:FuncId) (caps:List AV) (p:T→Bool) (hl:l.length<4000000) (hp:∀k∈l,∀h,callV C h (.func g caps) (some [enc k])=some (.bool (p k),h)):CallP C 131 [terms l,.func g caps]=some (.bool (l.any p)):=by
 refine CallP_W rfl Tryz.func131 rfl (by kernel_rfl) (by simp[Tryz.f131]) fun R hR=>?_
 have c1:∀h,callV C h (.func 151 []) (some [terms l,.func g caps])=some (.int .i64 (idxP p l 0),h):=fun h=>(callV_open (by kernel_rfl) rfl).trans (index151p l g caps p hl hp h)
 have ha:=idxP_any p l 0
 simp[go_sem,initS,c1]
 refine hR _ _ _ (.inr rfl) ⟨.bool (decide (0≤idxP p l 0)),by simp[resultV,resV,Tryz.f131,go_sem],by rw[ha];exact snap_dat rfl rfl⟩
theorem occ_eq (x t:T):occ x t=(decide (x.cmp t=0)||t.kids.any (occ x)):=by
 rw[Bool.eq_iff_iff]
 simp only[occ,Bool.or_eq_true,decide_eq_true_eq,List.any_eq_true]
 rw[mem_walk,cmp_zero]
theorem ld25x (x:T) (h:H):loadV C.P h 25 (.iptr (.agg (enc x).cells) 0)=some (enc x):=by
 rw[show AV.agg (enc x).cells=enc x by rw[enc_cells,enc_eq]];exact ld25 x h
set_option maxHeartbeats 4000000 in
theorem clo345 (x t:T) (hc:CallP C 322 [enc x,enc t]=some (.bool (occ x t))) (h:H):callV C h (.func 345 [.iptr (.agg (enc x).cells) 0]) (some [enc t])=some (.bool (occ x t),h):=by
 refine callV_stripc (by kernel_rfl) rfl (l':=[enc t,.iptr (.agg (enc x).cells) 0]) (by rw[enc_eq,enc_cells];rfl) (by simp[short_enc];rfl) (by simp) ?_ h
 refine CallP_W rfl Tryz.func345 rfl (by kernel_rfl) (by simp[Tryz.f345]) fun R hR=>?_
 have c1:∀h,callV C h (.func 322 []) (some [enc x,enc t])=some (.bool (occ x t),h):=fun h=>callV_strip (by kernel_rfl) rfl (dat_enc2 _ _) (by simp[short_enc]) (by simp) hc
 have e1:loadV C.P [.cells (enc t).cells .live] 25 (.ptr 0 0)=some (enc t):=by rw[enc_cells];exact ld25t t
 simp[go_sem,box25]
 rw[←enc_cells]
 simp[go_sem,e1,ld25x,c1]
 refine hR _ _ _ (.inr rfl) ⟨.bool (occ x t),by simp[resultV,resV,Tryz.f345,go_sem],snap_dat rfl rfl⟩
set_option maxRecDepth 8000 in
set_option maxHeartbeats 4000000 in
theorem occurs322 (x t:T) (hx:x.size<4000000) (ht:t.size<4000000) (hc:∀k∈t.kids,CallP C 322 [enc x,enc k]=some (.bool (occ x k))):CallP C 322 [enc x,enc t]=some (.bool (occ x t)):=by
 refine CallP_W rfl Tryz.func322 rfl (by kernel_rfl) (by simp[Tryz.f322]) fun R hR=>?_
 have fin:∀(st:PT) (h:H) (e:Bool),st.get 4=.bool e→occ x t=e→R .ret st h:=fun st h e h2 he=>hR _ _ _ (.inr rfl) ⟨.bool e,by simp[resultV,resV,Tryz.f322,h2],by rw[he];exact snap_dat rfl rfl⟩
 obtain ⟨h0,eh0⟩:∃g:H,g=two x t:=⟨_,rfl⟩
 have la:loadV C.P h0 25 (.ptr 0 0)=some (enc x):=by rw[eh0];exact two_a x t
 have lb:loadV C.P h0 25 (.ptr 1 0)=some (enc t):=by rw[eh0];exact two_b x t
 have lk:loadV C.P h0 23 (.ptr 1 3)=some (terms t.kids):=by rw[eh0];exact two_b3 x t
 have c1:=call318 x t hx ht
 have hlen:=len_sizes t.kids
 have hsz:=size_kids t
 have c2:callV C h0 (.func 131 []) (some [terms t.kids,.func 345 [.ptr 0 0]])=some (.bool (t.kids.any (occ x)),h0):=by
  refine callV_clo (l:=[(0,(enc x).cells)]) (by kernel_rfl) rfl (a':=terms t.kids) rfl rfl ?_ (by simp) (contains131 t.kids 345 [.iptr (.agg (enc x).cells) 0] (occ x) (by omega) fun k hk h=>clo345 x k (hc k hk) h) rfl
  intro p hp
  simp only[List.mem_singleton] at hp;subst hp
  refine ⟨by rw[eh0,enc_cells];rfl,by rw[enc_cells];rfl,by rw[enc_cells];rfl,by rw[enc_cells];simp⟩
 have ho:=occ_eq x t
 unfold two at eh0
 simp[go_sem,box25]
 rw[←eh0]
 by_cases q:x.cmp t=0
 ·rw[decide_eq_true q,Bool.true_or] at ho
  simp[go_sem,la,lb,c1,q]
  exact fin _ _ true (by simp[go_sem]) ho
 ·rw[decide_eq_false q,Bool.false_or] at ho
  simp[go_sem,la,lb,lk,c1,q,c2]
  exact fin _ _ (t.kids.any (occ x)) (by simp[go_sem]) ho
theorem occurs322_all (x:T) (hx:x.size<4000000):∀t:T,t.size<4000000→CallP C 322 [enc x,enc t]=some (.bool (occ x t)):=by
 refine T.ind fun t ih ht=>occurs322 x t hx ht fun k hk=>ih k hk (by have:=kid_size hk;omega)
theorem call322 (x t:T) (hx:x.size<4000000) (ht:t.size<4000000) (h:H):callV C h (.func 322 []) (some [enc x,enc t])=some (.bool (occ x t),h):=callV_strip (by kernel_rfl) rfl (dat_enc2 _ _) (by simp[short_enc]) (by simp) (occurs322_all x hx t ht)
def NI325 (l:List T) (x:T) (m:Nat) (st:PT) (h:H):Prop:=∃k:Nat,m=l.length-k∧k≤l.length∧h[0]?=some (.cells (enc x).cells .live)∧st.get 0=terms l∧st.get 3=.ptr 0 0∧st.get 5=.int .i64 k∧decide (x∈l)=decide (x∈l.drop k)
theorem ld25h {h:H}{i:Nat}{t:T}(hi:h[i]?=some (.cells (enc t).cells .live)):loadV C.P h 25 (.ptr i 0)=some (enc t):=ldn25 t hi
set_option maxRecDepth 8000 in
set_option maxHeartbeats 4000000 in
theorem has325 (l:List T) (x:T) (hs:∀t∈l,t.size<4000000) (hx:x.size<4000000) (hl:l.length<4000000):CallP C 325 [terms l,enc x]=some (.bool (decide (x∈l))):=by
 refine CallP_W rfl Tryz.func325 rfl (by kernel_rfl) (by simp[Tryz.f325]) fun R hR=>?_
 have fin:∀(st:PT) (h:H) (e:Bool),st.get 4=.bool e→decide (x∈l)=e→R .ret st h:=fun st h e h2 he=>hR _ _ _ (.inr rfl) ⟨.bool e,by simp[resultV,resV,Tryz.f325,h2],by rw[he];exact snap_dat rfl rfl⟩
 have hln:=len23t l
 simp[go_sem,box25]
 rw[←enc_cells]
 refine W_loop (NI325 l x) l.length ⟨0,rfl,Nat.zero_le _,rfl,by simp[go_sem],by simp[go_sem],by simp[go_sem],rfl⟩ ?_
 rintro m st h ⟨k,rfl,hk,m0,g0,g3,g5,hd⟩
 have lx:=ld25h m0
 by_cases hlt:k<l.length
 ·have hlt':(k:Int)<l.length:=by omega
  have hix:=idx23t l k hlt
  have w2:IntKind.i64.wrap ((k:Int)+1)=((k+1:Nat):Int):=by rw[wrap_in (by omega)];omega
  have c1:=call69 l[k] x (hs _ (List.getElem_mem hlt)) hx
  rw[List.drop_eq_getElem_cons hlt] at hd
  by_cases hz:l[k].cmp x=0
  ·have he:=cmp_zero.1 hz
   simp[go_sem,g0,g3,g5,hln,hlt',hix,ld25,lx,c1,hz]
   exact fin _ _ true (by simp[go_sem]) (by rw[hd];simp[he])
  ·have hne:¬x=l[k]:=fun e=>hz (cmp_zero.2 e.symm)
   simp[go_sem,g0,g3,g5,hln,hlt',hix,ld25,lx,c1,hz,-Int.natCast_add,w2]
   exact ⟨l.length-(k+1),by omega,k+1,rfl,hlt,m0,by simp[go_sem,g0],by simp[go_sem,g3],by simp[go_sem],by rw[hd];simp only[List.mem_cons,hne,false_or]⟩
 ·have:k=l.length:=by omega
  subst this
  rw[List.drop_length] at hd
  simp[go_sem,g0,g5,hln]
  exact fin _ _ false (by simp[go_sem]) (by rw[hd];simp)
theorem occurs284 (x t:T) (hx:x.size<4000000) (ht:t.size<4000000):CallP C 284 [enc x,enc t]=some (.bool (occ x t)):=by
 refine CallP_W rfl Tryz.func284 rfl (by kernel_rfl) (by simp[Tryz.f284]) fun R hR=>?_
 obtain ⟨h0,eh0⟩:∃g:H,g=two x t:=⟨_,rfl⟩
 have la:loadV C.P h0 25 (.ptr 0 0)=some (enc x):=by rw[eh0];exact two_a x t
 have lb:loadV C.P h0 25 (.ptr 1 0)=some (enc t):=by rw[eh0];exact two_b x t
 have c1:=call235 t ht
 have hw:=walkT_len single single_len t
 have c2:∀h,callV C h (.func 325 []) (some [terms (walkT single t),enc x])=some (.bool (occ x t),h):=fun h=>callV_strip (by kernel_rfl) rfl (args':=[terms (walkT single t),enc x]) (by rw[enc_eq];rfl) (by simp[short_enc];rfl) (by simp) (has325 _ x (walk_small single_mem t ht) hx (by omega))
 unfold two at eh0
 simp[go_sem,box25]
 rw[←eh0]
 simp[go_sem,la,lb,c1,c2]
 refine hR _ _ _ (.inr rfl) ⟨.bool (occ x t),by simp[resultV,resV,Tryz.f284,go_sem],snap_dat rfl rfl⟩
theorem call284 (x t:T) (hx:x.size<4000000) (ht:t.size<4000000) (h:H):callV C h (.func 284 []) (some [enc x,enc t])=some (.bool (occ x t),h):=callV_strip (by kernel_rfl) rfl (dat_enc2 _ _) (by simp[short_enc]) (by simp) (occurs284 x t hx ht)
end Go.VZ

/- A term put for a variable; terms alike: the reference's way walked. -/
namespace Go.VZ
open Go Go.V Go.Proofs TL
theorem put1_size {x y:T}(n:Nat) (hy:y.size≤n) (h0:0<n) (t:T):(put1 x y t).size≤n*t.size:=by
 induction t using T.ind with
 | _ t ih=>
  have hs:=size_kids t
  rw[put1_eq]
  split
  ·have:=size_pos t
   exact Nat.le_trans hy (Nat.le_mul_of_pos_right _ this)
  ·rw[size_kids]
   show sizes (t.kids.map (put1 x y))+1≤_
   have:∀m:List T,(∀k∈m,(put1 x y k).size≤n*k.size)→sizes (m.map (put1 x y))≤n*sizes m:=by
    intro m
    induction m with
    | nil=>intro _;simp[sizes]
    | cons a m im=>
     intro hm
     have h1:=hm a (by simp)
     have h2:=im fun k hk=>hm k (by simp[hk])
     simp only[List.map_cons,sizes,Nat.mul_add];omega
   have:=this t.kids ih
   rw[hs,Nat.mul_add];omega
def NI285 (x y t:T) (m:Nat) (st:PT) (h:H):Prop:=∃(k:Nat) (v:AV),m=t.kids.length-k∧k≤t.kids.length∧h[0]?=some (.cells (enc t).cells .live)∧h[1]?=some (.cells (enc x).cells .live)∧h[2]?=some (.cells (enc y).cells .live)∧h[3]?=some (.cells zc .live) ∧
 st.get 3=.ptr 0 0∧st.get 4=.ptr 1 0∧st.get 5=.ptr 2 0∧st.get 6=.ptr 3 0∧st.get 7=v∧st.get 8=.int .i64 k∧OwnR 25 h v (((t.kids.take k).map (put1 x y)).map enc)
theorem dat_enc3 (a b c:T):dats [enc a,enc b,enc c]=some [enc a,enc b,enc c]:=by rw[enc_eq a,enc_eq b,enc_eq c];rfl
theorem st25zz {h:H}{i:Nat}(t:T) (hi:h[i]?=some (.cells zc .live)):storeV C.P h 25 (.ptr i 0) (enc t)=some (h.set i (.cells (enc t).cells .live)):=st25zc t hi
set_option maxRecDepth 8000 in
set_option maxHeartbeats 4000000 in
theorem put285 (x y t:T) (hx:x.size<4000000) (_hy:y.size<4000000) (ht:t.size<4000000) (hc:∀k∈t.kids,CallP C 285 [enc k,enc x,enc y]=some (enc (put1 x y k))):CallP C 285 [enc t,enc x,enc y]=some (enc (put1 x y t)):=by
 refine CallP_W rfl Tryz.func285 rfl (by kernel_rfl) (by simp[Tryz.f285]) fun R hR=>?_
 have fin:∀(s:PT) (t':T) (h:H),s.get 6=.ptr 3 0→h[3]?=some (.cells (enc t').cells .live)→t'=put1 x y t→R .ret s h:=fun s t' h hs hh ht=>by
  refine hR _ _ _ (.inr rfl) ⟨enc t',?_,?_⟩
  ·simp[resultV,resV,Tryz.f285,hs,ld25h hh]
  ·rw[←ht];exact snap_dat (dat_enc' t') (short_enc t')
 have fin2:∀(s:PT) (t':T) (h:H),s.get 6=.ptr 3 0→h[3]?=some (.cells (enc t').cells .live)→t'=put1 x y t→R .normal s h:=fun s t' h hs hh ht=>by
  refine hR _ _ _ (.inl rfl) ⟨enc t',?_,?_⟩
  ·simp[resultV,resV,Tryz.f285,hs,ld25h hh]
  ·rw[←ht];exact snap_dat (dat_enc' t') (short_enc t')
 have hpe:=put1_eq x y t
 have hsz:=size_kids t
 have hlen:=len_sizes t.kids
 have hln:=len23t t.kids
 obtain ⟨h0,eh0⟩:∃g:H,g=[.cells (enc t).cells .live,.cells (enc x).cells .live,.cells (enc y).cells .live,.cells zc .live]:=⟨_,rfl⟩
 have m0:h0[0]?=some (.cells (enc t).cells .live):=by rw[eh0];rfl
 have m1:h0[1]?=some (.cells (enc x).cells .live):=by rw[eh0];rfl
 have m2:h0[2]?=some (.cells (enc y).cells .live):=by rw[eh0];rfl
 have m3:h0[3]?=some (.cells zc .live):=by rw[eh0];rfl
 have l0:=ld25h m0
 have l1:=ld25h m1
 have l2:=ld25h m2
 have c1:=call69 t x ht hx
 have e3:=st25zz y m3
 have hl3:=(List.getElem?_eq_some_iff.1 m3).1
 simp[go_sem,box25,zv25,cells_agg]
 rw[←enc_cells t,←enc_cells x,←enc_cells y]
 unfold zc at eh0
 rw[←eh0]
 by_cases q:t.cmp x=0
 ·rw[if_pos q] at hpe
  simp[go_sem,l0,l1,l2,c1,q,e3]
  exact fin _ y _ (by simp[go_sem]) (List.getElem?_set_self hl3) hpe.symm
 rw[if_neg q] at hpe
 simp[go_sem,l0,l1,c1,q]
 have hl4:h0.length=4:=by rw[eh0];rfl
 refine W_loop (NI285 x y t) t.kids.length ⟨0,.isl [] (.tok 4),rfl,Nat.zero_le _,ga m0,ga m1,ga m2,ga m3,by simp[go_sem],by simp[go_sem],by simp[go_sem],by simp[go_sem],by simp[go_sem,hl4],by simp[go_sem],.inr ⟨4,rfl,by rw[eh0];rfl⟩⟩ ?_
 clear hl4 e3 hl3 l0 l1 l2 m0 m1 m2 m3 eh0 h0
 rintro m s h ⟨k,v,rfl,hk,m0,m1,m2,m3,g3,g4,g5,g6,g7,g8,go⟩
 have q0:=ld23b m0
 have l1:=ld25h m1
 have l2:=ld25h m2
 by_cases hlt:k<t.kids.length
 ·have hlt':(k:Int)<t.kids.length:=by omega
  have hix:=idx23t t.kids k hlt
  have w2:IntKind.i64.wrap ((k:Int)+1)=((k+1:Nat):Int):=by rw[wrap_in (by omega)];omega
  have ck:∀h,callV C h (.func 285 []) (some [enc t.kids[k],enc x,enc y])=some (enc (put1 x y t.kids[k]),h):=fun h=>callV_strip (by kernel_rfl) rfl (dat_enc3 _ _ _) (by simp[short_enc]) (by simp) (hc _ (List.getElem_mem hlt))
  obtain ⟨v',h',ha,ho,hkp,hid⟩:=append23 (ys:=[put1 x y t.kids[k]]) (x:=.full) go (by simp only[List.length_map,List.length_take,List.length_cons,List.length_nil];omega)
  have etk:(t.kids.take k).map (put1 x y)++[put1 x y t.kids[k]]=(t.kids.take (k+1)).map (put1 x y):=by
   rw[←List.take_append_getElem hlt,List.map_append];rfl
  rw[etk] at ho
  simp only[List.map_cons,List.map_nil] at ha
  have hn0:=own_not go m0
  have hn1:=own_not go m1
  have hn2:=own_not go m2
  simp[go_sem,g3,g8,q0,hln,hlt']
  refine W_regionS 7 _ (by simp[mixC]) rfl ?_
  simp[go_sem,g3,g4,g5,g7,g8,q0,hix,ld25,l1,l2,ck,build23_1,ha,-Int.natCast_add,w2]
  refine ⟨?_,t.kids.length-(k+1),by omega,k+1,v',rfl,hlt,hkp.get m0 hn0,hkp.get m1 hn1,hkp.get m2 hn2,hkp.get m3 (own_not go m3),by simp[go_sem,g3],by simp[go_sem,g4],by simp[go_sem,g5],by simp[go_sem,g6],by simp[go_sem],by simp[go_sem],ho⟩
  rcases go with rfl | ⟨id,rfl,hd⟩
  ·simp[go_sem,g4,g5,idsOk,ldIds,apIds,ldId,appId,mslId]
  ·simp only[idOf,ne_eq,Option.some.injEq] at hn0 hn1 hn2
   simp[go_sem,g4,g5,idsOk,ldIds,apIds,ldId,appId,mslId]
   (try omega)
 ·have:k=t.kids.length:=by omega
  subst this
  rw[List.take_length] at go
  generalize hes:(t.kids.map (put1 x y)).map enc=es at go
  obtain ⟨x',rfl⟩:=go.isl
  have hst:storeV C.P h 23 (.ptr 0 3) (.isl es x')=some (h.set 0 (.cells [.int .i64 t.kind,.str t.name,.int .i64 t.sort,.isl es x'] .live)):=by
   rw[enc_cells] at m0
   simp[storeV,m0,s23]
  have hl0:=(List.getElem?_eq_some_iff.1 m0).1
  have e5:loadV C.P (h.set 0 (.cells [.int .i64 t.kind,.str t.name,.int .i64 t.sort,.isl es x'] .live)) 25 (.ptr 0 0)=some (.agg [.int .i64 t.kind,.str t.name,.int .i64 t.sort,.isl es x']):=by
   simp[loadV,List.getElem?_set_self hl0,cellsAt,a25,s25]
  have n3:(h.set 0 (.cells [.int .i64 t.kind,.str t.name,.int .i64 t.sort,.isl es x'] .live))[3]?=some (.cells zc .live):=by rw[List.getElem?_set_ne (by omega)];exact m3
  generalize h.set 0 (.cells [.int .i64 t.kind,.str t.name,.int .i64 t.sort,.isl es x'] .live)=h2 at hst e5 n3
  have e6:storeV C.P h2 25 (.ptr 3 0) (.agg [.int .i64 t.kind,.str t.name,.int .i64 t.sort,.isl es x'])=some (h2.set 3 (.cells [.int .i64 t.kind,.str t.name,.int .i64 t.sort,.isl es x'] .live)):=by simp[storeV,n3,s25,zc]
  have e7:=(List.getElem?_eq_some_iff.1 n3).1
  generalize hzz:AV.agg [.int .i64 t.kind,.str t.name,.int .i64 t.sort,.isl es x']=zz at e5 e6
  simp[go_sem,g3,g6,g7,g8,q0,hln,hst,e5,e6]
  refine hR _ _ _ (.inr rfl) ⟨zz,?_,?_⟩
  ·simp[resultV,resV,Tryz.f285,go_sem,g6,loadV,List.getElem?_set_self e7,cellsAt,a25,s25,←hzz]
  ·rw[hpe,enc_eq,←hzz,←hes];exact snap_dat rfl rfl
theorem put285_all (x y:T) (hx:x.size<4000000) (hy:y.size<4000000) (t:T):t.size<4000000→CallP C 285 [enc t,enc x,enc y]=some (enc (put1 x y t)):=by
 induction t using T.ind with
 | _ t ih=>exact fun hv=>put285 x y t hx hy hv (fun k hk=>ih k hk (by have:=kid_size hk;omega))
theorem call285 (x y t:T) (hx:x.size<4000000) (hy:y.size<4000000) (ht:t.size<4000000) (h:H):callV C h (.func 285 []) (some [enc t,enc x,enc y])=some (enc (put1 x y t),h):=callV_strip (by kernel_rfl) rfl (dat_enc3 _ _ _) (by simp[short_enc]) (by simp) (put285_all x y hx hy t ht)
theorem eqName (x y:Operand) (a b:ByteArray):binV C.P .eql 9 x y (.str a) (.str b)=some (.bool (decide (a=b))):=by
 rw[eql_str]
set_option maxHeartbeats 4000000 in
theorem alike319 (a b:T) (_ha:a.kids.length<4000000) (_hb:b.kids.length<4000000):CallP C 319 [enc a,enc b]=some (.bool (alikeU a b)):=by
 refine CallP_W rfl Tryz.func319 rfl (by kernel_rfl) (by simp[Tryz.f319]) fun R hR=>?_
 have fin:∀(st:PT) (h:H) (e:Bool),st.get 4=.bool e→alikeU a b=e→R .ret st h:=fun st h e h2 he=>hR _ _ _ (.inr rfl) ⟨.bool e,by simp[resultV,resV,Tryz.f319,h2],by rw[he];exact snap_dat rfl rfl⟩
 obtain ⟨h0,eh0⟩:∃g:H,g=two a b:=⟨_,rfl⟩
 have a0:loadV C.P h0 3 (.ptr 0 0)=some (.int .i64 a.kind):=by rw[eh0];exact two_a0 a b
 have b0:loadV C.P h0 3 (.ptr 1 0)=some (.int .i64 b.kind):=by rw[eh0];exact two_b0 a b
 have a1:loadV C.P h0 9 (.ptr 0 1)=some (.str a.name):=by rw[eh0];exact two_a1 a b
 have b1:loadV C.P h0 9 (.ptr 1 1)=some (.str b.name):=by rw[eh0];exact two_b1 a b
 have a3:loadV C.P h0 23 (.ptr 0 3)=some (terms a.kids):=by rw[eh0];exact two_a3 a b
 have b3:loadV C.P h0 23 (.ptr 1 3)=some (terms b.kids):=by rw[eh0];exact two_b3 a b
 have ln:=len23t a.kids
 have lm:=len23t b.kids
 unfold two at eh0
 simp[go_sem,box25]
 rw[←eh0]
 by_cases q1:a.kind=3
 rotate_left
 ·simp[go_sem,q1]
  exact fin _ _ false (by simp[go_sem]) (by simp[alikeU,q1])
 by_cases q2:b.kind=3
 rotate_left
 ·simp[go_sem,b0,q1,q2]
  exact fin _ _ false (by simp[go_sem]) (by simp[alikeU,q2])
 by_cases q3:a.name=b.name
 rotate_left
 ·simp[go_sem,b0,a1,b1,eqName,q1,q2,q3]
  exact fin _ _ false (by simp[go_sem]) (by simp[alikeU,q3])
 ·simp[go_sem,b0,a1,b1,a3,b3,ln,lm,eqName,q1,q2,q3]
  exact fin _ _ (decide (a.kids.length=b.kids.length)) (by simp[go_sem];omega) (by simp[alikeU,q1,q2,q3])
theorem call319 (a b:T) (ha:a.kids.length<4000000) (hb:b.kids.length<4000000) (h:H):callV C h (.func 319 []) (some [enc a,enc b])=some (.bool (alikeU a b),h):=callV_strip (by kernel_rfl) rfl (dat_enc2 _ _) (by simp[short_enc]) (by simp) (alike319 a b ha hb)
set_option maxHeartbeats 4000000 in
theorem alike229 (a b:T) (_ha:a.kids.length<4000000) (_hb:b.kids.length<4000000):CallP C 229 [enc a,enc b]=some (.bool (alikeU a b)):=by
 refine CallP_W rfl Tryz.func229 rfl (by kernel_rfl) (by simp[Tryz.f229]) fun R hR=>?_
 have fin:∀(st:PT) (h:H) (e:Bool),st.get 4=.bool e→alikeU a b=e→R .ret st h:=fun st h e h2 he=>hR _ _ _ (.inr rfl) ⟨.bool e,by simp[resultV,resV,Tryz.f229,h2],by rw[he];exact snap_dat rfl rfl⟩
 obtain ⟨h0,eh0⟩:∃g:H,g=two a b:=⟨_,rfl⟩
 have a0:loadV C.P h0 3 (.ptr 0 0)=some (.int .i64 a.kind):=by rw[eh0];exact two_a0 a b
 have b0:loadV C.P h0 3 (.ptr 1 0)=some (.int .i64 b.kind):=by rw[eh0];exact two_b0 a b
 have a1:loadV C.P h0 9 (.ptr 0 1)=some (.str a.name):=by rw[eh0];exact two_a1 a b
 have b1:loadV C.P h0 9 (.ptr 1 1)=some (.str b.name):=by rw[eh0];exact two_b1 a b
 have a3:loadV C.P h0 23 (.ptr 0 3)=some (terms a.kids):=by rw[eh0];exact two_a3 a b
 have b3:loadV C.P h0 23 (.ptr 1 3)=some (terms b.kids):=by rw[eh0];exact two_b3 a b
 have ln:=len23t a.kids
 have lm:=len23t b.kids
 unfold two at eh0
 simp[go_sem,box25]
 rw[←eh0]
 by_cases q1:a.kind=3
 rotate_left
 ·simp[go_sem,q1]
  exact fin _ _ false (by simp[go_sem]) (by simp[alikeU,q1])
 by_cases q2:b.kind=3
 rotate_left
 ·simp[go_sem,b0,q1,q2]
  exact fin _ _ false (by simp[go_sem]) (by simp[alikeU,q2])
 by_cases q3:a.name=b.name
 rotate_left
 ·simp[go_sem,b0,a1,b1,eqName,q1,q2,q3]
  exact fin _ _ false (by simp[go_sem]) (by simp[alikeU,q3])
 ·simp[go_sem,b0,a1,b1,a3,b3,ln,lm,eqName,q1,q2,q3]
  exact fin _ _ (decide (a.kids.length=b.kids.length)) (by simp[go_sem];omega) (by simp[alikeU,q1,q2,q3])
theorem call229 (a b:T) (ha:a.kids.length<4000000) (hb:b.kids.length<4000000) (h:H):callV C h (.func 229 []) (some [enc a,enc b])=some (.bool (alikeU a b),h):=callV_strip (by kernel_rfl) rfl (dat_enc2 _ _) (by simp[short_enc]) (by simp) (alike229 a b ha hb)
end Go.VZ

/- What is bound to what: the reference's way walked. -/
namespace Go.VZ
open Go Go.V Go.Proofs TL
def lastR (p q:T):T × T × Int:=if p.sort≠q.sort∧p.sort≠0 then (p,q,11) else (p,q,0)
def tailR (p q:T):T × T × Int:=
 if p.kind≠1 then (p,q,11)
 else if q.kind=1 then (if (p.sort=q.sort∧p.cmp q<0)∨(p.sort≠q.sort∧q.sort=0) then lastR q p else lastR p q)
 else if p.sort≠0∧(q.kind≠2∨q.sort≠p.sort) then (p,q,11)
 else if occ p q=true then (p,q,12) else (p,q,0)
def chooseR (a b:T):T × T × Int:=if a.kind≠1 then tailR b a else tailR a b
theorem chooseR_law (a b:T):match chooseU a b with
  | .bad e=>(chooseR a b).2.2=e∧e≠0
  | .ok x y=>chooseR a b=(x,y,0):=by
 unfold chooseU chooseR tailR lastR fitU
 by_cases ha:a.kind=1<;>by_cases hb:b.kind=1<;>simp only[ne_eq,ha,hb,not_true_eq_false,not_false_eq_true,if_false,if_true]
 ·by_cases hc:(a.sort=b.sort∧a.cmp b<0)∨(¬a.sort=b.sort∧b.sort=0)
  ·rw[if_pos hc,if_pos hc,if_neg (by omega)]
  ·rw[if_neg hc,if_neg hc]
   by_cases hd:¬a.sort=b.sort∧¬a.sort=0
   ·rw[if_pos hd,if_pos hd];exact ⟨rfl,by omega⟩
   ·rw[if_neg hd,if_neg hd]
 ·by_cases hc:¬a.sort=0∧(¬b.kind=2∨¬b.sort=a.sort)
  ·rw[if_pos hc,if_pos hc];exact ⟨rfl,by omega⟩
  ·rw[if_neg hc,if_neg hc]
   by_cases hd:occ a b=true
   ·rw[if_pos hd,if_pos hd];exact ⟨rfl,by omega⟩
   ·rw[if_neg hd,if_neg hd]
 ·by_cases hc:¬b.sort=0∧(¬a.kind=2∨¬a.sort=b.sort)
  ·rw[if_pos hc,if_pos hc];exact ⟨rfl,by omega⟩
  ·rw[if_neg hc,if_neg hc]
   by_cases hd:occ b a=true
   ·rw[if_pos hd,if_pos hd];exact ⟨rfl,by omega⟩
   ·rw[if_neg hd,if_neg hd]
 ·exact ⟨trivial,by omega⟩
theorem get_ne (t:PT) (n m:Nat) (v:AV) (h:m≠n):(t.set n v).get m=t.get m:=by rw[PT.get_set,if_neg h]
theorem get_eq (t:PT) (n:Nat) (v:AV):(t.set n v).get n=v:=by rw[PT.get_set,if_pos rfl]
theorem box25f (t:T) (h:H):boxV C.P h 25 (enc t)=some (.ptr h.length 0,h++[.cells (enc t).cells .live]):=by rw[box25,enc_cells]
theorem zv25f:zeroV C.P 25=some (.agg zc):=zv25
theorem reg230 {R:Ex→PT→H→Prop}{k:List It}{s:PT}{p q:T}(id:Nat) (d1 d2:Nat) (e:Int){p0 p1 p2 p3 p4:String}{a0 a1 a2 a3 a4:Array Edge}{n0 n1 n2 n3 n4:TypeId}
  (hm:C.mix 230 id=true) (g2:s.get 2=.ptr 0 0) (g3:s.get 3=.ptr 1 0) (g4:s.get 4=.ptr 2 0) (g5:s.get 5=.ptr 3 0) (hd:d1≠d2∧6<d1∧6<d2)
  (ht:tmpOk #[⟨some d1,.load 25 (.tmp 2),n0,p0,a0,none⟩,⟨some d2,.load 25 (.tmp 3),n1,p1,a1,none⟩,⟨none,.store 25 (.tmp 4) (.tmp d1),n2,p2,a2,none⟩,⟨none,.store 25 (.tmp 5) (.tmp d2),n3,p3,a3,none⟩,⟨some 6,.assign (.const (.int .i64 e)),n4,p4,a4,none⟩]=true)
  (hf:fpOk #[⟨some d1,.load 25 (.tmp 2),n0,p0,a0,none⟩,⟨some d2,.load 25 (.tmp 3),n1,p1,a1,none⟩,⟨none,.store 25 (.tmp 4) (.tmp d1),n2,p2,a2,none⟩,⟨none,.store 25 (.tmp 5) (.tmp d2),n3,p3,a3,none⟩,⟨some 6,.assign (.const (.int .i64 e)),n4,p4,a4,none⟩] [([0],[]),([1],[]),([6,2],[6,2]),([7,3],[7,3]),([],[])]=true)
  (hk:∀(s':PT) (h':H),s'.get 4=.ptr 2 0→s'.get 5=.ptr 3 0→s'.get 6=.int .i64 e→h'[2]?=some (.cells (enc p).cells .live)→h'[3]?=some (.cells (enc q).cells .live)→N C 230 R k s' h') :
  W C 230 R (.region id #[⟨some d1,.load 25 (.tmp 2),n0,p0,a0,none⟩,⟨some d2,.load 25 (.tmp 3),n1,p1,a1,none⟩,⟨none,.store 25 (.tmp 4) (.tmp d1),n2,p2,a2,none⟩,⟨none,.store 25 (.tmp 5) (.tmp d2),n3,p3,a3,none⟩,⟨some 6,.assign (.const (.int .i64 e)),n4,p4,a4,none⟩] true) k s ([.cells (enc p).cells .live,.cells (enc q).cells .live,.cells zc .live,.cells zc .live]:H):=by
 refine W_mixed id _ hm ht ?_
 show MX C 230 _ 4 _ 0 _ _ _ _
 generalize hH0:([.cells (enc p).cells .live,.cells (enc q).cells .live,.cells zc .live,.cells zc .live]:H)++List.replicate _ VObj.void=H0
 have pl:Pl ([.cells (enc p).cells .live,.cells (enc q).cells .live,.cells zc .live,.cells zc .live]:H) H0 5:=hH0▸Pl.mk' _ 5
 have hlen:H0.length=9:=pl.len
 clear hH0
 have q0:H0[0]?=some (.cells (enc p).cells .live):=pl.get rfl
 have q1:H0[1]?=some (.cells (enc q).cells .live):=pl.get rfl
 have q2:H0[2]?=some (.cells zc .live):=pl.get rfl
 have q3:H0[3]?=some (.cells zc .live):=pl.get rfl
 have v0:isVoid H0[4+0]?=true:=pl.isV (i:=0) (by decide)
 have v1:isVoid H0[4+1]?=true:=pl.isV (i:=1) (by decide)
 have v2:isVoid H0[4+2]?=true:=pl.isV (i:=2) (by decide)
 have v3:isVoid H0[4+3]?=true:=pl.isV (i:=3) (by decide)
 have v4:isVoid H0[4+4]?=true:=pl.isV (i:=4) (by decide)
 refine MX_load (.ptr 0 0) (enc p) (by simp[go_sem,g2]) (ld25h q0) (lids_no (by omega)) v0 (mv_enc _ _ _) ?_
 refine MX_load (.ptr 1 0) (enc q) (by simp only[ev];rw[get_ne _ _ _ _ (by omega),g3]) (ld25h q1) (lids_no (by omega)) v1 (mv_enc _ _ _) ?_
 refine MX_store 2 0 (enc p) (.cells (enc p).cells .live) ?_ ?_ (st25zz p q2) (by omega) v2 ?_
 ·simp only[ev];rw[get_ne _ _ _ _ (by omega),get_ne _ _ _ _ (by omega),g4]
 ·simp only[ev];rw[get_ne _ _ _ _ (by omega),get_eq]
 rw[mv_cellsT]
 have w3:isVoid (H0.set 2 (.cells (enc p).cells .live))[4+3]?=true:=isV_set v3 (by omega)
 have w4:isVoid (H0.set 2 (.cells (enc p).cells .live))[4+4]?=true:=isV_set v4 (by omega)
 have r3:(H0.set 2 (.cells (enc p).cells .live))[3]?=some (.cells zc .live):=by rw[List.getElem?_set_ne (by omega)];exact q3
 refine MX_store 3 0 (enc q) (.cells (enc q).cells .live) ?_ ?_ (st25zz q r3) (by omega) w3 ?_
 ·simp only[ev];rw[get_ne _ _ _ _ (by omega),get_ne _ _ _ _ (by omega),g5]
 ·simp only[ev];rw[get_eq]
 rw[mv_cellsT]
 refine MX_pure (.int .i64 e) rfl rfl (isV_set w4 (by omega)) rfl rfl ?_
 refine ⟨hf,hk _ _ ?_ ?_ ?_ ?_ ?_⟩
 ·rw[get_ne _ _ _ _ (by omega),get_ne _ _ _ _ (by omega),get_ne _ _ _ _ (by omega),g4]
 ·rw[get_ne _ _ _ _ (by omega),get_ne _ _ _ _ (by omega),get_ne _ _ _ _ (by omega),g5]
 ·rw[get_eq]
 ·rw[List.getElem?_set_ne (by omega),List.getElem?_set_self (by omega)]
 ·rw[List.getElem?_set_self (by simp;omega)]
theorem four_ld0 (p q:T):loadV C.P ([.cells (enc p).cells .live,.cells (enc q).cells .live,.cells zc .live,.cells zc .live]:H) 25 (.ptr 0 0)=some (enc p):=ld25h rfl
theorem four_ld1 (p q:T):loadV C.P ([.cells (enc p).cells .live,.cells (enc q).cells .live,.cells zc .live,.cells zc .live]:H) 25 (.ptr 1 0)=some (enc q):=ld25h rfl
theorem four_k0 (p q:T):loadV C.P ([.cells (enc p).cells .live,.cells (enc q).cells .live,.cells zc .live,.cells zc .live]:H) 3 (.ptr 0 0)=some (.int .i64 p.kind):=by simp[loadV,cellsAt,a3,s3,enc_cells]
theorem four_k1 (p q:T):loadV C.P ([.cells (enc p).cells .live,.cells (enc q).cells .live,.cells zc .live,.cells zc .live]:H) 3 (.ptr 1 0)=some (.int .i64 q.kind):=by simp[loadV,cellsAt,a3,s3,enc_cells]
theorem four_s0 (p q:T):loadV C.P ([.cells (enc p).cells .live,.cells (enc q).cells .live,.cells zc .live,.cells zc .live]:H) 3 (.ptr 0 2)=some (.int .i64 p.sort):=by simp[loadV,cellsAt,a3,s3,enc_cells]
theorem four_s1 (p q:T):loadV C.P ([.cells (enc p).cells .live,.cells (enc q).cells .live,.cells zc .live,.cells zc .live]:H) 3 (.ptr 1 2)=some (.int .i64 q.sort):=by simp[loadV,cellsAt,a3,s3,enc_cells]
theorem four_sw (p q:T):∃g,storeV C.P ([.cells (enc p).cells .live,.cells (enc q).cells .live,.cells zc .live,.cells zc .live]:H) 25 (.ptr 0 0) (enc q)=some g∧storeV C.P g 25 (.ptr 1 0) (enc p)=some ([.cells (enc q).cells .live,.cells (enc p).cells .live,.cells zc .live,.cells zc .live]:H):=by
 refine ⟨[.cells (enc q).cells .live,.cells (enc q).cells .live,.cells zc .live,.cells zc .live],?_,?_⟩
 ·simp[storeV,s25,enc_cells];rw[enc_eq];rfl
 ·simp[storeV,s25,enc_cells];rw[enc_eq];rfl
set_option maxRecDepth 8000 in
set_option maxHeartbeats 8000000 in
theorem choose230 (a b:T) (ha:a.size<4000000) (hb:b.size<4000000):CallP C 230 [enc a,enc b]=some (.tuple [enc (chooseR a b).1,enc (chooseR a b).2.1,.int .i64 (chooseR a b).2.2]):=by
 refine CallP_W rfl Tryz.func230 rfl (by kernel_rfl) (by simp[Tryz.f230]) fun R hR=>?_
 have fin:∀(u v:T) (e:Int),(u,v,e)=chooseR a b→∀(x:Ex),(x=.normal∨x=.ret)→∀(s:PT) (h:H),s.get 4=.ptr 2 0→s.get 5=.ptr 3 0→s.get 6=.int .i64 e→h[2]?=some (.cells (enc u).cells .live)→h[3]?=some (.cells (enc v).cells .live)→R x s h:=fun u v e he x hx s h g4 g5 g6 m2 m3=>by
  refine hR _ _ _ hx ⟨.tuple [enc u,enc v,.int .i64 e],?_,?_⟩
  ·simp[resultV,resV,resVs,Tryz.f230,g4,g5,g6,ld25h m2,ld25h m3]
  ·rw[←he];exact snap_tuple (by rw[enc_eq,enc_eq];rfl) (by simp[short_enc,short_int]) (by simp)
 obtain ⟨g1,w1,w2⟩:=four_sw a b
 have f0:=four_k0 a b
 have f1:=four_ld0 a b
 have f2:=four_ld1 a b
 simp[go_sem,box25f,zv25f,cells_agg]
 by_cases q0:a.kind=1
 ·have _:=q0
  have k0:=four_k0 a b
  have k1:=four_k1 a b
  have s0:=four_s0 a b
  have s1:=four_s1 a b
  have l0:=four_ld0 a b
  have l1:=four_ld1 a b
  have z0:=four_ld0 b a
  have z1:=four_ld1 b a
  have z2:=four_s0 b a
  have z3:=four_s1 b a
  have cc:=call118 a b ha hb
  have co:=call284 a b ha hb
  obtain ⟨g2,y1,y2⟩:=four_sw a b
  have hch:chooseR a b=tailR a b:=by unfold chooseR;simp[q0]
  have r1:a.kind=1:=q0
  by_cases r2:b.kind=1
  ·have _:=r2
   by_cases r3:a.sort=b.sort
   ·have _:=r3
    by_cases r4:a.cmp b<0
    ·have _:=r4
     simp[go_sem,q0,k0,k1,s0,s1,l0,l1,cc,y1,y2,z2,z3,r2,r3,r4]
     refine reg230 10 57 58 0 (by rw[mixC];decide) (by simp[go_sem]) (by simp[go_sem]) (by simp[go_sem]) (by simp[go_sem]) (by decide) (by kernel_rfl) (by kernel_rfl) ?_
     intro s' h' g4 g5 g6 m2 m3
     simp[go_sem]
     exact fin b a 0 (by rw[hch];unfold tailR lastR;simp[r1,r2,r3,r4]) _ (.inr rfl) _ _ g4 g5 g6 m2 m3
    ·have _:=r4
     simp[go_sem,q0,k0,k1,s0,s1,l0,l1,cc,r2,r3,r4]
     refine reg230 10 57 58 0 (by rw[mixC];decide) (by simp[go_sem]) (by simp[go_sem]) (by simp[go_sem]) (by simp[go_sem]) (by decide) (by kernel_rfl) (by kernel_rfl) ?_
     intro s' h' g4 g5 g6 m2 m3
     simp[go_sem]
     exact fin a b 0 (by rw[hch];unfold tailR lastR;simp[r1,r2,r3,r4]) _ (.inr rfl) _ _ g4 g5 g6 m2 m3
   ·have _:=r3
    have r3':¬b.sort=a.sort:=fun e=>r3 e.symm
    by_cases r4:b.sort=0
    ·have _:=r4
     have r7:¬a.sort=0:=fun e=>r3 (e.trans r4.symm)
     have r8:¬0=a.sort:=fun e=>r7 e.symm
     simp[go_sem,q0,k0,k1,s0,s1,l0,l1,y1,y2,z2,z3,r2,r4,r7,r8]
     refine reg230 10 57 58 0 (by rw[mixC];decide) (by simp[go_sem]) (by simp[go_sem]) (by simp[go_sem]) (by simp[go_sem]) (by decide) (by kernel_rfl) (by kernel_rfl) ?_
     intro s' h' g4 g5 g6 m2 m3
     simp[go_sem]
     exact fin b a 0 (by rw[hch];unfold tailR lastR;simp[r1,r2,r4,r7]) _ (.inr rfl) _ _ g4 g5 g6 m2 m3
    ·have _:=r4
     by_cases r5:a.sort=0
     ·have _:=r5
      have r8:¬0=b.sort:=fun e=>r4 e.symm
      simp[go_sem,q0,k0,k1,s0,s1,l0,l1,r2,r4,r5,r8]
      refine reg230 10 57 58 0 (by rw[mixC];decide) (by simp[go_sem]) (by simp[go_sem]) (by simp[go_sem]) (by simp[go_sem]) (by decide) (by kernel_rfl) (by kernel_rfl) ?_
      intro s' h' g4 g5 g6 m2 m3
      simp[go_sem]
      exact fin a b 0 (by rw[hch];unfold tailR lastR;simp[r1,r2,r4,r5,r8]) _ (.inr rfl) _ _ g4 g5 g6 m2 m3
     ·have _:=r5
      simp[go_sem,q0,k0,k1,s0,s1,l0,l1,r2,r3,r4,r5]
      refine reg230 9 55 56 11 (by rw[mixC];decide) (by simp[go_sem]) (by simp[go_sem]) (by simp[go_sem]) (by simp[go_sem]) (by decide) (by kernel_rfl) (by kernel_rfl) ?_
      intro s' h' g4 g5 g6 m2 m3
      simp[go_sem]
      exact fin a b 11 (by rw[hch];unfold tailR lastR;simp[r1,r2,r3,r4,r5]) _ (.inr rfl) _ _ g4 g5 g6 m2 m3
  ·have _:=r2
   by_cases r3:a.sort=0
   ·have _:=r3
    by_cases r6:occ a b=true
    ·have _:=r6
     simp[go_sem,q0,k0,k1,s0,l0,l1,co,r2,r6,r3]
     refine reg230 14 79 80 12 (by rw[mixC];decide) (by simp[go_sem]) (by simp[go_sem]) (by simp[go_sem]) (by simp[go_sem]) (by decide) (by kernel_rfl) (by kernel_rfl) ?_
     intro s' h' g4 g5 g6 m2 m3
     simp[go_sem]
     exact fin a b 12 (by rw[hch];unfold tailR;simp[r1,r2,r6,r3]) _ (.inr rfl) _ _ g4 g5 g6 m2 m3
    ·have _:=r6
     have r6':occ a b=false:=by simpa using r6
     simp[go_sem,q0,k0,k1,s0,l0,l1,co,r2,r6',r3]
     refine reg230 15 81 82 0 (by rw[mixC];decide) (by simp[go_sem]) (by simp[go_sem]) (by simp[go_sem]) (by simp[go_sem]) (by decide) (by kernel_rfl) (by kernel_rfl) ?_
     intro s' h' g4 g5 g6 m2 m3
     simp[go_sem]
     exact fin a b 0 (by rw[hch];unfold tailR;simp[r1,r2,r6',r3]) _ (.inr rfl) _ _ g4 g5 g6 m2 m3
   ·have _:=r3
    by_cases r4:b.kind=2
    ·have _:=r4
     by_cases r5:b.sort=a.sort
     ·have _:=r5
      by_cases r6:occ a b=true
      ·have _:=r6
       simp[go_sem,q0,k0,k1,s0,s1,l0,l1,co,r6,r3,r4,r5]
       refine reg230 14 79 80 12 (by rw[mixC];decide) (by simp[go_sem]) (by simp[go_sem]) (by simp[go_sem]) (by simp[go_sem]) (by decide) (by kernel_rfl) (by kernel_rfl) ?_
       intro s' h' g4 g5 g6 m2 m3
       simp[go_sem]
       exact fin a b 12 (by rw[hch];unfold tailR;simp[r1,r6,r3,r4,r5]) _ (.inr rfl) _ _ g4 g5 g6 m2 m3
      ·have _:=r6
       have r6':occ a b=false:=by simpa using r6
       simp[go_sem,q0,k0,k1,s0,s1,l0,l1,co,r6',r3,r4,r5]
       refine reg230 15 81 82 0 (by rw[mixC];decide) (by simp[go_sem]) (by simp[go_sem]) (by simp[go_sem]) (by simp[go_sem]) (by decide) (by kernel_rfl) (by kernel_rfl) ?_
       intro s' h' g4 g5 g6 m2 m3
       simp[go_sem]
       exact fin a b 0 (by rw[hch];unfold tailR;simp[r1,r6',r3,r4,r5]) _ (.inr rfl) _ _ g4 g5 g6 m2 m3
     ·have _:=r5
      simp[go_sem,q0,k0,k1,s0,s1,r3,r4,r5]
      refine reg230 12 74 75 11 (by rw[mixC];decide) (by simp[go_sem]) (by simp[go_sem]) (by simp[go_sem]) (by simp[go_sem]) (by decide) (by kernel_rfl) (by kernel_rfl) ?_
      intro s' h' g4 g5 g6 m2 m3
      simp[go_sem]
      exact fin a b 11 (by rw[hch];unfold tailR;simp[r1,r3,r4,r5]) _ (.inr rfl) _ _ g4 g5 g6 m2 m3
    ·have _:=r4
     simp[go_sem,q0,k0,k1,s0,r2,r3,r4]
     refine reg230 12 74 75 11 (by rw[mixC];decide) (by simp[go_sem]) (by simp[go_sem]) (by simp[go_sem]) (by simp[go_sem]) (by decide) (by kernel_rfl) (by kernel_rfl) ?_
     intro s' h' g4 g5 g6 m2 m3
     simp[go_sem]
     exact fin a b 11 (by rw[hch];unfold tailR;simp[r1,r2,r3,r4]) _ (.inr rfl) _ _ g4 g5 g6 m2 m3
 ·have _:=q0
  have k0:=four_k0 b a
  have k1:=four_k1 b a
  have s0:=four_s0 b a
  have s1:=four_s1 b a
  have l0:=four_ld0 b a
  have l1:=four_ld1 b a
  have z0:=four_ld0 a b
  have z1:=four_ld1 a b
  have z2:=four_s0 a b
  have z3:=four_s1 a b
  have cc:=call118 b a hb ha
  have co:=call284 b a hb ha
  obtain ⟨g2,y1,y2⟩:=four_sw b a
  have hch:chooseR a b=tailR b a:=by unfold chooseR;simp[q0]
  by_cases r1:b.kind=1
  ·have _:=r1
   have r2:¬a.kind=1:=q0
   by_cases r3:b.sort=0
   ·have _:=r3
    by_cases r6:occ b a=true
    ·have _:=r6
     simp[go_sem,f0,f1,f2,w1,w2,q0,k0,k1,s0,l0,l1,co,r1,r6,r3]
     refine reg230 14 79 80 12 (by rw[mixC];decide) (by simp[go_sem]) (by simp[go_sem]) (by simp[go_sem]) (by simp[go_sem]) (by decide) (by kernel_rfl) (by kernel_rfl) ?_
     intro s' h' g4 g5 g6 m2 m3
     simp[go_sem]
     exact fin b a 12 (by rw[hch];unfold tailR;simp[r1,r2,r6,r3]) _ (.inr rfl) _ _ g4 g5 g6 m2 m3
    ·have _:=r6
     have r6':occ b a=false:=by simpa using r6
     simp[go_sem,f0,f1,f2,w1,w2,q0,k0,k1,s0,l0,l1,co,r1,r6',r3]
     refine reg230 15 81 82 0 (by rw[mixC];decide) (by simp[go_sem]) (by simp[go_sem]) (by simp[go_sem]) (by simp[go_sem]) (by decide) (by kernel_rfl) (by kernel_rfl) ?_
     intro s' h' g4 g5 g6 m2 m3
     simp[go_sem]
     exact fin b a 0 (by rw[hch];unfold tailR;simp[r1,r2,r6',r3]) _ (.inr rfl) _ _ g4 g5 g6 m2 m3
   ·have _:=r3
    by_cases r4:a.kind=2
    ·have _:=r4
     by_cases r5:a.sort=b.sort
     ·have _:=r5
      by_cases r6:occ b a=true
      ·have _:=r6
       simp[go_sem,f0,f1,f2,w1,w2,k0,k1,s0,s1,l0,l1,co,r1,r6,r3,r4,r5]
       refine reg230 14 79 80 12 (by rw[mixC];decide) (by simp[go_sem]) (by simp[go_sem]) (by simp[go_sem]) (by simp[go_sem]) (by decide) (by kernel_rfl) (by kernel_rfl) ?_
       intro s' h' g4 g5 g6 m2 m3
       simp[go_sem]
       exact fin b a 12 (by rw[hch];unfold tailR;simp[r1,r6,r3,r4,r5]) _ (.inr rfl) _ _ g4 g5 g6 m2 m3
      ·have _:=r6
       have r6':occ b a=false:=by simpa using r6
       simp[go_sem,f0,f1,f2,w1,w2,k0,k1,s0,s1,l0,l1,co,r1,r6',r3,r4,r5]
       refine reg230 15 81 82 0 (by rw[mixC];decide) (by simp[go_sem]) (by simp[go_sem]) (by simp[go_sem]) (by simp[go_sem]) (by decide) (by kernel_rfl) (by kernel_rfl) ?_
       intro s' h' g4 g5 g6 m2 m3
       simp[go_sem]
       exact fin b a 0 (by rw[hch];unfold tailR;simp[r1,r6',r3,r4,r5]) _ (.inr rfl) _ _ g4 g5 g6 m2 m3
     ·have _:=r5
      simp[go_sem,f0,f1,f2,w1,w2,k0,k1,s0,s1,r1,r3,r4,r5]
      refine reg230 12 74 75 11 (by rw[mixC];decide) (by simp[go_sem]) (by simp[go_sem]) (by simp[go_sem]) (by simp[go_sem]) (by decide) (by kernel_rfl) (by kernel_rfl) ?_
      intro s' h' g4 g5 g6 m2 m3
      simp[go_sem]
      exact fin b a 11 (by rw[hch];unfold tailR;simp[r1,r3,r4,r5]) _ (.inr rfl) _ _ g4 g5 g6 m2 m3
    ·have _:=r4
     simp[go_sem,f0,f1,f2,w1,w2,q0,k0,k1,s0,r1,r3,r4]
     refine reg230 12 74 75 11 (by rw[mixC];decide) (by simp[go_sem]) (by simp[go_sem]) (by simp[go_sem]) (by simp[go_sem]) (by decide) (by kernel_rfl) (by kernel_rfl) ?_
     intro s' h' g4 g5 g6 m2 m3
     simp[go_sem]
     exact fin b a 11 (by rw[hch];unfold tailR;simp[r1,r2,r3,r4]) _ (.inr rfl) _ _ g4 g5 g6 m2 m3
  ·have _:=r1
   simp[go_sem,f0,f1,f2,w1,w2,q0,k0,r1]
   refine reg230 4 15 16 11 (by rw[mixC];decide) (by simp[go_sem]) (by simp[go_sem]) (by simp[go_sem]) (by simp[go_sem]) (by decide) (by kernel_rfl) (by kernel_rfl) ?_
   intro s' h' g4 g5 g6 m2 m3
   simp[go_sem]
   exact fin b a 11 (by rw[hch];unfold tailR;simp[r1]) _ (.inr rfl) _ _ g4 g5 g6 m2 m3
theorem call230 (a b:T) (ha:a.size<4000000) (hb:b.size<4000000) (h:H):callV C h (.func 230 []) (some [enc a,enc b])=some (.tuple [enc (chooseR a b).1,enc (chooseR a b).2.1,.int .i64 (chooseR a b).2.2],h):=callV_strip (by kernel_rfl) rfl (dat_enc2 _ _) (by simp[short_enc]) (by simp) (choose230 a b ha hb)
end Go.VZ

/- Rows of pairs and of bindings; what is bound is put everywhere: the reference's way walked. -/
namespace Go.VZ
open Go Go.V Go.Proofs TL
theorem u203:C.P.underlying 203=some (.slice 205):=Tryz.underlying203
theorem s205:sizeV C.P 205=some 8:=by kernel_rfl
theorem a205:isAggB C.P 205=some true:=by kernel_rfl
theorem b205:bytesV C.P 205=some 112:=by kernel_rfl
theorem z205:zeroOk C.P 205=true:=by kernel_rfl
theorem is203:isSliceT C.P 203=some 205:=by kernel_rfl
theorem b86:bytesV C.P 86=some 112:=by kernel_rfl
theorem z86:zeroOk C.P 86=true:=by kernel_rfl
theorem is46:isSliceT C.P 46=some 86:=by kernel_rfl
attribute [go_sem] u203 s205 a205 is203 is46
def z8:List AV:=zc++zc
theorem zv205:zeroV C.P 205=some (.agg z8):=by kernel_rfl
theorem zv86u:zeroV C.P 86=some (.agg z8):=by kernel_rfl
theorem cells_encB (b:T × T):(encB b).cells=(enc b.1).cells++(enc b.2).cells:=by rw[enc_cells,enc_cells];rfl
theorem szOk_B (l:List (T × T)):szOk 8 (l.map encB)=true:=by cases l<;>simp[szOk,encB,cells_agg]
theorem fa205i_0 (e:AV):fieldAddrV C.P 205 (.iptr e 0) 0=some (.iptr e 0):=by kernel_rfl
theorem fa205i_1 (e:AV):fieldAddrV C.P 205 (.iptr e 0) 1=some (.iptr e 4):=by kernel_rfl
theorem fa205_0 (i:Nat):fieldAddrV C.P 205 (.ptr i 0) 0=some (.ptr i 0):=by kernel_rfl
theorem fa205_1 (i:Nat):fieldAddrV C.P 205 (.ptr i 0) 1=some (.ptr i 4):=by kernel_rfl
attribute [go_sem] fa205i_0 fa205i_1 fa205_0 fa205_1
theorem len203 (l:List (T × T)) (x:Ext):lenV C.P 203 (.isl (l.map encB) x)=some (.int .i64 l.length):=by simp[lenV,u203]
theorem len203b (l:List (T × T)):lenV C.P 203 (binds l)=some (.int .i64 l.length):=len203 l _
theorem idx203 (l:List (T × T)) (k:Nat) (hk:k<l.length) (x:Ext):indexAddrV C.P 203 (.isl (l.map encB) x) (.int .i64 k)=some (.iptr (encB l[k]) 0):=by
 simp[indexAddrV,u203,s205,hk,encB,cells_agg]
theorem ld205 {h:H}{i:Nat}{b:T × T}(hi:h[i]?=some (.cells (encB b).cells .live)):loadV C.P h 205 (.ptr i 0)=some (encB b):=by
 simp[loadV,hi,cellsAt,a205,s205,encB,cells_agg]
theorem st205 {h:H}{i:Nat}(b:T × T) (hi:h[i]?=some (.cells z8 .live)):storeV C.P h 205 (.ptr i 0) (encB b)=some (h.set i (.cells (encB b).cells .live)):=by
 simp[storeV,hi,s205,encB,z8,zc,cells_agg]
theorem st86u {h:H}{i:Nat}(b:T × T) (hi:h[i]?=some (.cells z8 .live)):storeV C.P h 86 (.ptr i 0) (encB b)=some (h.set i (.cells (encB b).cells .live)):=by
 simp[storeV,hi,s86,encB,z8,zc,cells_agg]
theorem bld205 (a b:T):buildV C.P 205 [(0,enc a),(1,enc b)]=some (encB (a,b)):=by
 rw[enc_eq a,enc_eq b]
 have e:∀(k s k' s':Int) (n n':ByteArray) (l l':List AV),buildV C.P 205 [(0,.agg [.int .i64 k,.str n,.int .i64 s,.isl l .unk]),(1,.agg [.int .i64 k',.str n',.int .i64 s',.isl l' .unk])]=some (.agg [.int .i64 k,.str n,.int .i64 s,.isl l .unk,.int .i64 k',.str n',.int .i64 s',.isl l' .unk]):=fun k s k' s' n n' l l'=>by kernel_rfl
 exact e _ _ _ _ _ _ _ _
theorem bld86 (a b:T):buildV C.P 86 [(0,enc a),(1,enc b)]=some (encB (a,b)):=by
 rw[enc_eq a,enc_eq b]
 have e:∀(k s k' s':Int) (n n':ByteArray) (l l':List AV),buildV C.P 86 [(0,.agg [.int .i64 k,.str n,.int .i64 s,.isl l .unk]),(1,.agg [.int .i64 k',.str n',.int .i64 s',.isl l' .unk])]=some (.agg [.int .i64 k,.str n,.int .i64 s,.isl l .unk,.int .i64 k',.str n',.int .i64 s',.isl l' .unk]):=fun k s k' s' n n' l l'=>by kernel_rfl
 exact e _ _ _ _ _ _ _ _
theorem nt_B (b:T × T):notTuple (encB b)=true:=rfl
theorem build203_1 (h:H) (b:T × T):buildSliceV C.P h 203 1 [(0,encB b)]=some (.isl [encB b] .full,h):=buildSlice_dats u203 s205 z205 rfl (by omega) rfl rfl rfl (by simp) rfl
theorem build46_1 (h:H) (b:T × T):buildSliceV C.P h 46 1 [(0,encB b)]=some (.isl [encB b] .full,h):=buildSlice_dats u46 s86 z86 rfl (by omega) rfl rfl rfl (by simp) rfl
theorem append203 {h:H}{v:AV}{xs ys:List (T × T)}{x:Ext}(o:OwnR 205 h v (xs.map encB)) (hl:xs.length+ys.length≤100000000000) :
  ∃v' h',appendW C.P false h 203 v (.isl (ys.map encB) x)=some (v',h')∧OwnR 205 h' v' ((xs++ys).map encB)∧Keep h h' (idOf v)∧(idOf v'=idOf v∨idOf v=none∧idOf v'=some h.length):=by
 have:=append_own (x:=x) u203 s205 b205 z205 rfl o (szOk_B xs) (szOk_B ys) (by simp only[List.length_map];omega)
 rwa [←List.map_append] at this
theorem append46 {h:H}{v:AV}{xs ys:List (T × T)}{x:Ext}(o:OwnR 86 h v (xs.map encB)) (hl:xs.length+ys.length≤100000000000) :
  ∃v' h',appendW C.P false h 46 v (.isl (ys.map encB) x)=some (v',h')∧OwnR 86 h' v' ((xs++ys).map encB)∧Keep h h' (idOf v)∧(idOf v'=idOf v∨idOf v=none∧idOf v'=some h.length):=by
 have:=append_own (x:=x) u46 s86 b86 z86 rfl o (szOk_B xs) (szOk_B ys) (by simp only[List.length_map];omega)
 rwa [←List.map_append] at this
theorem mv_cellsB (i k:Nat) (b:T × T):VObj.mv i k (.cells (encB b).cells .live)=.cells (encB b).cells .live:=rfl
theorem mv_z8 (i k:Nat):VObj.mv i k (.cells z8 .live)=.cells z8 .live:=rfl
theorem own_ne2 {e e':TypeId}(hne:e≠e'){h:H}{v w:AV}{xs ys:List AV}(o:OwnR e h v xs) (p:OwnR e' h w ys):∀i,idOf v=some i→idOf w≠some i:=by
 intro i hi hj
 rcases o with rfl | ⟨a,rfl,ha⟩
 ·cases hi
 ·rcases p with rfl | ⟨b,rfl,hb⟩
  ·cases hj
  ·simp only[idOf,Option.some.injEq] at hi hj
   subst hi;subst hj;rw[ha] at hb
   simp only[Option.some.injEq,VObj.tok.injEq] at hb
   exact hne hb.2
end Go.VZ

/- What is bound is put everywhere: the reference's way walked. -/
namespace Go.VZ
open Go Go.V Go.Proofs TL
theorem okP_take {x y:T}{ps:List (T × T)}{k:Nat}(hk:k<ps.length):okP x y (ps.take (k+1))=(okP x y (ps.take k)&&(decide (validE (put1 x y ps[k].1)=0)&&decide (validE (put1 x y ps[k].2)=0))):=by
 rw[←List.take_append_getElem hk,okP,List.all_append,okP];simp
theorem okS_take {x y:T}{s:List (T × T)}{k:Nat}(hk:k<s.length):okS x y (s.take (k+1))=(okS x y (s.take k)&&decide (validE (put1 x y s[k].2)=0)):=by
 rw[←List.take_append_getElem hk,okS,List.all_append,okS];simp
theorem putP_take {x y:T}{ps:List (T × T)}{k:Nat}(hk:k<ps.length):putP x y (ps.take k)++[(put1 x y ps[k].1,put1 x y ps[k].2)]=putP x y (ps.take (k+1)):=by
 rw[←List.take_append_getElem hk,putP,putP,List.map_append];rfl
def NA231 (x y:T) (ps s:List (T × T)) (m:Nat) (st:PT) (h:H):Prop:=∃(k:Nat) (v:AV),m=ps.length-k∧k≤ps.length∧h[0]?=some (.cells (enc x).cells .live)∧h[1]?=some (.cells (enc y).cells .live)∧st.get 2=binds ps∧st.get 3=binds s∧st.get 4=.ptr 0 0∧st.get 5=.ptr 1 0∧st.get 11=v∧st.get 12=.bool (okP x y (ps.take k))∧st.get 13=.int .i64 k ∧
 OwnR 205 h v ((putP x y (ps.take k)).map encB)
def NB231 (x y:T) (ps s:List (T × T)) (m:Nat) (st:PT) (h:H):Prop:=∃(k:Nat) (w v:AV) (o:List (T × T)) (d:Bool),m=s.length-k∧k≤s.length∧o.length≤k+(if d=true then 1 else 0)∧h[0]?=some (.cells (enc x).cells .live)∧h[1]?=some (.cells (enc y).cells .live)∧st.get 3=binds s∧st.get 4=.ptr 0 0∧st.get 5=.ptr 1 0∧st.get 11=w∧st.get 12=.bool (okP x y ps&&okS x y (s.take k))∧st.get 15=v∧st.get 16=.bool d∧st.get 17=.int .i64 k ∧
 OwnR 205 h w ((putP x y ps).map encB)∧OwnR 86 h v (o.map encB)∧insO (x,y) (putS x y s)=(if d=true then o++(putS x y s).drop k else o++insO (x,y) ((putS x y s).drop k))
def le400 (l:List (T × T)):Prop:=∀p∈l,p.1.size≤400∧p.2.size≤400
theorem le400_put {x y t:T}(hy:y.size≤400) (ht:t.size≤400):(put1 x y t).size<4000000:=by
 have:=put1_size (x:=x) 400 hy (by omega) t
 have:400*t.size≤400*400:=Nat.mul_le_mul_left _ ht
 omega
set_option maxRecDepth 8000 in
set_option maxHeartbeats 8000000 in
theorem bind231 (x y:T) (ps s:List (T × T)) (hx:x.size≤400) (hy:y.size≤400) (hp:le400 ps) (hs:le400 s) (hpl:ps.length<4000000) (hsl:s.length<4000000) :
  CallP C 231 [enc x,enc y,binds ps,binds s]=some (.tuple [binds (putP x y ps),binds (insO (x,y) (putS x y s)),.bool (okU x y ps s)]):=by
 refine CallP_W rfl Tryz.func231 rfl (by kernel_rfl) (by simp[Tryz.f231]) fun R hR=>?_
 have hln:=len203b ps
 simp[go_sem,box25f]
 refine W_loop (NA231 x y ps s) ps.length ⟨0,.isl [] (.tok 4),rfl,Nat.zero_le _,rfl,rfl,by simp[go_sem],by simp[go_sem],by simp[go_sem],by simp[go_sem],by simp[go_sem],by simp[go_sem,okP],by simp[go_sem],.inr ⟨4,rfl,rfl⟩⟩ ?_
 rintro m st h ⟨k,v,rfl,hk,m0,m1,g2,g3,g4,g5,g11,g12,g13,go⟩
 have hl0:0<h.length:=(List.getElem?_eq_some_iff.1 m0).1
 have hl1:1<h.length:=(List.getElem?_eq_some_iff.1 m1).1
 by_cases hlt:k<ps.length
 ·have hlt':(k:Int)<ps.length:=by omega
  have hix:indexAddrV C.P 203 (binds ps) (.int .i64 k)=some (.iptr (encB ps[k]) 0):=idx203 ps k hlt .unk
  have w2:IntKind.i64.wrap ((k:Int)+1)=((k+1:Nat):Int):=by rw[wrap_in (by omega)];omega
  have hpk:=hp _ (List.getElem_mem hlt)
  have eok:=okP_take (x:=x) (y:=y) hlt
  have eput:=putP_take (x:=x) (y:=y) hlt
  generalize ps[k]=p at hix hpk eok eput
  obtain ⟨A,eA⟩:∃A,A=put1 x y p.1:=⟨_,rfl⟩
  obtain ⟨B,eB⟩:∃B,B=put1 x y p.2:=⟨_,rfl⟩
  have sA:A.size<4000000:=by rw[eA];exact le400_put hy hpk.1
  have sB:B.size<4000000:=by rw[eB];exact le400_put hy hpk.2
  have cA:=call285 x y p.1 (by omega) (by omega) (by omega)
  have cB:=call285 x y p.2 (by omega) (by omega) (by omega)
  rw[←eA] at cA eok eput
  rw[←eB] at cB eok eput
  simp[go_sem,g2,g13,hln,hlt']
  refine W_mixedP 6 _ (fun st' h'=>st'.get 2=binds ps∧st'.get 3=binds s∧st'.get 4=.ptr 0 0∧st'.get 5=.ptr 1 0∧st'.get 11=v∧st'.get 12=.bool (okP x y (ps.take k))∧st'.get 13=.int .i64 k∧st'.get 14=.ptr (h.length+17) 0∧h'[h.length+17]?=some (.cells (encB (A,B)).cells .live)∧Keep h h' none) (by rw[mixC];decide) (by kernel_rfl) ?_ ?_
  ·generalize hH0:h++List.replicate _ VObj.void=H0
   have pl:Pl h H0 19:=hH0▸Pl.mk' h 19
   have hlen:=pl.len
   clear hH0
   have p0:=ld25h (pl.get m0)
   have p1:=ld25h (pl.get m1)
   have hr1:reachs H0 deep [enc p.1,enc x,enc y]=[]:=(dats_snap (h:=H0) (dat_enc3 _ _ _) (by simp[short_enc]) deep (by simp[deep])).2
   have hr2:reachs H0 deep [enc p.2,enc x,enc y]=[]:=(dats_snap (h:=H0) (dat_enc3 _ _ _) (by simp[short_enc]) deep (by simp[deep])).2
   refine MX_pure (binds ps) rfl rfl (pl.isV (i:=0) (by decide)) (by simp[opN,go_sem,g2]) rfl ?_
   refine MX_pure (.int .i64 k) rfl rfl (pl.isV (i:=1) (by decide)) (by simp[opN,go_sem,g13]) rfl ?_
   refine MX_pure (.iptr (encB p) 0) rfl rfl (pl.isV (i:=2) (by decide)) (by simp[opN,go_sem,hix]) rfl ?_
   refine MX_pure (.iptr (encB p) 0) rfl rfl (pl.isV (i:=3) (by decide)) (by simp[opN,go_sem]) rfl ?_
   refine MX_load (.iptr (encB p) 0) (enc p.1) (by simp[go_sem]) (ld25i0 p H0) (by simp[lids]) (pl.isV (i:=4) (by decide)) (mv_enc _ _ _) ?_
   refine MX_load (.ptr 0 0) (enc x) (by simp[go_sem,g4]) p0 (lids_no (by omega)) (pl.isV (i:=5) (by decide)) (mv_enc _ _ _) ?_
   refine MX_load (.ptr 1 0) (enc y) (by simp[go_sem,g5]) p1 (lids_no (by omega)) (pl.isV (i:=6) (by decide)) (mv_enc _ _ _) ?_
   refine MX_call (args:=[.tmp 29,.tmp 30,.tmp 31]) [enc p.1,enc x,enc y] (enc A) (by kernel_rfl) rfl (by simp[go_sem]) hr1 (cA _) (pl.isV (i:=7) (by decide)) (mv_enc _ _ _) ?_
   refine MX_pure (binds ps) rfl rfl (pl.isV (i:=8) (by decide)) (by simp[opN,go_sem,g2]) rfl ?_
   refine MX_pure (.int .i64 k) rfl rfl (pl.isV (i:=9) (by decide)) (by simp[opN,go_sem,g13]) rfl ?_
   refine MX_pure (.iptr (encB p) 0) rfl rfl (pl.isV (i:=10) (by decide)) (by simp[opN,go_sem,hix]) rfl ?_
   refine MX_pure (.iptr (encB p) 4) rfl rfl (pl.isV (i:=11) (by decide)) (by simp[opN,go_sem]) rfl ?_
   refine MX_load (.iptr (encB p) 4) (enc p.2) (by simp[go_sem]) (ld25i4 p H0) (by simp[lids]) (pl.isV (i:=12) (by decide)) (mv_enc _ _ _) ?_
   refine MX_load (.ptr 0 0) (enc x) (by simp[go_sem,g4]) p0 (lids_no (by omega)) (pl.isV (i:=13) (by decide)) (mv_enc _ _ _) ?_
   refine MX_load (.ptr 1 0) (enc y) (by simp[go_sem,g5]) p1 (lids_no (by omega)) (pl.isV (i:=14) (by decide)) (mv_enc _ _ _) ?_
   refine MX_call (args:=[.tmp 37,.tmp 38,.tmp 39]) [enc p.2,enc x,enc y] (enc B) (by kernel_rfl) rfl (by simp[go_sem]) hr2 (cB _) (pl.isV (i:=15) (by decide)) (mv_enc _ _ _) ?_
   refine MX_pure (encB (A,B)) rfl rfl (pl.isV (i:=16) (by decide)) (by simp[opN,go_sem,partsV,notTuple_enc,bld205]) rfl ?_
   refine MX_alloc _ zv205 (pl.isV (i:=17) (by decide)) ?_
   simp only[cells_agg,mv_z8]
   have hlt3:h.length+17<H0.length:=by omega
   obtain ⟨H1,eH1⟩:∃g,g=H0.set (h.length+17) (.cells z8 .live):=⟨_,rfl⟩
   have hH1:H1[h.length+17]?=some (.cells z8 .live):=by rw[eH1];exact List.getElem?_set_self hlt3
   have hv18:isVoid H1[h.length+18]?=true:=by rw[eH1];exact isV_set (pl.isV (i:=18) (by decide)) (by omega)
   rw[←eH1]
   refine MX_store (h.length+17) 0 (encB (A,B)) _ (by simp[go_sem]) (by simp[go_sem]) (st205 (A,B) hH1) (by omega) hv18 ?_
   rw[mv_cellsB]
   refine ⟨?_,?_⟩
   ·unfold fpOk
    generalize hb:Region.before _=b
    have hb2:(b.getD 18 0).testBit 17=true:=by rw[←hb];kernel_rfl
    clear hb
    have o1:0≠h.length+7:=by omega
    have o2:0≠h.length+15:=by omega
    have o3:0≠h.length+17:=by omega
    have o4:0≠h.length+18:=by omega
    have o5:1≠h.length+7:=by omega
    have o6:1≠h.length+15:=by omega
    have o7:1≠h.length+17:=by omega
    have o8:1≠h.length+18:=by omega
    simp[lids,meet,List.range,List.range.loop]
    simpa [Array.getD_eq_getD_getElem?] using hb2
   ·have hlH1:h.length+17<H1.length:=by rw[eH1];simpa using hlt3
    refine ⟨by simp[go_sem,g2],by simp[go_sem,g3],by simp[go_sem,g4],by simp[go_sem,g5],by simp[go_sem,g11],by simp[go_sem,g12],by simp[go_sem,g13],by simp[go_sem],List.getElem?_set_self hlH1,?_⟩
    exact ⟨by rw[eH1];simp;omega,fun j hj _=>by rw[List.getElem?_set_ne (by omega),eH1,List.getElem?_set_ne (by omega),pl.old j hj]⟩
  ·rintro st' h' ⟨g2,g3,g4,g5,g11,g12,g13,g14,mp,kp⟩
   have m0':=kp.get m0 (by simp)
   have m1':=kp.get m1 (by simp)
   have go':=go.keep kp (by simp)
   have lA:=ldB0 mp
   have lB:=ldB4 mp
   have lP:=ld205 mp
   have vA:=call86 A sA
   have vB:=call86 B sB
   obtain ⟨v',h2,ha,ho,hkp,hid⟩:=append203 (ys:=[(A,B)]) (x:=.full) go' (by simp only[putP,List.length_map,List.length_take,List.length_cons,List.length_nil];omega)
   rw[eput] at ho
   simp only[List.map_cons,List.map_nil] at ha
   cases q0:okP x y (ps.take k)
   ·rw[q0,Bool.false_and] at eok
    rw[q0] at g12
    simp[go_sem,g11,g12,g13,g14,lP,nt_B,build203_1,ha,-Int.natCast_add,w2]
    exact ⟨ps.length-(k+1),by omega,k+1,v',rfl,hlt,hkp.get m0' (own_not go' m0'),hkp.get m1' (own_not go' m1'),by simp[go_sem,g2],by simp[go_sem,g3],by simp[go_sem,g4],by simp[go_sem,g5],by simp[go_sem],by simp[go_sem,eok],by simp[go_sem],ho⟩
   rw[q0,Bool.true_and] at eok
   rw[q0] at g12
   by_cases q1:validE A=0
   ·rw[decide_eq_true q1,Bool.true_and] at eok
    by_cases q2:validE B=0
    ·rw[decide_eq_true q2] at eok
     simp[go_sem,g11,g12,g13,g14,lA,lB,vA,vB,q1,q2,lP,nt_B,build203_1,ha,-Int.natCast_add,w2]
     exact ⟨ps.length-(k+1),by omega,k+1,v',rfl,hlt,hkp.get m0' (own_not go' m0'),hkp.get m1' (own_not go' m1'),by simp[go_sem,g2],by simp[go_sem,g3],by simp[go_sem,g4],by simp[go_sem,g5],by simp[go_sem],by simp[go_sem,eok],by simp[go_sem],ho⟩
    ·rw[decide_eq_false q2] at eok
     simp[go_sem,g11,g12,g13,g14,lA,lB,vA,vB,q1,q2,lP,nt_B,build203_1,ha,-Int.natCast_add,w2]
     exact ⟨ps.length-(k+1),by omega,k+1,v',rfl,hlt,hkp.get m0' (own_not go' m0'),hkp.get m1' (own_not go' m1'),by simp[go_sem,g2],by simp[go_sem,g3],by simp[go_sem,g4],by simp[go_sem,g5],by simp[go_sem],by simp[go_sem,eok],by simp[go_sem],ho⟩
   ·rw[decide_eq_false q1,Bool.false_and] at eok
    simp[go_sem,g11,g12,g13,g14,lA,vA,q1,lP,nt_B,build203_1,ha,-Int.natCast_add,w2]
    exact ⟨ps.length-(k+1),by omega,k+1,v',rfl,hlt,hkp.get m0' (own_not go' m0'),hkp.get m1' (own_not go' m1'),by simp[go_sem,g2],by simp[go_sem,g3],by simp[go_sem,g4],by simp[go_sem,g5],by simp[go_sem],by simp[go_sem,eok],by simp[go_sem],ho⟩
 ·have:k=ps.length:=by omega
  subst this
  rw[List.take_length] at go g12
  simp[go_sem,g2,g13,hln]
  have hls:=len46b s
  refine W_loop (NB231 x y ps s) s.length ⟨0,v,.isl [] (.tok h.length),[],false,rfl,Nat.zero_le _,by simp,ga m0,ga m1,by simp[go_sem,g3],by simp[go_sem,g4],by simp[go_sem,g5],by simp[go_sem,g11],by simp[go_sem,g12,okS],by simp[go_sem],by simp[go_sem],by simp[go_sem],go.keep (Keep.append _ _ none) (by simp),.inr ⟨h.length,rfl,by simp⟩,by simp⟩ ?_
  clear hl0 hl1 go g13 g12 g11 g5 g4 g3 g2 m0 m1 st h v
  rintro m st h ⟨k,w,v,o,d,rfl,hk,hol,m0,m1,g3,g4,g5,g11,g12,g15,g16,g17,gw,gv,law⟩
  have lx:=ld25h m0
  have ly:=ld25h m1
  have hol2:o.length≤k+1:=by split at hol<;>omega
  by_cases hlt:k<s.length
  ·have hlt':(k:Int)<s.length:=by omega
   have hix:indexAddrV C.P 46 (binds s) (.int .i64 k)=some (.iptr (encB s[k]) 0):=idx46 s k hlt .unk
   have w2:IntKind.i64.wrap ((k:Int)+1)=((k+1:Nat):Int):=by rw[wrap_in (by omega)];omega
   have hsk:=hs _ (List.getElem_mem hlt)
   have eok:=okS_take (x:=x) (y:=y) hlt
   have edr:(putS x y s).drop k=(s[k].1,put1 x y s[k].2)::(putS x y s).drop (k+1):=by
    rw[List.drop_eq_getElem_cons (by simpa [putS] using hlt)]
    congr 1
    simp[putS]
   generalize s[k]=b at hix hsk eok edr
   obtain ⟨B,eB⟩:∃B,B=put1 x y b.2:=⟨_,rfl⟩
   have sB:B.size<4000000:=by rw[eB];exact le400_put hy hsk.2
   have cB:=call285 x y b.2 (by omega) (by omega) (by omega)
   rw[←eB] at cB eok edr
   have lb:=ld25i0 b
   have c118:=call118 x b.1 (by omega) (by omega)
   cases d
   ·by_cases q:x.cmp b.1<0
    ·obtain ⟨v1,h1,ha1,gv1,hkp1,_⟩:=append46 (ys:=[(x,y)]) (x:=.full) gv (by simp only[List.length_cons,List.length_nil];omega)
     simp only[List.map_cons,List.map_nil] at ha1
     have gw1:=gw.keep hkp1 (own_ne2 (by decide) gw gv)
     have n0:=hkp1.get m0 (own_not gv m0)
     have n1:=hkp1.get m1 (own_not gv m1)
     simp[go_sem,g3,g4,g5,g15,g16,g17,hls,hlt',hix,fa86i_0,lb,lx,ly,c118,q,bld86,nt_B,notTuple_enc,build46_1,ha1]
     refine W_mixedP 17 _ (fun st' h'=>st'.get 3=binds s∧st'.get 4=.ptr 0 0∧st'.get 5=.ptr 1 0∧st'.get 11=w∧st'.get 12=.bool (okP x y ps&&okS x y (s.take k))∧st'.get 15=v1∧st'.get 16=.bool true∧st'.get 17=.int .i64 k∧st'.get 18=.ptr (h1.length+14) 0∧h'[h1.length+14]?=some (.cells (encB (b.1,B)).cells .live)∧Keep h1 h' none) (by rw[mixC];decide) (by kernel_rfl) ?_ ?_
     ·have hl0:0<h1.length:=(List.getElem?_eq_some_iff.1 n0).1
      have hl1:1<h1.length:=(List.getElem?_eq_some_iff.1 n1).1
      generalize hH0:h1++List.replicate _ VObj.void=H0
      have pl:Pl h1 H0 16:=hH0▸Pl.mk' h1 16
      have hlen:=pl.len
      clear hH0
      have p0:=ld25h (pl.get n0)
      have p1:=ld25h (pl.get n1)
      have hr1:reachs H0 deep [enc b.2,enc x,enc y]=[]:=(dats_snap (h:=H0) (dat_enc3 _ _ _) (by simp[short_enc]) deep (by simp[deep])).2
      refine MX_pure (binds s) rfl rfl (pl.isV (i:=0) (by decide)) (by simp[opN,go_sem,g3]) rfl ?_
      refine MX_pure (.int .i64 k) rfl rfl (pl.isV (i:=1) (by decide)) (by simp[opN,go_sem,g17]) rfl ?_
      refine MX_pure (.iptr (encB b) 0) rfl rfl (pl.isV (i:=2) (by decide)) (by simp[opN,go_sem,hix]) rfl ?_
      refine MX_pure (.iptr (encB b) 0) rfl rfl (pl.isV (i:=3) (by decide)) (by simp[opN,go_sem,fa86i_0]) rfl ?_
      refine MX_load (.iptr (encB b) 0) (enc b.1) (by simp[go_sem]) (ld25i0 b H0) (by simp[lids]) (pl.isV (i:=4) (by decide)) (mv_enc _ _ _) ?_
      refine MX_pure (binds s) rfl rfl (pl.isV (i:=5) (by decide)) (by simp[opN,go_sem,g3]) rfl ?_
      refine MX_pure (.int .i64 k) rfl rfl (pl.isV (i:=6) (by decide)) (by simp[opN,go_sem,g17]) rfl ?_
      refine MX_pure (.iptr (encB b) 0) rfl rfl (pl.isV (i:=7) (by decide)) (by simp[opN,go_sem,hix]) rfl ?_
      refine MX_pure (.iptr (encB b) 4) rfl rfl (pl.isV (i:=8) (by decide)) (by simp[opN,go_sem,fa86i_1]) rfl ?_
      refine MX_load (.iptr (encB b) 4) (enc b.2) (by simp[go_sem]) (ld25i4 b H0) (by simp[lids]) (pl.isV (i:=9) (by decide)) (mv_enc _ _ _) ?_
      refine MX_load (.ptr 0 0) (enc x) (by simp[go_sem,g4]) p0 (lids_no (by omega)) (pl.isV (i:=10) (by decide)) (mv_enc _ _ _) ?_
      refine MX_load (.ptr 1 0) (enc y) (by simp[go_sem,g5]) p1 (lids_no (by omega)) (pl.isV (i:=11) (by decide)) (mv_enc _ _ _) ?_
      refine MX_call (args:=[.tmp 92,.tmp 93,.tmp 94]) [enc b.2,enc x,enc y] (enc B) (by kernel_rfl) rfl (by simp[go_sem]) hr1 (cB _) (pl.isV (i:=12) (by decide)) (mv_enc _ _ _) ?_
      refine MX_pure (encB (b.1,B)) rfl rfl (pl.isV (i:=13) (by decide)) (by simp[opN,go_sem,partsV,notTuple_enc,bld86]) rfl ?_
      refine MX_alloc _ zv86u (pl.isV (i:=14) (by decide)) ?_
      simp only[cells_agg,mv_z8]
      have hlt3:h1.length+14<H0.length:=by omega
      obtain ⟨H1,eH1⟩:∃g,g=H0.set (h1.length+14) (.cells z8 .live):=⟨_,rfl⟩
      have hH1:H1[h1.length+14]?=some (.cells z8 .live):=by rw[eH1];exact List.getElem?_set_self hlt3
      have hv15:isVoid H1[h1.length+15]?=true:=by rw[eH1];exact isV_set (pl.isV (i:=15) (by decide)) (by omega)
      rw[←eH1]
      refine MX_store (h1.length+14) 0 (encB (b.1,B)) _ (by simp[go_sem]) (by simp[go_sem]) (st86u (b.1,B) hH1) (by omega) hv15 ?_
      rw[mv_cellsB]
      refine ⟨?_,?_⟩
      ·unfold fpOk
       generalize hb:Region.before _=bb
       have hb2:(bb.getD 15 0).testBit 14=true:=by rw[←hb];kernel_rfl
       clear hb
       have o1:0≠h1.length+12:=by omega
       have o2:0≠h1.length+14:=by omega
       have o3:0≠h1.length+15:=by omega
       have o4:1≠h1.length+12:=by omega
       have o5:1≠h1.length+14:=by omega
       have o6:1≠h1.length+15:=by omega
       simp[lids,meet,List.range,List.range.loop]
       simpa [Array.getD_eq_getD_getElem?] using hb2
      ·have hlH1:h1.length+14<H1.length:=by rw[eH1];simpa using hlt3
       refine ⟨by simp[go_sem,g3],by simp[go_sem,g4],by simp[go_sem,g5],by simp[go_sem,g11],by simp[go_sem,g12],by simp[go_sem],by simp[go_sem],by simp[go_sem,g17],by simp[go_sem],List.getElem?_set_self hlH1,?_⟩
       exact ⟨by rw[eH1];simp;omega,fun j hj _=>by rw[List.getElem?_set_ne (by omega),eH1,List.getElem?_set_ne (by omega),pl.old j hj]⟩
     ·rintro st' h' ⟨g3,g4,g5,g11,g12,g15,g16,g17,g18,mp,kp⟩
      have m0':=kp.get n0 (by simp)
      have m1':=kp.get n1 (by simp)
      have gw':=gw1.keep kp (by simp)
      have gv':=gv1.keep kp (by simp)
      have lB:=ldB4 mp
      have lP:=ldB mp
      have vB:=call86 B sB
      obtain ⟨v',h2,ha,ho,hkp,hid⟩:=append46 (ys:=[(b.1,B)]) (x:=.full) gv' (by simp only[List.length_append,List.length_cons,List.length_nil];omega)
      simp only[List.map_cons,List.map_nil] at ha
      have gw2:=gw'.keep hkp (own_ne2 (by decide) gw' gv')
      have hn0:=own_not gv' m0'
      have hn1:=own_not gv' m1'
      have law':insO (x,y) (putS x y s)=(if true=true then ((o++[(x,y)])++[(b.1,B)])++(putS x y s).drop (k+1) else ((o++[(x,y)])++[(b.1,B)])++insO (x,y) ((putS x y s).drop (k+1))):=by
       rw[law,edr];simp[insO,q]
      cases q0:(okP x y ps&&okS x y (s.take k))
      ·rw[q0] at g12
       have eok':(okP x y ps&&okS x y (s.take (k+1)))=false:=by rw[eok,←Bool.and_assoc,q0,Bool.false_and]
       simp[go_sem,g12,g15,g17,g18,lP,nt_B,build46_1,ha,-Int.natCast_add,w2]
       exact ⟨s.length-(k+1),by omega,k+1,w,v',_,true,rfl,hlt,by simp at hol ⊢;omega,hkp.get m0' hn0,hkp.get m1' hn1,by simp[go_sem,g3],by simp[go_sem,g4],by simp[go_sem,g5],by simp[go_sem,g11],by simp[go_sem,eok'],by simp[go_sem],by simp[go_sem,g16],by simp[go_sem],gw2,ho,law'⟩
      ·rw[q0] at g12
       by_cases q1:validE B=0
       ·have eok':(okP x y ps&&okS x y (s.take (k+1)))=true:=by rw[eok,←Bool.and_assoc,q0,decide_eq_true q1];rfl
        simp[go_sem,g12,g15,g17,g18,lB,vB,q1,lP,nt_B,build46_1,ha,-Int.natCast_add,w2]
        exact ⟨s.length-(k+1),by omega,k+1,w,v',_,true,rfl,hlt,by simp at hol ⊢;omega,hkp.get m0' hn0,hkp.get m1' hn1,by simp[go_sem,g3],by simp[go_sem,g4],by simp[go_sem,g5],by simp[go_sem,g11],by simp[go_sem,eok'],by simp[go_sem],by simp[go_sem,g16],by simp[go_sem],gw2,ho,law'⟩
       ·have eok':(okP x y ps&&okS x y (s.take (k+1)))=false:=by rw[eok,←Bool.and_assoc,q0,decide_eq_false q1];rfl
        simp[go_sem,g12,g15,g17,g18,lB,vB,q1,lP,nt_B,build46_1,ha,-Int.natCast_add,w2]
        exact ⟨s.length-(k+1),by omega,k+1,w,v',_,true,rfl,hlt,by simp at hol ⊢;omega,hkp.get m0' hn0,hkp.get m1' hn1,by simp[go_sem,g3],by simp[go_sem,g4],by simp[go_sem,g5],by simp[go_sem,g11],by simp[go_sem,eok'],by simp[go_sem],by simp[go_sem,g16],by simp[go_sem],gw2,ho,law'⟩
    ·simp[go_sem,g3,g4,g16,g17,hls,hlt',hix,fa86i_0,lb,lx,c118,q]
     refine W_mixedP 17 _ (fun st' h'=>st'.get 3=binds s∧st'.get 4=.ptr 0 0∧st'.get 5=.ptr 1 0∧st'.get 11=w∧st'.get 12=.bool (okP x y ps&&okS x y (s.take k))∧st'.get 15=v∧st'.get 16=.bool false∧st'.get 17=.int .i64 k∧st'.get 18=.ptr (h.length+14) 0∧h'[h.length+14]?=some (.cells (encB (b.1,B)).cells .live)∧Keep h h' none) (by rw[mixC];decide) (by kernel_rfl) ?_ ?_
     ·have hl0:0<h.length:=(List.getElem?_eq_some_iff.1 m0).1
      have hl1:1<h.length:=(List.getElem?_eq_some_iff.1 m1).1
      generalize hH0:h++List.replicate _ VObj.void=H0
      have pl:Pl h H0 16:=hH0▸Pl.mk' h 16
      have hlen:=pl.len
      clear hH0
      have p0:=ld25h (pl.get m0)
      have p1:=ld25h (pl.get m1)
      have hr1:reachs H0 deep [enc b.2,enc x,enc y]=[]:=(dats_snap (h:=H0) (dat_enc3 _ _ _) (by simp[short_enc]) deep (by simp[deep])).2
      refine MX_pure (binds s) rfl rfl (pl.isV (i:=0) (by decide)) (by simp[opN,go_sem,g3]) rfl ?_
      refine MX_pure (.int .i64 k) rfl rfl (pl.isV (i:=1) (by decide)) (by simp[opN,go_sem,g17]) rfl ?_
      refine MX_pure (.iptr (encB b) 0) rfl rfl (pl.isV (i:=2) (by decide)) (by simp[opN,go_sem,hix]) rfl ?_
      refine MX_pure (.iptr (encB b) 0) rfl rfl (pl.isV (i:=3) (by decide)) (by simp[opN,go_sem,fa86i_0]) rfl ?_
      refine MX_load (.iptr (encB b) 0) (enc b.1) (by simp[go_sem]) (ld25i0 b H0) (by simp[lids]) (pl.isV (i:=4) (by decide)) (mv_enc _ _ _) ?_
      refine MX_pure (binds s) rfl rfl (pl.isV (i:=5) (by decide)) (by simp[opN,go_sem,g3]) rfl ?_
      refine MX_pure (.int .i64 k) rfl rfl (pl.isV (i:=6) (by decide)) (by simp[opN,go_sem,g17]) rfl ?_
      refine MX_pure (.iptr (encB b) 0) rfl rfl (pl.isV (i:=7) (by decide)) (by simp[opN,go_sem,hix]) rfl ?_
      refine MX_pure (.iptr (encB b) 4) rfl rfl (pl.isV (i:=8) (by decide)) (by simp[opN,go_sem,fa86i_1]) rfl ?_
      refine MX_load (.iptr (encB b) 4) (enc b.2) (by simp[go_sem]) (ld25i4 b H0) (by simp[lids]) (pl.isV (i:=9) (by decide)) (mv_enc _ _ _) ?_
      refine MX_load (.ptr 0 0) (enc x) (by simp[go_sem,g4]) p0 (lids_no (by omega)) (pl.isV (i:=10) (by decide)) (mv_enc _ _ _) ?_
      refine MX_load (.ptr 1 0) (enc y) (by simp[go_sem,g5]) p1 (lids_no (by omega)) (pl.isV (i:=11) (by decide)) (mv_enc _ _ _) ?_
      refine MX_call (args:=[.tmp 92,.tmp 93,.tmp 94]) [enc b.2,enc x,enc y] (enc B) (by kernel_rfl) rfl (by simp[go_sem]) hr1 (cB _) (pl.isV (i:=12) (by decide)) (mv_enc _ _ _) ?_
      refine MX_pure (encB (b.1,B)) rfl rfl (pl.isV (i:=13) (by decide)) (by simp[opN,go_sem,partsV,notTuple_enc,bld86]) rfl ?_
      refine MX_alloc _ zv86u (pl.isV (i:=14) (by decide)) ?_
      simp only[cells_agg,mv_z8]
      have hlt3:h.length+14<H0.length:=by omega
      obtain ⟨H1,eH1⟩:∃g,g=H0.set (h.length+14) (.cells z8 .live):=⟨_,rfl⟩
      have hH1:H1[h.length+14]?=some (.cells z8 .live):=by rw[eH1];exact List.getElem?_set_self hlt3
      have hv15:isVoid H1[h.length+15]?=true:=by rw[eH1];exact isV_set (pl.isV (i:=15) (by decide)) (by omega)
      rw[←eH1]
      refine MX_store (h.length+14) 0 (encB (b.1,B)) _ (by simp[go_sem]) (by simp[go_sem]) (st86u (b.1,B) hH1) (by omega) hv15 ?_
      rw[mv_cellsB]
      refine ⟨?_,?_⟩
      ·unfold fpOk
       generalize hb:Region.before _=bb
       have hb2:(bb.getD 15 0).testBit 14=true:=by rw[←hb];kernel_rfl
       clear hb
       have o1:0≠h.length+12:=by omega
       have o2:0≠h.length+14:=by omega
       have o3:0≠h.length+15:=by omega
       have o4:1≠h.length+12:=by omega
       have o5:1≠h.length+14:=by omega
       have o6:1≠h.length+15:=by omega
       simp[lids,meet,List.range,List.range.loop]
       simpa [Array.getD_eq_getD_getElem?] using hb2
      ·have hlH1:h.length+14<H1.length:=by rw[eH1];simpa using hlt3
       refine ⟨by simp[go_sem,g3],by simp[go_sem,g4],by simp[go_sem,g5],by simp[go_sem,g11],by simp[go_sem,g12],by simp[go_sem,g15],by simp[go_sem,g16],by simp[go_sem,g17],by simp[go_sem],List.getElem?_set_self hlH1,?_⟩
       exact ⟨by rw[eH1];simp;omega,fun j hj _=>by rw[List.getElem?_set_ne (by omega),eH1,List.getElem?_set_ne (by omega),pl.old j hj]⟩
     ·rintro st' h' ⟨g3,g4,g5,g11,g12,g15,g16,g17,g18,mp,kp⟩
      have m0':=kp.get m0 (by simp)
      have m1':=kp.get m1 (by simp)
      have gw':=gw.keep kp (by simp)
      have gv':=gv.keep kp (by simp)
      have lB:=ldB4 mp
      have lP:=ldB mp
      have vB:=call86 B sB
      obtain ⟨v',h2,ha,ho,hkp,hid⟩:=append46 (ys:=[(b.1,B)]) (x:=.full) gv' (by simp only[List.length_cons,List.length_nil];omega)
      simp only[List.map_cons,List.map_nil] at ha
      have gw2:=gw'.keep hkp (own_ne2 (by decide) gw' gv')
      have hn0:=own_not gv' m0'
      have hn1:=own_not gv' m1'
      have law':insO (x,y) (putS x y s)=(if false=true then (o++[(b.1,B)])++(putS x y s).drop (k+1) else (o++[(b.1,B)])++insO (x,y) ((putS x y s).drop (k+1))):=by
       rw[law,edr];simp[insO,q]
      cases q0:(okP x y ps&&okS x y (s.take k))
      ·rw[q0] at g12
       have eok':(okP x y ps&&okS x y (s.take (k+1)))=false:=by rw[eok,←Bool.and_assoc,q0,Bool.false_and]
       simp[go_sem,g12,g15,g17,g18,lP,nt_B,build46_1,ha,-Int.natCast_add,w2]
       exact ⟨s.length-(k+1),by omega,k+1,w,v',_,false,rfl,hlt,by simp at hol ⊢;omega,hkp.get m0' hn0,hkp.get m1' hn1,by simp[go_sem,g3],by simp[go_sem,g4],by simp[go_sem,g5],by simp[go_sem,g11],by simp[go_sem,eok'],by simp[go_sem],by simp[go_sem,g16],by simp[go_sem],gw2,ho,law'⟩
      ·rw[q0] at g12
       by_cases q1:validE B=0
       ·have eok':(okP x y ps&&okS x y (s.take (k+1)))=true:=by rw[eok,←Bool.and_assoc,q0,decide_eq_true q1];rfl
        simp[go_sem,g12,g15,g17,g18,lB,vB,q1,lP,nt_B,build46_1,ha,-Int.natCast_add,w2]
        exact ⟨s.length-(k+1),by omega,k+1,w,v',_,false,rfl,hlt,by simp at hol ⊢;omega,hkp.get m0' hn0,hkp.get m1' hn1,by simp[go_sem,g3],by simp[go_sem,g4],by simp[go_sem,g5],by simp[go_sem,g11],by simp[go_sem,eok'],by simp[go_sem],by simp[go_sem,g16],by simp[go_sem],gw2,ho,law'⟩
       ·have eok':(okP x y ps&&okS x y (s.take (k+1)))=false:=by rw[eok,←Bool.and_assoc,q0,decide_eq_false q1];rfl
        simp[go_sem,g12,g15,g17,g18,lB,vB,q1,lP,nt_B,build46_1,ha,-Int.natCast_add,w2]
        exact ⟨s.length-(k+1),by omega,k+1,w,v',_,false,rfl,hlt,by simp at hol ⊢;omega,hkp.get m0' hn0,hkp.get m1' hn1,by simp[go_sem,g3],by simp[go_sem,g4],by simp[go_sem,g5],by simp[go_sem,g11],by simp[go_sem,eok'],by simp[go_sem],by simp[go_sem,g16],by simp[go_sem],gw2,ho,law'⟩
   ·simp[go_sem,g3,g16,g17,hls,hlt']
    refine W_mixedP 17 _ (fun st' h'=>st'.get 3=binds s∧st'.get 4=.ptr 0 0∧st'.get 5=.ptr 1 0∧st'.get 11=w∧st'.get 12=.bool (okP x y ps&&okS x y (s.take k))∧st'.get 15=v∧st'.get 16=.bool true∧st'.get 17=.int .i64 k∧st'.get 18=.ptr (h.length+14) 0∧h'[h.length+14]?=some (.cells (encB (b.1,B)).cells .live)∧Keep h h' none) (by rw[mixC];decide) (by kernel_rfl) ?_ ?_
    ·have hl0:0<h.length:=(List.getElem?_eq_some_iff.1 m0).1
     have hl1:1<h.length:=(List.getElem?_eq_some_iff.1 m1).1
     generalize hH0:h++List.replicate _ VObj.void=H0
     have pl:Pl h H0 16:=hH0▸Pl.mk' h 16
     have hlen:=pl.len
     clear hH0
     have p0:=ld25h (pl.get m0)
     have p1:=ld25h (pl.get m1)
     have hr1:reachs H0 deep [enc b.2,enc x,enc y]=[]:=(dats_snap (h:=H0) (dat_enc3 _ _ _) (by simp[short_enc]) deep (by simp[deep])).2
     refine MX_pure (binds s) rfl rfl (pl.isV (i:=0) (by decide)) (by simp[opN,go_sem,g3]) rfl ?_
     refine MX_pure (.int .i64 k) rfl rfl (pl.isV (i:=1) (by decide)) (by simp[opN,go_sem,g17]) rfl ?_
     refine MX_pure (.iptr (encB b) 0) rfl rfl (pl.isV (i:=2) (by decide)) (by simp[opN,go_sem,hix]) rfl ?_
     refine MX_pure (.iptr (encB b) 0) rfl rfl (pl.isV (i:=3) (by decide)) (by simp[opN,go_sem,fa86i_0]) rfl ?_
     refine MX_load (.iptr (encB b) 0) (enc b.1) (by simp[go_sem]) (ld25i0 b H0) (by simp[lids]) (pl.isV (i:=4) (by decide)) (mv_enc _ _ _) ?_
     refine MX_pure (binds s) rfl rfl (pl.isV (i:=5) (by decide)) (by simp[opN,go_sem,g3]) rfl ?_
     refine MX_pure (.int .i64 k) rfl rfl (pl.isV (i:=6) (by decide)) (by simp[opN,go_sem,g17]) rfl ?_
     refine MX_pure (.iptr (encB b) 0) rfl rfl (pl.isV (i:=7) (by decide)) (by simp[opN,go_sem,hix]) rfl ?_
     refine MX_pure (.iptr (encB b) 4) rfl rfl (pl.isV (i:=8) (by decide)) (by simp[opN,go_sem,fa86i_1]) rfl ?_
     refine MX_load (.iptr (encB b) 4) (enc b.2) (by simp[go_sem]) (ld25i4 b H0) (by simp[lids]) (pl.isV (i:=9) (by decide)) (mv_enc _ _ _) ?_
     refine MX_load (.ptr 0 0) (enc x) (by simp[go_sem,g4]) p0 (lids_no (by omega)) (pl.isV (i:=10) (by decide)) (mv_enc _ _ _) ?_
     refine MX_load (.ptr 1 0) (enc y) (by simp[go_sem,g5]) p1 (lids_no (by omega)) (pl.isV (i:=11) (by decide)) (mv_enc _ _ _) ?_
     refine MX_call (args:=[.tmp 92,.tmp 93,.tmp 94]) [enc b.2,enc x,enc y] (enc B) (by kernel_rfl) rfl (by simp[go_sem]) hr1 (cB _) (pl.isV (i:=12) (by decide)) (mv_enc _ _ _) ?_
     refine MX_pure (encB (b.1,B)) rfl rfl (pl.isV (i:=13) (by decide)) (by simp[opN,go_sem,partsV,notTuple_enc,bld86]) rfl ?_
     refine MX_alloc _ zv86u (pl.isV (i:=14) (by decide)) ?_
     simp only[cells_agg,mv_z8]
     have hlt3:h.length+14<H0.length:=by omega
     obtain ⟨H1,eH1⟩:∃g,g=H0.set (h.length+14) (.cells z8 .live):=⟨_,rfl⟩
     have hH1:H1[h.length+14]?=some (.cells z8 .live):=by rw[eH1];exact List.getElem?_set_self hlt3
     have hv15:isVoid H1[h.length+15]?=true:=by rw[eH1];exact isV_set (pl.isV (i:=15) (by decide)) (by omega)
     rw[←eH1]
     refine MX_store (h.length+14) 0 (encB (b.1,B)) _ (by simp[go_sem]) (by simp[go_sem]) (st86u (b.1,B) hH1) (by omega) hv15 ?_
     rw[mv_cellsB]
     refine ⟨?_,?_⟩
     ·unfold fpOk
      generalize hb:Region.before _=bb
      have hb2:(bb.getD 15 0).testBit 14=true:=by rw[←hb];kernel_rfl
      clear hb
      have o1:0≠h.length+12:=by omega
      have o2:0≠h.length+14:=by omega
      have o3:0≠h.length+15:=by omega
      have o4:1≠h.length+12:=by omega
      have o5:1≠h.length+14:=by omega
      have o6:1≠h.length+15:=by omega
      simp[lids,meet,List.range,List.range.loop]
      simpa [Array.getD_eq_getD_getElem?] using hb2
     ·have hlH1:h.length+14<H1.length:=by rw[eH1];simpa using hlt3
      refine ⟨by simp[go_sem,g3],by simp[go_sem,g4],by simp[go_sem,g5],by simp[go_sem,g11],by simp[go_sem,g12],by simp[go_sem,g15],by simp[go_sem,g16],by simp[go_sem,g17],by simp[go_sem],List.getElem?_set_self hlH1,?_⟩
      exact ⟨by rw[eH1];simp;omega,fun j hj _=>by rw[List.getElem?_set_ne (by omega),eH1,List.getElem?_set_ne (by omega),pl.old j hj]⟩
    ·rintro st' h' ⟨g3,g4,g5,g11,g12,g15,g16,g17,g18,mp,kp⟩
     have m0':=kp.get m0 (by simp)
     have m1':=kp.get m1 (by simp)
     have gw':=gw.keep kp (by simp)
     have gv':=gv.keep kp (by simp)
     have lB:=ldB4 mp
     have lP:=ldB mp
     have vB:=call86 B sB
     obtain ⟨v',h2,ha,ho,hkp,hid⟩:=append46 (ys:=[(b.1,B)]) (x:=.full) gv' (by simp only[List.length_cons,List.length_nil];omega)
     simp only[List.map_cons,List.map_nil] at ha
     have gw2:=gw'.keep hkp (own_ne2 (by decide) gw' gv')
     have hn0:=own_not gv' m0'
     have hn1:=own_not gv' m1'
     have law':insO (x,y) (putS x y s)=(if true=true then (o++[(b.1,B)])++(putS x y s).drop (k+1) else (o++[(b.1,B)])++insO (x,y) ((putS x y s).drop (k+1))):=by
      rw[law,edr];simp
     cases q0:(okP x y ps&&okS x y (s.take k))
     ·rw[q0] at g12
      have eok':(okP x y ps&&okS x y (s.take (k+1)))=false:=by rw[eok,←Bool.and_assoc,q0,Bool.false_and]
      simp[go_sem,g12,g15,g17,g18,lP,nt_B,build46_1,ha,-Int.natCast_add,w2]
      exact ⟨s.length-(k+1),by omega,k+1,w,v',_,true,rfl,hlt,by simp at hol ⊢;omega,hkp.get m0' hn0,hkp.get m1' hn1,by simp[go_sem,g3],by simp[go_sem,g4],by simp[go_sem,g5],by simp[go_sem,g11],by simp[go_sem,eok'],by simp[go_sem],by simp[go_sem,g16],by simp[go_sem],gw2,ho,law'⟩
     ·rw[q0] at g12
      by_cases q1:validE B=0
      ·have eok':(okP x y ps&&okS x y (s.take (k+1)))=true:=by rw[eok,←Bool.and_assoc,q0,decide_eq_true q1];rfl
       simp[go_sem,g12,g15,g17,g18,lB,vB,q1,lP,nt_B,build46_1,ha,-Int.natCast_add,w2]
       exact ⟨s.length-(k+1),by omega,k+1,w,v',_,true,rfl,hlt,by simp at hol ⊢;omega,hkp.get m0' hn0,hkp.get m1' hn1,by simp[go_sem,g3],by simp[go_sem,g4],by simp[go_sem,g5],by simp[go_sem,g11],by simp[go_sem,eok'],by simp[go_sem],by simp[go_sem,g16],by simp[go_sem],gw2,ho,law'⟩
      ·have eok':(okP x y ps&&okS x y (s.take (k+1)))=false:=by rw[eok,←Bool.and_assoc,q0,decide_eq_false q1];rfl
       simp[go_sem,g12,g15,g17,g18,lB,vB,q1,lP,nt_B,build46_1,ha,-Int.natCast_add,w2]
       exact ⟨s.length-(k+1),by omega,k+1,w,v',_,true,rfl,hlt,by simp at hol ⊢;omega,hkp.get m0' hn0,hkp.get m1' hn1,by simp[go_sem,g3],by simp[go_sem,g4],by simp[go_sem,g5],by simp[go_sem,g11],by simp[go_sem,eok'],by simp[go_sem],by simp[go_sem,g16],by simp[go_sem],gw2,ho,law'⟩
  ·have:k=s.length:=by omega
   subst this
   rw[List.take_length] at g12
   have edr:(putS x y s).drop s.length=[]:=by rw[show s.length=(putS x y s).length by simp[putS],List.drop_length]
   rw[edr] at law
   have fin:∀(st:PT) (h:H) (e1 e2:Ext) (l:List (T × T)),st.get 8=.isl ((putP x y ps).map encB) e1→st.get 9=.isl (l.map encB) e2→st.get 10=.bool (okP x y ps&&okS x y s)→l=insO (x,y) (putS x y s)→R .ret st h:=fun st h e1 e2 l h8 h9 h10 hl=>by
    refine hR _ _ _ (.inr rfl) ⟨.tuple [.isl ((putP x y ps).map encB) e1,.isl (l.map encB) e2,.bool (okP x y ps&&okS x y s)],by simp[resultV,resVs,resV,Tryz.f231,h8,h9,h10],?_⟩
    rw[←hl];exact snap_tuple rfl rfl (by simp)
   obtain ⟨e1,rfl⟩:=gw.isl
   cases d
   ·obtain ⟨v1,h1,ha1,gv1,hkp1,_⟩:=append46 (ys:=[(x,y)]) (x:=.full) gv (by simp only[List.length_cons,List.length_nil];omega)
    simp only[List.map_cons,List.map_nil] at ha1
    obtain ⟨e2,rfl⟩:=gv1.isl
    simp[go_sem,g3,g4,g5,g11,g12,g15,g16,g17,hls,lx,ly,bld86,nt_B,notTuple_enc,build46_1,ha1]
    exact fin _ _ e1 e2 (o++[(x,y)]) (by simp[go_sem]) (by simp[go_sem]) (by simp[go_sem]) (by rw[law];simp[insO])
   ·obtain ⟨e2,rfl⟩:=gv.isl
    simp[go_sem,g3,g11,g12,g15,g16,g17,hls]
    exact fin _ _ e1 e2 o (by simp[go_sem]) (by simp[go_sem]) (by simp[go_sem]) (by rw[law];simp)
end Go.VZ
