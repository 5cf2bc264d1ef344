/- slices.CompactFunc on a row of terms: walked. -/
import Derived.Test.YtdoegkegjaadeaaGreatDoorSb
import Derived.Test.YtdoegkegjaadeaaGreatDoorSa
namespace Go.VZ
open Go Go.V Go.Proofs TL
theorem getD_get {l:List T}{j:Nat}(h:j<l.length):l.getD j default=l[j]:=by
 rw[List.getD_eq_getElem?_getD,List.getElem?_eq_getElem h];rfl
def NIA (l:List T) (rest:List AV) (id n:Nat) (m:Nat) (st:PT) (h:H):Prop:=∃k:Nat,m=n-k∧1≤k∧k≤n∧h[id]?=some (.cells (cellsT l++rest) .live)∧st.get 0=.msl id 0 4 n none∧st.get 1=.func 219 []∧st.get 5=.int .i64 k ∧
 ∀i,0<i→i<k→(l.getD i default).cmp (l.getD (i-1) default)≠0
def NIB (l:List T) (rest:List AV) (id n k0:Nat) (m:Nat) (st:PT) (h:H):Prop:=∃(j p:Nat),m=n-j∧k0+1≤j∧j≤n∧p=(ddj l j).length∧p+1≤j∧h[id]?=some (.cells (cellsT (ddj l j++l.drop p)++rest) .live)∧st.get 0=.msl id 0 4 n none∧st.get 1=.func 219 []∧st.get 5=.int .i64 p ∧
 st.get 6=.msl id (4*k0) 4 (n-k0) none∧st.get 7=.int .i64 ((j-k0:Nat):Int)
set_option maxRecDepth 8000 in
set_option maxHeartbeats 4000000 in
theorem compact218 {N:Nat}{h0:H}{v:AV}{l:List T}(r:RowZ N h0 v l) (hs:∀t∈l,t.size<4000000) (hl:l.length<1000000000):∃v' h',Go.V.Call C 218 [v,.func 219 []] h0=some (v',h')∧RowZ N h' v' (dd l):=by
 refine Call_WQ rfl Tryz.func218 rfl (by kernel_rfl) (by simp[Tryz.f218]) fun R hR=>?_
 rcases r with ⟨rfl,rfl⟩ | ⟨id,rest,rfl,hid,hz,hN⟩
 ·simp[go_sem,initS,len23]
  exact hR _ _ _ (.inr rfl) ⟨.isl [] .full,by simp[resultV,resV,Tryz.f218,go_sem],.inl ⟨rfl,rfl⟩⟩
 have hln:lenV C.P 23 (.msl id 0 4 l.length none)=some (.int .i64 l.length):=by simp[lenV,u23]
 obtain ⟨n,en⟩:∃n,n=l.length:=⟨_,rfl⟩
 rw[←en] at hln hl ⊢
 by_cases hsm:n<2
 ·have hsm':(n:Int)<2:=by omega
  simp[go_sem,initS,hln,hsm']
  refine hR _ _ _ (.inr rfl) ⟨.msl id 0 4 n none,by simp[resultV,resV,Tryz.f218,go_sem],.inr ⟨id,rest,?_,?_,hz,?_⟩⟩
  all_goals
   have e:dd l=l:=by
    unfold dd
    rw[ddj_take _ (Nat.le_refl _) (fun i a b=>by omega),List.take_length]
   rw[e]
  ·rw[en]
  ·exact ga hid
  ·exact hN
 have hsm':¬(n:Int)<2:=by omega
 simp[go_sem,hln,hsm']
 refine W_loop (NIA l rest id n) (n-1) ⟨1,rfl,Nat.le_refl _,by omega,ga hid,by simp[go_sem],by simp[go_sem],by simp[go_sem],fun i a b=>by omega⟩ ?_
 clear hid
 rintro m st h ⟨k,rfl,hk1,hk,hid,g0,g1,g5,hnd⟩
 have w1:IntKind.i64.wrap ((k:Int)-1)=((k-1:Nat):Int):=by rw[wrap_in (by omega)];omega
 by_cases hlt:k<n
 rotate_left
 ·have:k=n:=by omega
  subst this
  simp[go_sem,g0,g5,hln]
  refine hR _ _ _ (.inr rfl) ⟨.msl id 0 4 k none,by simp[resultV,resV,Tryz.f218,go_sem],.inr ⟨id,rest,?_,?_,hz,?_⟩⟩
  all_goals
   have e:dd l=l:=by
    unfold dd
    rw[ddj_take _ (Nat.le_refl _) (fun i a b=>hnd i a (by omega)),List.take_length]
   rw[e]
  ·rw[en]
  ·exact hid
  ·exact hN
 have hlt':(k:Int)<n:=by omega
 have hkl:k<l.length:=by omega
 have hkl1:k-1<l.length:=by omega
 have i1:indexAddrV C.P 23 (.msl id 0 4 n none) (.int .i64 k)=some (.ptr id (4*k)):=idxRow hlt
 have i2:indexAddrV C.P 23 (.msl id 0 4 n none) (.int .i64 ((k-1:Nat):Int))=some (.ptr id (4*(k-1))):=idxRow (by omega)
 have l1:=loadRowZ hid hkl
 have l2:=loadRowZ hid hkl1
 have c1:=call219 l[k] l[k-1] (hs _ (List.getElem_mem _)) (hs _ (List.getElem_mem _))
 have w2:IntKind.i64.wrap ((k:Int)+1)=((k+1:Nat):Int):=by rw[wrap_in (by omega)];omega
 by_cases he:l[k].cmp l[k-1]=0
 rotate_left
 ·simp[go_sem,g0,g1,g5,hln,hlt',w1,i1,i2,l1,l2,c1,he,-Int.natCast_add,w2]
  refine ⟨n-(k+1),by omega,k+1,rfl,by omega,by omega,hid,by simp[go_sem,g0],by simp[go_sem,g1],by simp[go_sem],fun i a b=>?_⟩
  by_cases e:i<k
  ·exact hnd i a e
  ·have:i=k:=by omega
   subst this
   rw[getD_get hkl,getD_get hkl1];exact he
 have s1:sliceV C.P 23 (.msl id 0 4 n none) (some (.int .i64 k)) none none=some (.msl id (4*k) 4 (n-k) none):=sliceLo hlt
 simp[go_sem,g0,g1,g5,hln,hlt',w1,i1,i2,l1,l2,c1,he,s1]
 have hdk:ddj l k=l.take k:=ddj_take k (by omega) hnd
 have hdk1:ddj l (k+1)=l.take k:=by
  rw[ddj,if_pos ⟨by omega,by rw[getD_get hkl,getD_get hkl1];exact he⟩,hdk]
 refine W_loop (NIB l rest id n k) (n-(k+1)) ⟨k+1,k,rfl,Nat.le_refl _,by omega,by rw[hdk1];simp;omega,Nat.le_refl _,by rw[hdk1,List.take_append_drop];exact hid,by simp[go_sem,g0],by simp[go_sem,g1],by simp[go_sem,g5],by simp[go_sem],by simp[go_sem]⟩ ?_
 clear hid g0 g1 g5 l1 l2 c1 he s1 i1 i2 w1 w2 hnd hdk hdk1 hlt'
 rintro m st h ⟨j,p,rfl,hj1,hj,hp,hpj,hid,g0,g1,g5,g6,g7⟩
 have hln6:lenV C.P 23 (.msl id (4*k) 4 (n-k) none)=some (.int .i64 ((n-k:Nat):Int)):=by simp[lenV,u23]
 have hcl:(ddj l j++l.drop p).length=l.length:=by simp[←hp];omega
 by_cases hjt:j<n
 ·have hjt':((j-k:Nat):Int)<((n-k:Nat):Int):=by omega
  have hjl:j<l.length:=by omega
  have hjl1:j-1<l.length:=by omega
  have i1:indexAddrV C.P 23 (.msl id (4*k) 4 (n-k) none) (.int .i64 ((j-k:Nat):Int))=some (.ptr id (4*j)):=by
   rw[idxRow4 (by omega),show k+(j-k)=j by omega]
  have i2:indexAddrV C.P 23 (.msl id (4*k) 4 (n-k) none) (.int .i64 ((j-k-1:Nat):Int))=some (.ptr id (4*(j-1))):=by
   rw[idxRow4 (by omega),show k+(j-k-1)=j-1 by omega]
  have i3:indexAddrV C.P 23 (.msl id 0 4 n none) (.int .i64 p)=some (.ptr id (4*p)):=idxRow (by omega)
  have w1:IntKind.i64.wrap (((j-k:Nat):Int)-1)=((j-k-1:Nat):Int):=by rw[wrap_in (by omega)];omega
  have w2:IntKind.i64.wrap (((j-k:Nat):Int)+1)=((j+1-k:Nat):Int):=by rw[wrap_in (by omega)];omega
  have w3:IntKind.i64.wrap ((p:Int)+1)=((p+1:Nat):Int):=by rw[wrap_in (by omega)];omega
  have l1:=loadRowZ hid (k:=j) (by omega)
  have l2:=loadRowZ hid (k:=j-1) (by omega)
  have e1:(ddj l j++l.drop p)[j]'(by omega)=l[j]:=by
   rw[List.getElem_append_right (by omega)]
   simp only[←hp,List.getElem_drop]
   congr 1;omega
  have e2:(ddj l j++l.drop p)[j-1]'(by omega)=l[j-1]:=by
   rw[List.getElem_append_right (by omega)]
   simp only[←hp,List.getElem_drop]
   congr 1;omega
  rw[e1] at l1
  rw[e2] at l2
  have c1:=call219 l[j] l[j-1] (hs _ (List.getElem_mem _)) (hs _ (List.getElem_mem _))
  have hdd:ddj l (j+1)=if l[j].cmp l[j-1]=0 then ddj l j else ddj l j++[l[j]]:=by
   rw[ddj,getD_get hjl,getD_get hjl1]
   by_cases e:l[j].cmp l[j-1]=0
   ·rw[if_pos ⟨by omega,e⟩,if_pos e]
   ·rw[if_neg (fun x=>e x.2),if_neg e]
  by_cases he:l[j].cmp l[j-1]=0
  ·rw[if_pos he] at hdd
   simp[go_sem,g1,g6,g7,hln6,hjt',w1,i1,i2,l1,l2,c1,he,-Int.natCast_add,w2]
   exact ⟨n-(j+1),by omega,j+1,p,rfl,by omega,by omega,by rw[hdd];exact hp,by omega,by rw[hdd];exact hid,by simp[go_sem,g0],by simp[go_sem,g1],by simp[go_sem,g5],by simp[go_sem,g6],by simp[go_sem]⟩
  ·rw[if_neg he] at hdd
   have s2:=storeRowZ l[j] hid (k:=p) (by omega)
   have e3:(ddj l j++l.drop p).set p l[j]=ddj l j++[l[j]]++l.drop (p+1):=by
    rw[List.set_append_right _ _ (by omega),←hp,Nat.sub_self,List.drop_eq_getElem_cons (by omega:p<l.length)]
    simp only[List.set_cons_zero,List.append_assoc,List.singleton_append]
   rw[e3] at s2
   have hlt2:=(List.getElem?_eq_some_iff.1 hid).1
   simp[go_sem,g0,g1,g5,g6,g7,hln6,hjt',w1,i1,i2,l1,l2,c1,he,i3,s2,-Int.natCast_add,w2,w3,-List.append_assoc]
   exact ⟨n-(j+1),by omega,j+1,p+1,rfl,by omega,by omega,by rw[hdd];simp[←hp],by omega,by rw[hdd];exact List.getElem?_set_self hlt2,by simp[go_sem,g0],by simp[go_sem,g1],by simp[go_sem],by simp[go_sem,g6],by simp[go_sem]⟩
 ·have:j=n:=by omega
  subst this
  have s1:sliceV C.P 23 (.msl id 0 4 j none) (some (.int .i64 p)) none none=some (.msl id (4*p) 4 (j-p) none):=sliceLo (by omega)
  have s2:sliceV C.P 23 (.msl id 0 4 j none) none (some (.int .i64 p)) none=some (.msl id 0 4 p none):=sliceHi (by omega)
  obtain ⟨rest',hc,hz',hN'⟩:=clearRowZ hid (k:=p) (by omega) hz
  rw[hcl,←en] at hc
  have hlt2:=(List.getElem?_eq_some_iff.1 hid).1
  have et:(ddj l j++l.drop p).take p=dd l:=by
   unfold dd
   rw[←en,List.take_append_of_le_length (by omega),List.take_of_length_le (by omega)]
  rw[et] at hc
  simp[go_sem,g0,g5,g6,g7,hln6,s1,s2,hc]
  refine hR _ _ _ (.inr rfl) ⟨.msl id 0 4 p none,by simp[resultV,resV,Tryz.f218,go_sem],.inr ⟨id,rest',?_,List.getElem?_set_self hlt2,hz',?_⟩⟩
  ·unfold dd
   rw[←en,←hp]
  ·unfold dd
   rw[←en,←hp];omega
end Go.VZ

/- Rows of terms: what their cells say. -/
namespace Go.VZ
open Go Go.V TL
theorem enc_inj:∀a b:T,enc a=enc b→a=b:=by
 refine T.ind fun a ih b h=>?_
 cases a with
 | mk k n s l=>cases b with
  | mk k' n' s' l'=>
   rw[enc_eq,enc_eq] at h
   simp only[AV.agg.injEq,List.cons.injEq,AV.int.injEq,AV.str.injEq,true_and,and_true,T.kind,T.name,T.sort,T.kids,terms,AV.isl.injEq] at h ih
   obtain ⟨rfl,rfl,rfl,h⟩:=h
   congr 1
   clear k n s
   induction l generalizing l' with
   | nil=>cases l' with
    | nil=>rfl
    | cons b m=>cases h
   | cons a l ih2=>cases l' with
    | nil=>cases h
    | cons b m=>
     simp only[List.map_cons,List.cons.injEq] at h
     rw[ih a (by simp) b h.1,ih2 (fun k hk b hb=>ih k (by simp[hk]) b hb) m h.2]
theorem cellsT_inj:∀l m:List T,cellsT l=cellsT m→l=m
 | [],[],_=>rfl
 | [],b::m,h=>by rw[cellsT_cons] at h;cases h
 | a::l,[],h=>by rw[cellsT_cons] at h;cases h
 | a::l,b::m,h=>by
  rw[cellsT_cons,cellsT_cons] at h
  simp only[List.cons_append,List.nil_append,List.cons.injEq] at h
  obtain ⟨h1,h2,h3,h4,h5⟩:=h
  rw[cellsT_inj l m h5,enc_inj a b (by rw[enc_eq,enc_eq,h1,h2,h3,h4])]
theorem cellsT_get {l:List T}{j c:Nat}(hj:j<l.length) (hc:c<4):(cellsT l)[4*j+c]?=(enc l[j]).cells[c]?:=by
 induction l generalizing j with
 | nil=>simp at hj
 | cons a l ih=>
  have e:cellsT (a::l)=(enc a).cells++cellsT l:=rfl
  have e4:(enc a).cells.length=4:=by rw[enc_cells];rfl
  rw[e]
  cases j with
  | zero=>rw[List.getElem?_append_left (by omega)];simp
  | succ j=>
   rw[List.getElem?_append_right (by omega),show 4*(j+1)+c-(enc a).cells.length=4*j+c by omega,ih (by simpa using hj)]
   simp
end Go.VZ

/- term.ordered: walked over the sort's contract. -/
namespace TL
def ords (l:List T):List T:=dd (srt l)
theorem mem_ords {l:List T}{t:T}(h:t∈ords l):t∈l:=mem_srt.1 (mem_dd h)
theorem ords_len (l:List T):(ords l).length≤l.length:=by
 have:=ddj_len (srt l) (srt l).length
 have e:=srt_len l
 unfold ords dd
 omega
end TL
namespace Go.VZ
open Go Go.V Go.Proofs TL
theorem call217 {h:H}{v:AV}{l:List T}(r:Row h v l) (hs:∀t∈l,t.size<4000000) (hl:l.length<1000000000):∃h',callV C h (.func 217 []) (some [v,.func 112 []])=some (.tuple [],h')∧Row h' v (srt l)∧h'.length=h.length:=by
 rw[callV_open (by kernel_rfl) rfl]
 rcases r with ⟨rfl,rfl⟩ | ⟨id,rfl,hid⟩
 ·refine ⟨h,Call_prim (C:=C) (fn:=Tryz.f217) Tryz.func217 rfl,.inl ⟨?_,rfl⟩,rfl⟩
  have:=srt_len []
  simpa using this
 ·refine ⟨h.set id (.cells (cellsT (srt l)) .live),Call_prim (C:=C) (fn:=Tryz.f217) Tryz.func217 ?_,.inr ⟨id,by rw[srt_len],List.getElem?_set_self (List.getElem?_eq_some_iff.1 hid).1⟩,by simp⟩
  have hpr:∀a,C.prim 217 a h=primSort a h:=fun a=>by
   have:C.prim=Go.VZ.prim:=rfl
   rw[this];rfl
  rw[hpr]
  have e:∃l':List T,l.length=l'.length∧l'.length<1000000000∧(∀t∈l',t.size<4000000)∧h[id]?=some (.cells (l'.flatMap fun t=>(enc t).cells) .live):=⟨l,rfl,hl,hs,hid⟩
  have ec:e.choose=l:=by
   have hc:=e.choose_spec.2.2.2
   generalize e.choose=m at hc
   rw[hid] at hc
   simp only[Option.some.injEq,VObj.cells.injEq,and_true] at hc
   exact (cellsT_inj _ _ hc).symm
  have hm:primSort [.msl id 0 4 l.length none,.func 112 []] h=@dite _ (∃l':List T,l.length=l'.length∧l'.length<1000000000∧(∀t∈l',t.size<4000000)∧h[id]?=some (.cells (l'.flatMap fun t=>(enc t).cells) .live)) (Classical.propDecidable _) (fun e=>some (.tuple [],h.set id (.cells ((srt e.choose).flatMap fun t=>(enc t).cells) .live))) (fun _=>none):=rfl
  rw[hm,dif_pos e,ec]
  rfl
def NI154 (N:Nat) (l:List T) (v:AV) (m:Nat) (st:PT) (h:H):Prop:=∃k:Nat,m=l.length-k∧k≤l.length∧RowZ N h v l∧st.get 0=v∧st.get 9=.int .i64 l.length∧st.get 10=.int .i64 k
theorem RowZ.len {N:Nat}{h:H}{v:AV}{l:List T}(r:RowZ N h v l):lenV C.P 23 v=some (.int .i64 l.length):=by
 rcases r with ⟨rfl,rfl⟩ | ⟨id,rest,rfl,_⟩<;>simp[lenV,u23]
set_option maxRecDepth 8000 in
set_option maxHeartbeats 4000000 in
theorem ordered154 {h0:H}{v:AV}{l:List T}(r:Row h0 v l) (hs:∀t∈l,t.size<4000000) (hl:l.length<1000000000):∃v' h',Go.V.Call C 154 [v] h0=some (v',h')∧RowZ (4*l.length) h' v' (ords l):=by
 refine Call_WQ rfl Tryz.func154 rfl (by kernel_rfl) (by simp[Tryz.f154]) fun R hR=>?_
 obtain ⟨h1,c1,r1,_⟩:=call217 (h:=h0++[.tok 0 25]) (row_ga r) hs hl
 obtain ⟨v2,h2,c2,r2⟩:=compact218 r1.z (fun t ht=>hs t (mem_srt.1 ht)) (by rw[srt_len];exact hl)
 have c2':=(callV_open (f:=218) (by kernel_rfl) rfl).trans c2
 have hln:=r2.len
 have hlo:(ords l).length<1000000000:=by have:=ords_len l;omega
 have hso:∀t∈ords l,t.size<4000000:=fun t ht=>hs t (mem_ords ht)
 rw[srt_len] at r2
 change RowZ (4*l.length) h2 v2 (ords l) at r2
 change lenV C.P 23 v2=some (.int .i64 (ords l).length) at hln
 generalize ords l=m at r2 hln hlo hso hR
 generalize 4*l.length=N at r2 hR
 simp[go_sem,c1,c2',hln]
 refine W_loop (NI154 N m v2) m.length ⟨0,rfl,Nat.zero_le _,r2,by simp[go_sem],by simp[go_sem],by simp[go_sem]⟩ ?_
 clear r2 c2 c2' c1 r1 hln
 rintro _ st h ⟨k,rfl,hk,r2,g0,g9,g10⟩
 by_cases hlt:k<m.length
 ·have hlt':(k:Int)<m.length:=by omega
  rcases r2 with ⟨e,_⟩ | ⟨id,rest,rfl,hid,hz,hN⟩
  ·subst e;simp at hlt
  have w2:IntKind.i64.wrap ((k:Int)+1)=((k+1:Nat):Int):=by rw[wrap_in (by omega)];omega
  have i1:indexAddrV C.P 23 (.msl id 0 4 m.length none) (.int .i64 k)=some (.ptr id (4*k)):=idxRow hlt
  have l1:=loadRowZ hid hlt
  have s1:=storeRowZ m[k] hid hlt
  rw[List.set_getElem_self] at s1
  have ck:=call220 m[k] (hso _ (List.getElem_mem hlt))
  have hlt2:=(List.getElem?_eq_some_iff.1 hid).1
  simp[go_sem,g0,g9,g10,hlt',i1,l1,s1,ck,-Int.natCast_add,w2]
  exact ⟨m.length-(k+1),by omega,k+1,rfl,hlt,.inr ⟨id,rest,rfl,List.getElem?_set_self hlt2,hz,hN⟩,by simp[go_sem,g0],by simp[go_sem,g9],by simp[go_sem]⟩
 ·have:k=m.length:=by omega
  subst this
  simp[go_sem,g0,g9,g10]
  refine hR _ _ _ (.inr rfl) ⟨v2,?_,r2⟩
  rcases r2 with ⟨_,rfl⟩ | ⟨id,rest,rfl,_⟩<;>simp[resultV,resV,Tryz.f154,go_sem]
end Go.VZ

/- slices.DeleteFunc on a row of terms: walked. -/
namespace TL
def isVr (t:T):Bool:=decide (t.kind=1)
end TL
namespace Go.VZ
open Go Go.V Go.Proofs TL
theorem not95 (t:T):CallP C 95 [enc t]=some (.bool (!isVr t)):=by
 refine CallP_W rfl Tryz.func95 rfl (by kernel_rfl) (by simp[Tryz.f95]) fun R hR=>?_
 simp[go_sem,initS]
 refine hR _ _ _ (.inr rfl) ⟨_,rfl,?_⟩
 simp[go_sem,isVr]
 exact snap_dat rfl rfl
theorem call95 (t:T) (h:H):callV C h (.func 95 []) (some [enc t])=some (.bool (!isVr t),h):=callV_strip (by kernel_rfl) rfl (dat_enc _) (by simp[short_enc]) (by simp) (not95 t)
def NI151 (l:List T) (v:AV) (h0:H) (m:Nat) (st:PT) (h:H):Prop:=∃k:Nat,m=l.length-k∧k≤l.length∧h=h0∧st.get 0=v∧st.get 1=.func 95 []∧st.get 7=.int .i64 l.length∧st.get 8=.int .i64 k∧∀t∈l.take k,isVr t=true
set_option maxRecDepth 8000 in
set_option maxHeartbeats 4000000 in
theorem index151 {N:Nat}{h0:H}{v:AV}{l:List T}(r:RowZ N h0 v l) (hl:l.length<1000000000):∃i:Int,Go.V.Call C 151 [v,.func 95 []] h0=some (.int .i64 i,h0)∧((i = -1∧∀t∈l,isVr t=true)∨∃k:Nat,i=k∧∃hk:k<l.length,isVr l[k]=false∧∀t∈l.take k,isVr t=true):=by
 suffices hh:∃x h',Go.V.Call C 151 [v,.func 95 []] h0=some (x,h')∧(h'=h0∧∃i:Int,x=.int .i64 i∧((i = -1∧∀t∈l,isVr t=true)∨∃k:Nat,i=k∧∃hk:k<l.length,isVr l[k]=false∧∀t∈l.take k,isVr t=true)) by
  obtain ⟨x,h',a,rfl,i,rfl,c⟩:=hh
  exact ⟨i,a,c⟩
 refine Call_WQ rfl Tryz.func151 rfl (by kernel_rfl) (by simp[Tryz.f151]) fun R hR=>?_
 have hln:=r.len
 simp[go_sem,hln]
 refine W_loop (NI151 l v h0) l.length ⟨0,rfl,Nat.zero_le _,rfl,by simp[go_sem],by simp[go_sem],by simp[go_sem],by simp[go_sem],by simp⟩ ?_
 rintro m st h ⟨k,rfl,hk,rfl,g0,g1,g7,g8,hv⟩
 by_cases hlt:k<l.length
 ·have hlt':(k:Int)<l.length:=by omega
  rcases r with ⟨e,_⟩ | ⟨id,rest,rfl,hid,hz,hN⟩
  ·subst e;simp at hlt
  have w2:IntKind.i64.wrap ((k:Int)+1)=((k+1:Nat):Int):=by rw[wrap_in (by omega)];omega
  have i1:indexAddrV C.P 23 (.msl id 0 4 l.length none) (.int .i64 k)=some (.ptr id (4*k)):=idxRow hlt
  have l1:=loadRowZ hid hlt
  have c1:=call95 l[k]
  by_cases he:isVr l[k]=true
  ·rw[he] at c1
   simp[go_sem,g0,g1,g7,g8,hlt',i1,l1,c1,-Int.natCast_add,w2]
   refine ⟨l.length-(k+1),by omega,k+1,rfl,hlt,rfl,by simp[go_sem,g0],by simp[go_sem,g1],by simp[go_sem,g7],by simp[go_sem],fun t ht=>?_⟩
   rw[List.take_succ_eq_append_getElem hlt] at ht
   rcases List.mem_append.1 ht with ht | ht
   ·exact hv t ht
   ·simp only[List.mem_singleton] at ht;rw[ht];exact he
  ·have he':isVr l[k]=false:=by simpa using he
   rw[he'] at c1
   simp[go_sem,g0,g1,g7,g8,hlt',i1,l1,c1]
   exact hR _ _ _ (.inr rfl) ⟨.int .i64 k,by simp[resultV,resV,Tryz.f151,go_sem],rfl,k,rfl,.inr ⟨k,rfl,hlt,he',hv⟩⟩
 ·have:k=l.length:=by omega
  subst this
  rw[List.take_length] at hv
  simp[go_sem,g7,g8]
  exact hR _ _ _ (.inr rfl) ⟨.int .i64 (-1),by simp[resultV,resV,Tryz.f151,go_sem],rfl,-1,rfl,.inl ⟨rfl,hv⟩⟩
def NI93 (N:Nat) (l:List T) (id n:Nat) (m:Nat) (st:PT) (h:H):Prop:=∃(j p:Nat) (rest:List AV),m=n-j∧j≤n∧p=((l.take j).filter isVr).length∧p+1≤j∧h[id]?=some (.cells (cellsT ((l.take j).filter isVr++l.drop p)++rest) .live)∧Zs rest∧4*n+rest.length≤N∧st.get 0=.msl id 0 4 n none∧st.get 1=.func 95 []∧st.get 5=.int .i64 p∧st.get 6=.int .i64 j
set_option maxRecDepth 8000 in
set_option maxHeartbeats 4000000 in
theorem delete93 {N:Nat}{h0:H}{v:AV}{l:List T}(r:RowZ N h0 v l) (hl:l.length<1000000000):∃v' h',Go.V.Call C 93 [v,.func 95 []] h0=some (v',h')∧RowZ N h' v' (l.filter isVr):=by
 refine Call_WQ rfl Tryz.func93 rfl (by kernel_rfl) (by simp[Tryz.f93]) fun R hR=>?_
 have r1:RowZ N (h0++[.tok 0 25]) v l:=by
  rcases r with e | ⟨id,rest,rfl,hid,hz,hN⟩
  ·exact .inl e
  ·exact .inr ⟨id,rest,rfl,ga hid,hz,hN⟩
 obtain ⟨i,c1,hi⟩:=index151 r1 hl
 have c1':=(callV_open (f:=151) (by kernel_rfl) rfl).trans c1
 rcases hi with ⟨rfl,hall⟩ | ⟨k,rfl,hk,hv,hbef⟩
 ·have ef:l.filter isVr=l:=List.filter_eq_self.2 hall
  simp[go_sem,initS,c1']
  refine hR _ _ _ (.inr rfl) ⟨v,?_,by rw[ef];exact r1⟩
  rcases r with ⟨_,rfl⟩ | ⟨id,rest,rfl,_⟩<;>simp[resultV,resV,Tryz.f93,go_sem]
 rcases r1 with ⟨e,_⟩ | ⟨id,rest,rfl,hid,hz,hN⟩
 ·subst e;simp at hk
 have hln:lenV C.P 23 (.msl id 0 4 l.length none)=some (.int .i64 l.length):=by simp[lenV,u23]
 obtain ⟨n,en⟩:∃n,n=l.length:=⟨_,rfl⟩
 rw[←en] at hln hl hk c1' ⊢
 have hkn:¬((k:Int) = -1):=by omega
 have w2:IntKind.i64.wrap ((k:Int)+1)=((k+1:Nat):Int):=by rw[wrap_in (by omega)];omega
 simp[go_sem,c1',hkn,-Int.natCast_add,w2]
 have ft:(l.take k).filter isVr=l.take k:=List.filter_eq_self.2 hbef
 have hkl:k<l.length:=by omega
 have ft1:(l.take (k+1)).filter isVr=l.take k:=by
  rw[List.take_succ_eq_append_getElem hkl,List.filter_append,ft]
  simp[hv]
 refine W_loop (NI93 N l id n) (n-(k+1)) ⟨k+1,k,rest,rfl,by omega,by rw[ft1];simp;omega,Nat.le_refl _,by rw[ft1,List.take_append_drop];exact hid,hz,by omega,by simp[go_sem],by simp[go_sem],by simp[go_sem],by simp[go_sem]⟩ ?_
 clear hid hz hN rest
 rintro m st h ⟨j,p,rest,rfl,hj,hp,hpj,hid,hz,hN,g0,g1,g5,g6⟩
 have hcl:((l.take j).filter isVr++l.drop p).length=l.length:=by
  rw[List.length_append,←hp,List.length_drop];omega
 by_cases hjt:j<n
 ·have hjt':(j:Int)<n:=by omega
  have hjl:j<l.length:=by omega
  have i1:indexAddrV C.P 23 (.msl id 0 4 n none) (.int .i64 j)=some (.ptr id (4*j)):=idxRow hjt
  have i3:indexAddrV C.P 23 (.msl id 0 4 n none) (.int .i64 p)=some (.ptr id (4*p)):=idxRow (by omega)
  have w2:IntKind.i64.wrap ((j:Int)+1)=((j+1:Nat):Int):=by rw[wrap_in (by omega)];omega
  have w3:IntKind.i64.wrap ((p:Int)+1)=((p+1:Nat):Int):=by rw[wrap_in (by omega)];omega
  have l1:=loadRowZ hid (k:=j) (by omega)
  have e1:((l.take j).filter isVr++l.drop p)[j]'(by omega)=l[j]:=by
   rw[List.getElem_append_right (by omega)]
   simp only[←hp,List.getElem_drop]
   congr 1;omega
  rw[e1] at l1
  have e4:=st25z l[j] h
  have e5:=ldb25z l[j] h
  have hid2:(h++[.cells (enc l[j]).cells .live])[id]?=some (.cells (cellsT ((l.take j).filter isVr++l.drop p)++rest) .live):=ga hid
  have c1:=call95 l[j]
  have hft:(l.take (j+1)).filter isVr=if isVr l[j]=true then (l.take j).filter isVr++[l[j]] else (l.take j).filter isVr:=by
   rw[List.take_succ_eq_append_getElem hjl,List.filter_append]
   by_cases e:isVr l[j]=true<;>simp[e]
  by_cases he:isVr l[j]=true
  ·rw[if_pos he] at hft
   rw[he] at c1
   have s2:=storeRowZ l[j] hid2 (k:=p) (by omega)
   have e3:((l.take j).filter isVr++l.drop p).set p l[j]=(l.take j).filter isVr++[l[j]]++l.drop (p+1):=by
    rw[List.set_append_right _ _ (by omega),←hp,Nat.sub_self,List.drop_eq_getElem_cons (by omega:p<l.length)]
    simp only[List.set_cons_zero,List.append_assoc,List.singleton_append]
   rw[e3] at s2
   have hlt2:=(List.getElem?_eq_some_iff.1 hid2).1
   simp[go_sem,g0,g1,g5,g6,hln,hjt',i1,l1,e4,e5,c1,i3,s2,-Int.natCast_add,w2,w3,-List.append_assoc]
   exact ⟨n-(j+1),by omega,j+1,p+1,rest,rfl,by omega,by rw[hft];simp[←hp],by omega,by rw[hft];exact List.getElem?_set_self hlt2,hz,hN,by simp[go_sem,g0],by simp[go_sem,g1],by simp[go_sem],by simp[go_sem]⟩
  ·rw[if_neg he] at hft
   have he':isVr l[j]=false:=by simpa using he
   rw[he'] at c1
   simp[go_sem,g0,g1,g6,hln,hjt',i1,l1,e4,e5,c1,-Int.natCast_add,w2]
   exact ⟨n-(j+1),by omega,j+1,p,rest,rfl,by omega,by rw[hft];exact hp,by omega,by rw[hft];exact hid2,hz,hN,by simp[go_sem,g0],by simp[go_sem,g1],by simp[go_sem,g5],by simp[go_sem]⟩
 ·have:j=n:=by omega
  subst this
  have s1:sliceV C.P 23 (.msl id 0 4 j none) (some (.int .i64 p)) none none=some (.msl id (4*p) 4 (j-p) none):=sliceLo (by omega)
  have s2:sliceV C.P 23 (.msl id 0 4 j none) none (some (.int .i64 p)) none=some (.msl id 0 4 p none):=sliceHi (by omega)
  obtain ⟨rest',hc,hz',hN'⟩:=clearRowZ hid (k:=p) (by omega) hz
  rw[hcl,←en] at hc
  have hlt2:=(List.getElem?_eq_some_iff.1 hid).1
  rw[en,List.take_length] at hp
  have et:((l.take j).filter isVr++l.drop p).take p=l.filter isVr:=by
   rw[en,List.take_length,List.take_append_of_le_length (by omega),List.take_of_length_le (by omega)]
  rw[et] at hc
  simp[go_sem,g0,g5,g6,hln,s1,s2,hc]
  refine hR _ _ _ (.inr rfl) ⟨.msl id 0 4 p none,by simp[resultV,resV,Tryz.f93,go_sem],.inr ⟨id,rest',by rw[←hp],List.getElem?_set_self hlt2,hz',by rw[←hp];omega⟩⟩
end Go.VZ

/- term.Subterms, term.Vars, query.vars: walked. -/
namespace TL
def single (t:T):List T:=[t]
theorem single_len (t:T):(single t).length≤1:=Nat.le_refl _
theorem walk_small {f:T→List T}(hf:∀t,∀x∈f t,x=t){n:Nat}:∀t:T,t.size<n→∀x∈walkT f t,x.size<n:=by
 refine T.ind fun t ih hn x hx=>?_
 rw[walkT_eq] at hx
 rcases List.mem_append.1 hx with hx | hx
 ·rw[hf t x hx];exact hn
 ·rw[walkTs_map,List.mem_flatMap] at hx
  obtain ⟨k,hk,hx⟩:=hx
  exact ih k hk (by have:=kid_size hk;omega) x hx
theorem walks_small {f:T→List T}(hf:∀t,∀x∈f t,x=t){n:Nat}{l:List T}(hl:∀t∈l,t.size<n):∀x∈walkTs f l,x.size<n:=fun x hx=>by
 rw[walkTs_map,List.mem_flatMap] at hx
 obtain ⟨k,hk,hx⟩:=hx
 exact walk_small hf k (hl k hk) x hx
theorem single_mem (t:T):∀x∈single t,x=t:=fun x hx=>by simpa [single] using hx
theorem ddj_ne {l:List T}:∀j,0<j→ddj l j≠[]
 | 0,h=>by omega
 | 1,_=>by simp[ddj]
 | j+2,_=>by
  rw[ddj]
  split
  ·exact ddj_ne (j+1) (by omega)
  ·simp
theorem ords_ne {l:List T}(h:l≠[]):ords l≠[]:=by
 unfold ords dd
 refine ddj_ne _ ?_
 rw[srt_len]
 exact List.length_pos_iff.2 h
end TL
namespace Go.VZ
open Go Go.V Go.Proofs TL
theorem zv23:zeroV C.P 23=some (.isl [] .full):=by kernel_rfl
theorem ok3_start:Ok3 0 [] [.cells [.isl [] .full] .live] []:=⟨.isl [] .full,rfl,.inl ⟨rfl,rfl⟩,fun p hp=>by simp at hp⟩
theorem up3 {i3:Nat}{h:H}{m:List T}(o:VObj){pr:List (Nat × VObj)}(k:Ok3 i3 pr h m):Ok3 i3 pr (h++[o]) m:=(k.push o).less fun _p hp=>List.mem_cons_of_mem _ hp
def NI94 (l:List T) (m:Nat) (st:PT) (h:H):Prop:=∃k:Nat,m=l.length-k∧k≤l.length∧st.get 3=.ptr 0 0∧st.get 6=terms l∧st.get 7=.int .i64 l.length∧st.get 8=.int .i64 k∧Ok3 0 [] h (walkTs single (l.take k))
set_option maxRecDepth 8000 in
set_option maxHeartbeats 4000000 in
theorem sub94 (l:List T) (hs:∀t∈l,t.size<4000000) (hl:sizes l<80000000):∃v' h',Go.V.Call C 94 [terms l] []=some (v',h')∧RowZ (4*(walkTs single l).length) h' v' (ords (walkTs single l)):=by
 refine Call_WQ rfl Tryz.func94 rfl (by kernel_rfl) (by simp[Tryz.f94]) fun R hR=>?_
 have hln:=len23t l
 have hlen:=len_sizes l
 simp[go_sem,zv23,hln]
 refine W_loop (NI94 l) l.length ⟨0,rfl,Nat.zero_le _,by simp[go_sem],by simp[go_sem],by simp[go_sem],by simp[go_sem],ok3_start⟩ ?_
 rintro m st h ⟨k,rfl,hk,g3,g6,g7,g8,ok⟩
 by_cases hlt:k<l.length
 ·have hlt':(k:Int)<l.length:=by omega
  have hix:=idx23t l k hlt
  have e4:=st25z l[k] h
  have e5:=ldb25z l[k] h
  have w2:IntKind.i64.wrap ((k:Int)+1)=((k+1:Nat):Int):=by rw[wrap_in (by omega)];omega
  have hks:=hs _ (List.getElem_mem hlt)
  have hts:=take_sizes hlt
  have htl:=take_sizes_le l (k+1)
  have hwl:=walkTs_len single single_len (l.take k)
  obtain ⟨h2,c2,ok2⟩:=walk152 153 [.ptr 0 0] 0 [] single single_len (clo153 0) l[k] (h++[.cells (enc l[k]).cells .live]) (walkTs single (l.take k)) hks (by omega) (up3 _ ok)
  have cv:=(callV_open (f:=152) (by kernel_rfl) rfl).trans c2
  simp[go_sem,g3,g6,g7,g8,hlt',hix,ld25,e4,e5,cv,-Int.natCast_add,w2]
  refine ⟨l.length-(k+1),by omega,k+1,rfl,hlt,by simp[go_sem,g3],by simp[go_sem,g6],by simp[go_sem,g7],by simp[go_sem],?_⟩
  have:=ok2 _ (up3 _ ok)
  rw[List.take_succ_eq_append_getElem hlt,walkTs_append]
  simpa [walkTs] using this
 ·have:k=l.length:=by omega
  subst this
  rw[List.take_length] at ok
  obtain ⟨v,k1,k2,_⟩:=ok
  have l1:=ld23v k1 k2
  have hwl:=walkTs_len single single_len l
  obtain ⟨v',h',c1,r⟩:=ordered154 k2 (walks_small single_mem hs) (by omega)
  have cv:=(callV_open (f:=154) (by kernel_rfl) rfl).trans c1
  simp[go_sem,g3,g7,g8,l1,cv]
  refine hR _ _ _ (.inr rfl) ⟨v',?_,r⟩
  rcases r with ⟨_,rfl⟩ | ⟨id,rest,rfl,_⟩<;>simp[resultV,resV,Tryz.f94,go_sem]
theorem dats_zs:∀ {r:List AV},Zs r→∃r',dats r=some r'∧Zs r'∧r'.length=r.length
 | [],_=>⟨[],rfl,fun x hx=>by simp at hx,rfl⟩
 | a::r,hz=>by
  obtain ⟨r',h1,h2,h3⟩:=dats_zs (r:=r) fun x hx=>hz x (by simp[hx])
  have:∃a',dat a=some a'∧(a'=.int .i64 0∨a'=.str ⟨#[]⟩∨a'=.isl [] .full∨a'=.isl [] .unk):=by
   rcases hz a (by simp) with rfl | rfl | rfl | rfl
   ·exact ⟨_,rfl,.inl rfl⟩
   ·exact ⟨_,rfl,.inr (.inl rfl)⟩
   ·exact ⟨.isl [] .unk,rfl,.inr (.inr (.inr rfl))⟩
   ·exact ⟨.isl [] .unk,rfl,.inr (.inr (.inr rfl))⟩
  obtain ⟨a',e,ha⟩:=this
  refine ⟨a'::r',by simp only[dats,e,h1],fun x hx=>?_,by simp[h3]⟩
  rcases List.mem_cons.1 hx with rfl | hx
  ·exact ha
  ·exact h2 x hx
theorem short_zs {r:List AV}(hz:Zs r):r.all short=true:=by
 rw[List.all_eq_true]
 intro x hx
 rcases hz x hx with rfl | rfl | rfl | rfl<;>rfl
theorem callV_ownM4 {f:FuncId}{h:H}{args args':List AV}(hb:hasBody C.P f=true) (hm:C.mode f=.ownM) (hd:dats args=some args') (hs:args.all short=true) (hl:args.length<90000)
  {id len sz:Nat}{h1:H}{cs cs':List AV}(hsz:1<sz) (hc:Go.V.Call C f args' []=some (.msl id 0 sz len none,h1)) (hid:h1[id]?=some (.cells cs .live)) (hcs:dats cs=some cs') (hsh:cs.all short=true) (hcl:cs.length≤90000) (hlen:len*sz≤cs.length) :
  callV C h (.func f []) (some args)=some (.msl h.length 0 sz len none,h++[.cells cs' .live]):=by
 obtain ⟨e1,e2⟩:=dats_snap (h:=h) hd hs deep (by unfold deep;omega)
 simp only[callV,hb,if_true,List.append_nil]
 unfold applyCall
 rw[hm]
 dsimp only
 rw[e2]
 simp only[Go.V.freeze,e1]
 rw[hc]
 dsimp only
 unfold finishV
 dsimp only
 have f1:=(dats_snap (h:=freezeBut h1 id) hcs hsh deep (by unfold deep;omega)).1
 have f2:adoptR C.P .ownM h1 h (.msl id 0 sz len none)=none:=by
  simp only[adoptR,adopt,hid]
  rw[if_neg (by omega)]
 rw[f2]
 simp only[adoptD,adoptM,hid,f1]
 rw[if_pos ⟨by omega,by omega⟩]
end Go.VZ

/- query.vars and term.Vars: walked. -/
namespace Go.VZ
open Go Go.V Go.Proofs TL
theorem chunk_cellsTr:∀(l:List T) (r:List AV),chunk 4 l.length (cellsT l++r)=l.map enc
 | [],r=>rfl
 | a::l,r=>by
  have:=chunk_cellsTr l r
  rw[cellsT_cons]
  simp only[List.length_cons,chunk,List.cons_append,List.nil_append,List.take_succ_cons,List.take_zero,List.drop_succ_cons,List.drop_zero,List.map_cons,this,enc_eq]
theorem snap_rowZ {N:Nat}{h:H}{v:AV}{l:List T}(r:RowZ N h v l) (hN:N≤80000):snap (freezeAll h) deep v=some (terms l):=by
 rcases r with ⟨rfl,rfl⟩ | ⟨id,rest,rfl,hid,hz,hl⟩
 ·exact snap_dat rfl rfl
 ·obtain ⟨r',d1,d2,d3⟩:=dats_zs hz
  have e3:=cellsT_len l
  have e1:=freezeAll_cells hid
  have hlen:(cellsT l++rest).length≤80000:=by rw[List.length_append,e3];omega
  have e2:=(dats_snap (h:=freezeAll h) (dats_append (dats_cellsT l) d1) (by rw[List.all_append,short_cellsT,short_zs hz];rfl) 999999 (by omega)).1
  have:deep=999999+1:=rfl
  rw[this]
  simp only[snap,e1,e2]
  rw[if_pos (by rw[List.length_append,e3];omega),List.drop_zero,chunk_cellsTr];rfl
def allTerms (fs:List Fa):List T:=fs.flatMap Fa.terms
theorem allTerms_take {fs:List Fa}{k:Nat}(hk:k<fs.length):allTerms (fs.take (k+1))=allTerms (fs.take k)++fs[k].terms:=by
 rw[List.take_succ_eq_append_getElem hk,allTerms,List.flatMap_append];simp[allTerms]
def varsF (fs:List Fa):List T:=(ords (walkTs single (allTerms fs))).filter isVr
def z35c:List AV:=[.int .i64 0,.int .i64 0,.isl [] .full]
theorem zv35:zeroV C.P 35=some (.agg z35c):=by kernel_rfl
theorem st35z (f:Fa) (h:H):storeV C.P (h++[.cells z35c .live]) 35 (.ptr h.length 0) (encFa f)=some (h++[.cells (faC f) .live]):=by
 simp[storeV,s35,encFa,faC,z35c]
theorem ld35b (f:Fa) (h:H):loadV C.P (h++[.cells (faC f) .live]) 35 (.ptr h.length 0)=some (encFa f):=by
 simp[loadV,cellsAt,a35,s35,faC,encFa]
def NI49 (fs:List Fa) (m:Nat) (st:PT) (h:H):Prop:=∃k:Nat,m=fs.length-k∧k≤fs.length∧st.get 6=factsV fs∧st.get 7=.int .i64 fs.length∧st.get 8=.int .i64 k∧OwnR 25 h (st.get 3) ((allTerms (fs.take k)).map enc)
theorem allTerms_le (fs:List Fa) (k:Nat):(allTerms (fs.take k)).length≤(allTerms fs).length:=by
 conv=>rhs;rw[←List.take_append_drop k fs]
 simp only[allTerms,List.flatMap_append,List.length_append];omega
set_option maxRecDepth 8000 in
set_option maxHeartbeats 4000000 in
theorem vars49 (fs:List Fa) (hs:∀t∈allTerms fs,t.size<4000000) (hl:sizes (allTerms fs)≤10000) (hfl:fs.length≤10000) (hne:allTerms fs≠[]):CallP C 49 [factsV fs]=some (terms (varsF fs)):=by
 refine CallP_W rfl Tryz.func49 rfl (by kernel_rfl) (by simp[Tryz.f49]) fun R hR=>?_
 have hln:=len33f fs
 have hal:=len_sizes (allTerms fs)
 simp[go_sem,hln]
 refine W_loop (NI49 fs) fs.length ⟨0,rfl,Nat.zero_le _,by simp[go_sem],by simp[go_sem],by simp[go_sem],.inr ⟨1,by simp[go_sem,allTerms]⟩⟩ ?_
 rintro m st h ⟨k,rfl,hk,g6,g7,g8,go⟩
 obtain ⟨v3,e3⟩:∃v,v=st.get 3:=⟨_,rfl⟩
 rw[←e3] at go
 by_cases hlt:k<fs.length
 ·have hlt':(k:Int)<fs.length:=by omega
  have hix:indexAddrV C.P 33 (factsV fs) (.int .i64 k)=some (.iptr (encFa fs[k]) 0):=idx33 fs k hlt .unk
  have w2:IntKind.i64.wrap ((k:Int)+1)=((k+1:Nat):Int):=by rw[wrap_in (by omega)];omega
  have e4:=st35z fs[k] h
  have l35:=ld35i fs[k] h
  obtain ⟨h2,eh2⟩:∃g,g=h++[.cells (faC fs[k]) .live]:=⟨_,rfl⟩
  have nb:h2[h.length]?=some (.cells (faC fs[k]) .live):=by rw[eh2];simp
  have l23:=ld23f nb
  rw[←eh2] at e4
  have go2:OwnR 25 h2 v3 ((allTerms (fs.take k)).map enc):=by rw[eh2];exact go.keep (Keep.append _ _ none) (by simp)
  have htl:=allTerms_le fs (k+1)
  rw[allTerms_take hlt,List.length_append] at htl
  obtain ⟨v',h',ha,ho,_,_⟩:=append23 (ys:=fs[k].terms) (x:=.unk) go2 (by omega)
  rw[←allTerms_take hlt] at ho
  change appendW C.P false h2 23 v3 (terms fs[k].terms)=some (v',h') at ha
  simp[go_sem,g6,g7,g8,←e3,hlt',hix,l35,zv35,e4,l23,ha,cells_agg,-Int.natCast_add,w2]
  exact ⟨fs.length-(k+1),by omega,k+1,rfl,hlt,by simp[go_sem,g6],by simp[go_sem,g7],by simp[go_sem],by simpa [go_sem] using ho⟩
 ·have:k=fs.length:=by omega
  subst this
  rw[List.take_length] at go
  obtain ⟨x,hx⟩:=go.isl
  have hwl:=walkTs_len single single_len (allTerms fs)
  obtain ⟨v1,h1,c1,r1⟩:=sub94 (allTerms fs) hs (by omega)
  have hwne:walkTs single (allTerms fs)≠[]:=by
   intro e
   cases ha:allTerms fs with
   | nil=>exact hne ha
   | cons a l=>rw[ha,walkTs,walkT_eq] at e;simp[single] at e
  rcases r1 with ⟨e,_⟩ | ⟨id,rest,rfl,hid,hz,hN⟩
  ·exact absurd e (ords_ne hwne)
  obtain ⟨rest',d1,d2,d3⟩:=dats_zs hz
  have e3':=cellsT_len (ords (walkTs single (allTerms fs)))
  have cv:callV C h (.func 94 []) (some [v3])=some (.msl h.length 0 4 (ords (walkTs single (allTerms fs))).length none,h++[.cells (cellsT (ords (walkTs single (allTerms fs)))++rest') .live]):=by
   rw[hx]
   exact callV_ownM4 (by kernel_rfl) rfl (args':=[terms (allTerms fs)]) rfl rfl (by simp) (by omega) c1 hid (dats_append (dats_cellsT _) d1) (by rw[List.all_append,short_cellsT,short_zs hz];rfl) (by rw[List.length_append,e3'];omega) (by rw[List.length_append,e3'];omega)
  have r2:RowZ (4*(walkTs single (allTerms fs)).length) (h++[.cells (cellsT (ords (walkTs single (allTerms fs)))++rest') .live]) (.msl h.length 0 4 (ords (walkTs single (allTerms fs))).length none) (ords (walkTs single (allTerms fs))):=
   .inr ⟨h.length,rest',rfl,by simp,d2,by rw[d3];exact hN⟩
  have hol:=ords_len (walkTs single (allTerms fs))
  obtain ⟨v2,h2,c2,r3⟩:=delete93 r2 (by omega)
  have cv2:=(callV_open (f:=93) (by kernel_rfl) rfl).trans c2
  simp[go_sem,g7,g8,←e3,cv,cv2]
  refine hR _ _ _ (.inr rfl) ⟨v2,?_,snap_rowZ r3 (by omega)⟩
  rcases r3 with ⟨_,rfl⟩ | ⟨id,rest,rfl,_⟩<;>simp[resultV,resV,Tryz.f49,go_sem]
theorem call49 (fs:List Fa) (hs:∀t∈allTerms fs,t.size<4000000) (hl:sizes (allTerms fs)≤10000) (hfl:fs.length≤10000) (hne:allTerms fs≠[]) (h:H):callV C h (.func 49 []) (some [factsV fs])=some (terms (varsF fs),h):=callV_strip (by kernel_rfl) rfl (args':=[factsV fs]) rfl rfl (by simp) (vars49 fs hs hl hfl hne)
end Go.VZ

/- The bindings of an inference against the variables: the program's way. -/
namespace Go.VZ
open Go Go.V Go.Proofs TL
theorem ldB0 {h:H}{i:Nat}{b:T × T}(hi:h[i]?=some (.cells (encB b).cells .live)):loadV C.P h 25 (.ptr i 0)=some (enc b.1):=by
 simp only[encB,cells_agg] at hi
 simp[loadV,hi,cellsAt,a25,s25];rw[enc_eq]
theorem ldB4 {h:H}{i:Nat}{b:T × T}(hi:h[i]?=some (.cells (encB b).cells .live)):loadV C.P h 25 (.ptr i 4)=some (enc b.2):=by
 simp only[encB,cells_agg] at hi
 simp[loadV,hi,cellsAt,a25,s25];rw[enc_eq]
theorem ldB {h:H}{i:Nat}{b:T × T}(hi:h[i]?=some (.cells (encB b).cells .live)):loadV C.P h 86 (.ptr i 0)=some (encB b):=by
 simp only[encB,cells_agg] at hi
 simp[loadV,hi,cellsAt,a86,s86,encB]
end Go.VZ

/- The reference's sets of terms: walked. -/
namespace TL
def addS (t:T):List T→List T
 | []=>[t]
 | x::r=>if t.cmp x<0 then t::x::r else if t.cmp x=0 then x::r else x::addS t r
def setS (l:List T):List T:=l.foldl (fun s t=>addS t s) []
theorem mem_addS {t x:T}:∀ {s:List T},x∈addS t s↔x=t∨x∈s
 | []=>by simp[addS]
 | y::r=>by
  rw[addS]
  split
  ·simp
  ·split
   ·rename_i h1 h2
    have e:=cmp_zero.1 h2
    subst e
    simp
   ·rw[List.mem_cons,mem_addS (s:=r),List.mem_cons]
    constructor
    ·rintro (h | h | h)
     ·exact .inr (.inl h)
     ·exact .inl h
     ·exact .inr (.inr h)
    ·rintro (h | h | h)
     ·exact .inr (.inl h)
     ·exact .inl h
     ·exact .inr (.inr h)
theorem addS_len (t:T):∀s:List T,(addS t s).length≤s.length+1
 | []=>by simp[addS]
 | x::r=>by
  rw[addS]
  split
  ·simp
  ·split
   ·simp
   ·have:=addS_len t r
    simp;omega
theorem mem_setS {x:T}{l:List T}:x∈setS l↔x∈l:=by
 have key:∀(l s:List T),x∈l.foldl (fun s t=>addS t s) s↔x∈s∨x∈l:=by
  intro l
  induction l with
  | nil=>intro s;simp
  | cons a l ih=>
   intro s
   rw[List.foldl_cons,ih,mem_addS,List.mem_cons]
   constructor
   ·rintro ((h | h) | h)
    ·exact .inr (.inl h)
    ·exact .inl h
    ·exact .inr (.inr h)
   ·rintro (h | h | h)
    ·exact .inl (.inr h)
    ·exact .inl (.inl h)
    ·exact .inr h
 simpa [setS] using key l []
theorem setS_len (l:List T):(setS l).length≤l.length:=by
 have key:∀(l s:List T),(l.foldl (fun s t=>addS t s) s).length≤s.length+l.length:=by
  intro l
  induction l with
  | nil=>intro s;simp
  | cons a l ih=>
   intro s
   have:=ih (addS a s)
   have:=addS_len a s
   rw[List.foldl_cons,List.length_cons];omega
 simpa [setS] using key l []
theorem setS_take {l:List T}{k:Nat}(hk:k<l.length):setS (l.take (k+1))=addS l[k] (setS (l.take k)):=by
 rw[List.take_succ_eq_append_getElem hk,setS,List.foldl_append];rfl
def addJ (t:T) (s:List T):Nat→List T × Bool
 | 0=>([],false)
 | j+1=>
  let x:=s.getD j default
  let (o,d):=addJ t s j
  if d=false∧t.cmp x≤0 then ((if t.cmp x<0 then o++[t] else o)++[x],true) else (o++[x],d)
def addE (t:T) (s:List T):List T:=if (addJ t s s.length).2=true then (addJ t s s.length).1 else (addJ t s s.length).1++[t]
theorem addJ_eq (t:T) (s:List T):∀k,k≤s.length→((addJ t s k).2=false→addJ t s k=(s.take k,false)∧addS t s=s.take k++addS t (s.drop k))∧((addJ t s k).2=true→addS t s=(addJ t s k).1++s.drop k)
 | 0,_=>by simp[addJ]
 | k+1,hk=>by
  obtain ⟨h1,h2⟩:=addJ_eq t s k (by omega)
  have hlt:k<s.length:=by omega
  have hg:s.getD k default=s[k]:=by rw[List.getD_eq_getElem?_getD,List.getElem?_eq_getElem hlt];rfl
  have hd:addJ t s (k+1)=if (addJ t s k).2=false∧t.cmp s[k]≤0 then ((if t.cmp s[k]<0 then (addJ t s k).1++[t] else (addJ t s k).1)++[s[k]],true) else ((addJ t s k).1++[s[k]],(addJ t s k).2):=by
   rw[addJ,hg]
  rw[hd]
  cases e:(addJ t s k).2 with
  | true=>
   rw[if_neg (by simp)]
   refine ⟨fun x=>by simp at x,fun _=>?_⟩
   rw[h2 e,List.drop_eq_getElem_cons hlt];simp
  | false=>
   obtain ⟨h3,h4⟩:=h1 e
   rw[h3]
   by_cases hc:t.cmp s[k]≤0
   ·rw[if_pos ⟨rfl,hc⟩]
    refine ⟨fun x=>by simp at x,fun _=>?_⟩
    rw[h4,List.drop_eq_getElem_cons hlt,addS]
    by_cases hn:t.cmp s[k]<0
    ·rw[if_pos hn,if_pos hn];simp
    ·rw[if_neg hn,if_neg hn,if_pos (by omega)];simp
   ·rw[if_neg (fun x=>hc x.2)]
    refine ⟨fun _=>⟨by rw[List.take_succ_eq_append_getElem hlt],?_⟩,fun x=>by simp at x⟩
    rw[h4,List.drop_eq_getElem_cons hlt,addS,if_neg (by omega),if_neg (by omega),List.take_succ_eq_append_getElem hlt,List.append_assoc,List.singleton_append]
theorem addE_eq (t:T) (s:List T):addE t s=addS t s:=by
 obtain ⟨h1,h2⟩:=addJ_eq t s s.length (Nat.le_refl _)
 unfold addE
 by_cases e:(addJ t s s.length).2=true
 ·rw[if_pos e,h2 e];simp
 ·have e':(addJ t s s.length).2=false:=by simpa using e
  obtain ⟨h3,h4⟩:=h1 e'
  rw[if_neg e,h3,h4];simp[addS]
end TL
namespace Go.VZ
open Go Go.V Go.Proofs TL
def NI235 (t:T) (m:Nat) (st:PT) (h:H):Prop:=∃k:Nat,m=t.kids.length-k∧k≤t.kids.length∧st.get 1=.ptr 0 0∧st.get 4=.int .i64 k∧h[0]?=some (.cells (enc t).cells .live)∧OwnR 25 h (st.get 3) ((single t++walkTs single (t.kids.take k)).map enc)
theorem ld23b {h:H}{i:Nat}{t:T}(hi:h[i]?=some (.cells (enc t).cells .live)):loadV C.P h 23 (.ptr i 3)=some (terms t.kids):=by
 rw[enc_cells] at hi
 simp[loadV,hi,cellsAt,a23,s23,terms]
set_option maxRecDepth 8000 in
set_option maxHeartbeats 4000000 in
theorem all235 (t:T) (hs:t.size<4000000) (hc:∀k∈t.kids,CallP C 235 [enc k]=some (terms (walkT single k))):CallP C 235 [enc t]=some (terms (walkT single t)):=by
 refine CallP_W rfl Tryz.func235 rfl (by kernel_rfl) (by simp[Tryz.f235]) fun R hR=>?_
 have hsz:=size_kids t
 have hlen:=len_sizes t.kids
 have hln:=len23t t.kids
 obtain ⟨h0,eh0⟩:∃g:H,g=[.cells (enc t).cells .live,.tok 0 25]:=⟨_,rfl⟩
 have l0:loadV C.P h0 25 (.ptr 0 0)=some (enc t):=ldn25 t (by rw[eh0];rfl)
 simp[go_sem,box25]
 rw[←enc_cells,←eh0]
 simp[go_sem,l0,build23_1]
 refine W_loop (NI235 t) t.kids.length ⟨0,rfl,Nat.zero_le _,by simp[go_sem],by simp[go_sem],rfl,.inl (by simp[go_sem,single,walkTs])⟩ ?_
 clear l0 eh0 h0
 rintro m st h ⟨k,rfl,hk,g1,g4,m0,go⟩
 have q0:=ld23b m0
 obtain ⟨v3,e3⟩:∃v,v=st.get 3:=⟨_,rfl⟩
 rw[←e3] at go
 by_cases hlt:k<t.kids.length
 ·have hlt':(k:Int)<t.kids.length:=by omega
  have hix:=idx23t t.kids k hlt
  have w2:IntKind.i64.wrap ((k:Int)+1)=((k+1:Nat):Int):=by rw[wrap_in (by omega)];omega
  have ck:∀h,callV C h (.func 235 []) (some [enc t.kids[k]])=some (terms (walkT single t.kids[k]),h):=fun h=>callV_strip (by kernel_rfl) rfl (dat_enc _) (by simp[short_enc]) (by simp) (hc _ (List.getElem_mem hlt))
  have hwl:=walkTs_len single single_len (t.kids.take (k+1))
  have htl:=take_sizes_le t.kids (k+1)
  have hsp:walkTs single (t.kids.take (k+1))=walkTs single (t.kids.take k)++walkT single t.kids[k]:=by
   rw[List.take_succ_eq_append_getElem hlt,walkTs_append];simp[walkTs]
  rw[hsp,List.length_append] at hwl
  obtain ⟨v',h',ha,ho,hkp,hid⟩:=append23 (ys:=walkT single t.kids[k]) (x:=.unk) go (by simp only[single,List.length_append,List.length_cons,List.length_nil];omega)
  rw[List.append_assoc,←hsp] at ho
  change appendW C.P false h 23 v3 (terms (walkT single t.kids[k]))=some (v',h') at ha
  have m0':=hkp.get m0 (own_not go m0)
  simp[go_sem,g1,g4,←e3,q0,hln,hlt',hix,ld25,ck,ha,-Int.natCast_add,w2]
  exact ⟨t.kids.length-(k+1),by omega,k+1,rfl,hlt,by simp[go_sem,g1],by simp[go_sem],m0',by simpa [go_sem] using ho⟩
 ·have:k=t.kids.length:=by omega
  subst this
  rw[List.take_length] at go
  obtain ⟨x,hx⟩:=go.isl
  simp[go_sem,g1,g4,←e3,q0,hln]
  refine hR _ _ _ (.inr rfl) ⟨.isl ((walkT single t).map enc) x,by rw[walkT_eq,←hx];simp[resultV,resV,Tryz.f235,go_sem],snap_dat rfl rfl⟩
theorem all235_all (t:T):t.size<4000000→CallP C 235 [enc t]=some (terms (walkT single t)):=by
 induction t using T.ind with
 | _ t ih=>exact fun hv=>all235 t hv (fun k hk=>ih k hk (by have:=kid_size hk;omega))
theorem call235 (t:T) (hv:t.size<4000000) (h:H):callV C h (.func 235 []) (some [enc t])=some (terms (walkT single t),h):=callV_strip (by kernel_rfl) rfl (dat_enc _) (by simp[short_enc]) (by simp) (all235_all t hv)
def NI178 (t:T) (s:List T) (m:Nat) (st:PT) (h:H):Prop:=∃k:Nat,m=s.length-k∧k≤s.length∧st.get 0=terms s∧st.get 3=.ptr 0 0∧st.get 6=.bool (addJ t s k).2∧st.get 7=.int .i64 k∧h[0]?=some (.cells (enc t).cells .live)∧OwnR 25 h (st.get 5) ((addJ t s k).1.map enc)
theorem addJ_len (t:T) (s:List T):∀k,(addJ t s k).1.length≤k+(if (addJ t s k).2=true then 1 else 0)
 | 0=>by simp[addJ]
 | k+1=>by
  have:=addJ_len t s k
  rw[addJ]
  generalize addJ t s k=r at this
  obtain ⟨o,d⟩:=r
  dsimp only at this ⊢
  split
  ·rename_i hh
   rw[hh.1] at this
   simp only[Bool.false_eq_true,if_false] at this
   split<;>simp<;>omega
  ·simp only[List.length_append,List.length_cons,List.length_nil];omega
set_option maxRecDepth 8000 in
set_option maxHeartbeats 4000000 in
theorem add178 (s:List T) (t:T) (hs:∀x∈s,x.size<4000000) (ht:t.size<4000000) (hl:s.length<4000000):CallP C 178 [terms s,enc t]=some (terms (addE t s)):=by
 refine CallP_W rfl Tryz.func178 rfl (by kernel_rfl) (by simp[Tryz.f178]) fun R hR=>?_
 have hln:=len23t s
 simp[go_sem,box25]
 rw[←enc_cells]
 refine W_loop (NI178 t s) s.length ⟨0,rfl,Nat.zero_le _,by simp[go_sem],by simp[go_sem],by simp[go_sem,addJ],by simp[go_sem],rfl,.inr ⟨2,by simp[go_sem,addJ]⟩⟩ ?_
 rintro m st h ⟨k,rfl,hk,g0,g3,g6,g7,m0,go⟩
 have q0:=ldn25 t m0
 obtain ⟨v5,e5⟩:∃v,v=st.get 5:=⟨_,rfl⟩
 rw[←e5] at go
 have hjl:=addJ_len t s k
 have hjl2:(addJ t s k).1.length≤k+1:=by split at hjl<;>omega
 by_cases hlt:k<s.length
 ·have hlt':(k:Int)<s.length:=by omega
  have hix:=idx23t s k hlt
  have w2:IntKind.i64.wrap ((k:Int)+1)=((k+1:Nat):Int):=by rw[wrap_in (by omega)];omega
  have ck:=call118 t s[k] ht (hs _ (List.getElem_mem hlt))
  have hd:addJ t s (k+1)=if (addJ t s k).2=false∧t.cmp s[k]≤0 then ((if t.cmp s[k]<0 then (addJ t s k).1++[t] else (addJ t s k).1)++[s[k]],true) else ((addJ t s k).1++[s[k]],(addJ t s k).2):=by
   rw[addJ,getD_get hlt]
  generalize addJ t s k=r at hd g6 go hjl2
  obtain ⟨o,d⟩:=r
  dsimp only at hd g6 go hjl2
  have one:∀ {h:H}{v:AV}{o:List T}(y:T),OwnR 25 h v (o.map enc)→h[0]?=some (.cells (enc t).cells .live)→o.length<10000000→∃v' h',appendW C.P false h 23 v (.isl [enc y] .full)=some (v',h')∧OwnR 25 h' v' ((o++[y]).map enc)∧h'[0]?=some (.cells (enc t).cells .live):=fun y go m0 hl=>by
   obtain ⟨v',h',ha,ho,hkp,_⟩:=append23 (ys:=[y]) (x:=.full) go (by simp;omega)
   exact ⟨v',h',by simpa using ha,ho,hkp.get m0 (own_not go m0)⟩
  by_cases hc:d=false∧t.cmp s[k]≤0
  ·rw[if_pos hc] at hd
   obtain ⟨rfl,hc⟩:=hc
   by_cases hlt0:t.cmp s[k]<0
   ·rw[if_pos hlt0] at hd
    obtain ⟨v1,h1,a1,o1,n1⟩:=one t go m0 (by omega)
    obtain ⟨v2,h2,a2,o2,n2⟩:=one s[k] o1 n1 (by simp;omega)
    simp[go_sem,g0,g3,g6,g7,←e5,hln,hlt',hix,ld25,ck,q0,hc,hlt0,build23_1,a1,a2,-Int.natCast_add,w2]
    exact ⟨s.length-(k+1),by omega,k+1,rfl,hlt,by simp[go_sem,g0],by simp[go_sem,g3],by simp[go_sem,hd],by simp[go_sem],n2,by simpa [go_sem,hd] using o2⟩
   ·rw[if_neg hlt0] at hd
    obtain ⟨v2,h2,a2,o2,n2⟩:=one s[k] go m0 (by omega)
    simp[go_sem,g0,g3,g6,g7,←e5,hln,hlt',hix,ld25,ck,q0,hc,hlt0,build23_1,a2,-Int.natCast_add,w2]
    exact ⟨s.length-(k+1),by omega,k+1,rfl,hlt,by simp[go_sem,g0],by simp[go_sem,g3],by simp[go_sem,hd],by simp[go_sem],n2,by simpa [go_sem,hd] using o2⟩
  ·rw[if_neg hc] at hd
   obtain ⟨v2,h2,a2,o2,n2⟩:=one s[k] go m0 (by omega)
   cases d with
   | true=>
    simp[go_sem,g0,g3,g6,g7,←e5,hln,hlt',hix,ld25,ck,q0,build23_1,a2,-Int.natCast_add,w2]
    exact ⟨s.length-(k+1),by omega,k+1,rfl,hlt,by simp[go_sem,g0],by simp[go_sem,g3],by simp[go_sem,hd,g6],by simp[go_sem],n2,by simpa [go_sem,hd] using o2⟩
   | false=>
    have hc':¬t.cmp s[k]≤0:=fun e=>hc ⟨rfl,e⟩
    simp[go_sem,g0,g3,g6,g7,←e5,hln,hlt',hix,ld25,ck,q0,hc',build23_1,a2,-Int.natCast_add,w2]
    exact ⟨s.length-(k+1),by omega,k+1,rfl,hlt,by simp[go_sem,g0],by simp[go_sem,g3],by simp[go_sem,hd,g6],by simp[go_sem],n2,by simpa [go_sem,hd] using o2⟩
 ·have:k=s.length:=by omega
  subst this
  by_cases hd:(addJ t s s.length).2=true
  ·obtain ⟨x,hx⟩:=go.isl
   rw[hd] at g6
   simp[go_sem,g0,g6,g7,←e5,hln]
   refine hR _ _ _ (.inr rfl) ⟨.isl ((addE t s).map enc) x,by rw[addE,if_pos hd,←hx];simp[resultV,resV,Tryz.f178,go_sem],snap_dat rfl rfl⟩
  ·have hd':(addJ t s s.length).2=false:=by simpa using hd
   rw[hd'] at g6
   obtain ⟨v',h',ha,ho,hkp,_⟩:=append23 (ys:=[t]) (x:=.full) go (by simp;omega)
   obtain ⟨x,hx⟩:=ho.isl
   simp only[List.map_cons,List.map_nil] at ha
   simp[go_sem,g0,g3,g6,g7,←e5,hln,q0,build23_1,ha]
   refine hR _ _ _ (.inr rfl) ⟨.isl ((addE t s).map enc) x,by rw[addE,if_neg hd,←hx];simp[resultV,resV,Tryz.f178,go_sem],snap_dat rfl rfl⟩
theorem call178 (s:List T) (x:Ext) (t:T) (hs:∀x∈s,x.size<4000000) (ht:t.size<4000000) (hl:s.length<4000000) (h:H):callV C h (.func 178 []) (some [.isl (s.map enc) x,enc t])=some (terms (addS t s),h):=by
 rw[←addE_eq]
 exact callV_strip (by kernel_rfl) rfl (args':=[terms s,enc t]) (by rw[enc_eq];rfl) (by rw[enc_eq];rfl) (by simp) (add178 s t hs ht hl)
def NI120 (l:List T) (m:Nat) (st:PT) (_h:H):Prop:=∃k:Nat,m=l.length-k∧k≤l.length∧st.get 0=terms l∧st.get 4=.int .i64 k∧∃x,st.get 3=.isl ((setS (l.take k)).map enc) x
set_option maxRecDepth 8000 in
set_option maxHeartbeats 4000000 in
theorem set120 (l:List T) (hs:∀x∈l,x.size<4000000) (hl:l.length<4000000):CallP C 120 [terms l]=some (terms (setS l)):=by
 refine CallP_W rfl Tryz.func120 rfl (by kernel_rfl) (by simp[Tryz.f120]) fun R hR=>?_
 have hln:=len23t l
 simp[go_sem]
 refine W_loop (NI120 l) l.length ⟨0,rfl,Nat.zero_le _,by simp[go_sem],by simp[go_sem],_,by simp[go_sem,setS];rfl⟩ ?_
 rintro m st h ⟨k,rfl,hk,g0,g4,x,g3⟩
 by_cases hlt:k<l.length
 ·have hlt':(k:Int)<l.length:=by omega
  have hix:=idx23t l k hlt
  have w2:IntKind.i64.wrap ((k:Int)+1)=((k+1:Nat):Int):=by rw[wrap_in (by omega)];omega
  have hsl:=setS_len (l.take k)
  have ck:=call178 (setS (l.take k)) x l[k] (fun y hy=>hs y (List.mem_of_mem_take (mem_setS.1 hy))) (hs _ (List.getElem_mem hlt)) (by simp only[List.length_take] at hsl;omega)
  rw[←setS_take hlt] at ck
  simp[go_sem,g0,g3,g4,hln,hlt',hix,ld25,ck,-Int.natCast_add,w2]
  exact ⟨l.length-(k+1),by omega,k+1,rfl,hlt,by simp[go_sem,g0],by simp[go_sem],.unk,by simp[go_sem,terms]⟩
 ·have:k=l.length:=by omega
  subst this
  rw[List.take_length] at g3
  simp[go_sem,g0,g3,g4,hln]
  exact hR _ _ _ (.inr rfl) ⟨.isl ((setS l).map enc) x,by simp[resultV,resV,Tryz.f120,go_sem],snap_dat rfl rfl⟩
theorem call120 (l:List T) (x:Ext) (hs:∀x∈l,x.size<4000000) (hl:l.length<4000000) (h:H):callV C h (.func 120 []) (some [.isl (l.map enc) x])=some (terms (setS l),h):=callV_strip (by kernel_rfl) rfl (args':=[terms l]) rfl rfl (by simp) (set120 l hs hl)
def isK (k:Int) (t:T):Bool:=decide (t.kind=k)
def NI177 (t:T) (c:Int) (m:Nat) (st:PT) (h:H):Prop:=∃k:Nat,m=(walkT single t).length-k∧k≤(walkT single t).length∧st.get 1=.int .i64 c∧st.get 6=terms (walkT single t)∧st.get 7=.int .i64 k∧OwnR 25 h (st.get 5) ((((walkT single t).take k).filter (isK c)).map enc)
theorem ld3i0 (t:T) (h:H):loadV C.P h 3 (.iptr (enc t) 0)=some (.int .i64 t.kind):=by simp[loadV,cellsAt,a3,s3,enc_cells]
theorem fa25i_0 (e:AV):fieldAddrV C.P 25 (.iptr e 0) 0=some (.iptr e 0):=by kernel_rfl
set_option maxRecDepth 8000 in
set_option maxHeartbeats 4000000 in
theorem kind177 (t:T) (c:Int) (hs:t.size<4000000):CallP C 177 [enc t,.int .i64 c]=some (terms (setS ((walkT single t).filter (isK c)))):=by
 refine CallP_W rfl Tryz.func177 rfl (by kernel_rfl) (by simp[Tryz.f177]) fun R hR=>?_
 have hwl:=walkT_len single single_len t
 have hws:=walk_small single_mem t hs
 have c1:=call235 t hs
 obtain ⟨h0,eh0⟩:∃g:H,g=[.cells (enc t).cells .live,.tok 0 25,.tok 0 25]:=⟨_,rfl⟩
 have l0:loadV C.P h0 25 (.ptr 0 0)=some (enc t):=ldn25 t (by rw[eh0];rfl)
 simp[go_sem,box25]
 rw[←enc_cells,←eh0]
 simp[go_sem,l0,c1]
 generalize ew:walkT single t=w at *
 have hln:=len23t w
 refine W_loop (NI177 t c) w.length ⟨0,by rw[ew];rfl,Nat.zero_le _,by simp[go_sem],by simp[go_sem,ew],by simp[go_sem],.inr ⟨2,by simp[go_sem]⟩⟩ ?_
 clear l0 eh0 h0 c1
 rintro m st h ⟨k,rfl,hk,g1,g6,g7,go⟩
 rw[ew] at hk g6 go
 obtain ⟨v5,e5⟩:∃v,v=st.get 5:=⟨_,rfl⟩
 rw[←e5] at go
 have hfl:=List.length_filter_le (isK c) (w.take k)
 by_cases hlt:k<w.length
 ·have hlt':(k:Int)<w.length:=by omega
  have hix:=idx23t w k hlt
  have w2:IntKind.i64.wrap ((k:Int)+1)=((k+1:Nat):Int):=by rw[wrap_in (by omega)];omega
  have hft:(w.take (k+1)).filter (isK c)=if w[k].kind=c then (w.take k).filter (isK c)++[w[k]] else (w.take k).filter (isK c):=by
   rw[List.take_succ_eq_append_getElem hlt,List.filter_append]
   by_cases e:w[k].kind=c<;>simp[e,isK]
  by_cases he:w[k].kind=c
  ·rw[if_pos he] at hft
   obtain ⟨v',h',ha,ho,_,_⟩:=append23 (ys:=[w[k]]) (x:=.full) go (by simp only[List.length_take,List.length_cons,List.length_nil] at hfl ⊢;omega)
   rw[←hft] at ho
   simp only[List.map_cons,List.map_nil] at ha
   simp[go_sem,g1,g6,g7,←e5,hln,hlt',hix,ld25,ld3i0,fa25i_0,he,build23_1,ha,-Int.natCast_add,w2]
   exact ⟨(walkT single t).length-(k+1),by rw[ew];omega,k+1,rfl,by rw[ew];exact hlt,by simp[go_sem,g1],by simp[go_sem,g6,ew],by simp[go_sem],by rw[ew];simpa [go_sem] using ho⟩
  ·rw[if_neg he] at hft
   simp[go_sem,g1,g6,g7,hln,hlt',hix,ld3i0,fa25i_0,he,-Int.natCast_add,w2]
   exact ⟨(walkT single t).length-(k+1),by rw[ew];omega,k+1,rfl,by rw[ew];exact hlt,by simp[go_sem,g1],by simp[go_sem,g6,ew],by simp[go_sem],by rw[ew,hft];simpa [go_sem,←e5] using go⟩
 ·have:k=w.length:=by omega
  subst this
  rw[List.take_length] at go hfl
  obtain ⟨x,hx⟩:=go.isl
  have c2:=call120 (w.filter (isK c)) x (fun y hy=>hws y (List.mem_filter.1 hy).1) (by omega)
  simp[go_sem,g6,g7,←e5,hln,hx,c2]
  exact hR _ _ _ (.inr rfl) ⟨terms (setS (w.filter (isK c))),by simp[resultV,resV,Tryz.f177,go_sem],snap_dat rfl rfl⟩
end Go.VZ

/- The reference's variables: walked; both ways agree. -/
namespace Go.VZ
open Go Go.V Go.Proofs TL
theorem call177 (t:T) (c:Int) (hs:t.size<4000000) (h:H):callV C h (.func 177 []) (some [enc t,.int .i64 c])=some (terms (setS ((walkT single t).filter (isK c))),h):=callV_strip (by kernel_rfl) rfl (args':=[enc t,.int .i64 c]) (by rw[enc_eq];rfl) (by simp[short_enc,short_int]) (by simp) (kind177 t c hs)
def varsR (t:T):List T:=setS ((walkT single t).filter (isK 1))
theorem vars119 (t:T) (hs:t.size<4000000):CallP C 119 [enc t]=some (terms (varsR t)):=by
 refine CallP_W rfl Tryz.func119 rfl (by kernel_rfl) (by simp[Tryz.f119]) fun R hR=>?_
 have c1:=call177 t 1 hs
 have l1:loadV C.P [.cells [.int .i64 t.kind,.str t.name,.int .i64 t.sort,terms t.kids] .live,.tok 0 25] 25 (.ptr 0 0)=some (enc t):=by
  simp[loadV,cellsAt,a25,s25];rw[enc_eq]
 simp[go_sem,initS,box25,l1,c1]
 exact hR _ _ _ (.inr rfl) ⟨terms (varsR t),by simp[resultV,resV,Tryz.f119,go_sem,varsR],snap_dat rfl rfl⟩
theorem call119 (t:T) (hs:t.size<4000000) (h:H):callV C h (.func 119 []) (some [enc t])=some (terms (varsR t),h):=callV_strip (by kernel_rfl) rfl (dat_enc _) (by simp[short_enc]) (by simp) (vars119 t hs)
def varsRs (l:List T):List T:=setS (l.flatMap varsR)
def NI68 (l:List T) (m:Nat) (st:PT) (h:H):Prop:=∃k:Nat,m=l.length-k∧k≤l.length∧st.get 0=terms l∧st.get 4=.int .i64 k∧OwnR 25 h (st.get 3) (((l.take k).flatMap varsR).map enc)
theorem varsR_len (t:T):(varsR t).length≤t.size:=by
 have h1:=setS_len ((walkT single t).filter (isK 1))
 have h2:=List.length_filter_le (isK 1) (walkT single t)
 have h3:=walkT_len single single_len t
 unfold varsR;omega
theorem varsR_flat_len (l:List T):(l.flatMap varsR).length≤sizes l:=by
 induction l with
 | nil=>simp[sizes]
 | cons a l ih=>
  have:=varsR_len a
  rw[List.flatMap_cons,List.length_append,sizes];omega
theorem varsR_small {t:T}{n:Nat}(h:t.size<n):∀x∈varsR t,x.size<n:=fun x hx=>walk_small single_mem t h x (List.mem_filter.1 (mem_setS.1 hx)).1
set_option maxRecDepth 8000 in
set_option maxHeartbeats 4000000 in
theorem varsOf68 (l:List T) (hs:∀x∈l,x.size<4000000) (hl:sizes l<4000000):CallP C 68 [terms l]=some (terms (varsRs l)):=by
 refine CallP_W rfl Tryz.func68 rfl (by kernel_rfl) (by simp[Tryz.f68]) fun R hR=>?_
 have hln:=len23t l
 have hlen:=len_sizes l
 simp[go_sem]
 refine W_loop (NI68 l) l.length ⟨0,rfl,Nat.zero_le _,by simp[go_sem],by simp[go_sem],.inr ⟨1,by simp[go_sem]⟩⟩ ?_
 rintro m st h ⟨k,rfl,hk,g0,g4,go⟩
 obtain ⟨v3,e3⟩:∃v,v=st.get 3:=⟨_,rfl⟩
 rw[←e3] at go
 by_cases hlt:k<l.length
 ·have hlt':(k:Int)<l.length:=by omega
  have hix:=idx23t l k hlt
  have w2:IntKind.i64.wrap ((k:Int)+1)=((k+1:Nat):Int):=by rw[wrap_in (by omega)];omega
  have ck:=call119 l[k] (hs _ (List.getElem_mem hlt))
  have hsp:(l.take (k+1)).flatMap varsR=(l.take k).flatMap varsR++varsR l[k]:=by
   rw[List.take_succ_eq_append_getElem hlt,List.flatMap_append];simp
  have hfl:=varsR_flat_len (l.take (k+1))
  have htl:=take_sizes_le l (k+1)
  rw[hsp,List.length_append] at hfl
  obtain ⟨v',h',ha,ho,_,_⟩:=append23 (ys:=varsR l[k]) (x:=.unk) go (by omega)
  rw[←hsp] at ho
  change appendW C.P false h 23 v3 (terms (varsR l[k]))=some (v',h') at ha
  simp[go_sem,g0,g4,←e3,hln,hlt',hix,ld25,ck,ha,-Int.natCast_add,w2]
  exact ⟨l.length-(k+1),by omega,k+1,rfl,hlt,by simp[go_sem,g0],by simp[go_sem],by simpa [go_sem] using ho⟩
 ·have:k=l.length:=by omega
  subst this
  rw[List.take_length] at go
  obtain ⟨x,hx⟩:=go.isl
  have hfl:=varsR_flat_len l
  have c2:=call120 (l.flatMap varsR) x (fun y hy=>by
   obtain ⟨a,ha,hy⟩:=List.mem_flatMap.1 hy
   exact varsR_small (hs a ha) y hy) (by omega)
  simp[go_sem,g0,g4,←e3,hln,hx,c2]
  exact hR _ _ _ (.inr rfl) ⟨terms (varsRs l),by simp[resultV,resV,Tryz.f68,go_sem,varsRs],snap_dat rfl rfl⟩
theorem call68 (l:List T) (x:Ext) (hs:∀x∈l,x.size<4000000) (hl:sizes l<4000000) (h:H):callV C h (.func 68 []) (some [.isl (l.map enc) x])=some (terms (varsRs l),h):=callV_strip (by kernel_rfl) rfl (args':=[terms l]) rfl rfl (by simp) (varsOf68 l hs hl)
end Go.VZ
namespace TL
def lt (x y:T):Prop:=x.cmp y<0
theorem lt_ne {x:T}(a:lt x x):False:=by unfold lt at a;rw[cmp_refl] at a;omega
theorem strict_eq:∀ {l m:List T},l.Pairwise lt→m.Pairwise lt→(∀x,x∈l↔x∈m)→l=m
 | [],[],_,_,_=>rfl
 | [],b::m,_,_,h=>by have:=(h b).2 (by simp);simp at this
 | a::l,[],_,_,h=>by have:=(h a).1 (by simp);simp at this
 | a::l,b::m,h1,h2,h=>by
  rw[List.pairwise_cons] at h1 h2
  have eab:a=b:=by
   rcases List.mem_cons.1 ((h a).1 (by simp)) with e | e
   ·exact e
   ·rcases List.mem_cons.1 ((h b).2 (by simp)) with e' | e'
    ·exact e'.symm
    ·exact (lt_ne (cmp_trans (h1.1 b e') (h2.1 a e))).elim
  subst eab
  congr 1
  refine strict_eq h1.2 h2.2 fun x=>?_
  constructor
  ·intro hx
   rcases List.mem_cons.1 ((h x).1 (by simp[hx])) with e | e
   ·subst e;exact (lt_ne (h1.1 _ hx)).elim
   ·exact e
  ·intro hx
   rcases List.mem_cons.1 ((h x).2 (by simp[hx])) with e | e
   ·subst e;exact (lt_ne (h2.1 _ hx)).elim
   ·exact e
theorem addS_sorted {t:T}:∀ {s:List T},s.Pairwise lt→(addS t s).Pairwise lt
 | [],_=>by simp[addS]
 | x::r,h=>by
  rw[List.pairwise_cons] at h
  rw[addS]
  split
  ·rename_i hlt
   rw[List.pairwise_cons,List.pairwise_cons]
   refine ⟨fun y hy=>?_,h⟩
   rcases List.mem_cons.1 hy with rfl | hy
   ·exact hlt
   ·exact cmp_trans hlt (h.1 y hy)
  ·split
   ·rw[List.pairwise_cons];exact h
   ·rename_i h1 h2
    rw[List.pairwise_cons]
    refine ⟨fun y hy=>?_,addS_sorted h.2⟩
    rcases mem_addS.1 hy with rfl | hy
    ·exact cmp_lt (by omega)
    ·exact h.1 y hy
theorem setS_sorted (l:List T):(setS l).Pairwise lt:=by
 have key:∀(l s:List T),s.Pairwise lt→(l.foldl (fun s t=>addS t s) s).Pairwise lt:=by
  intro l
  induction l with
  | nil=>intro s h;exact h
  | cons a l ih=>intro s h;exact ih _ (addS_sorted h)
 exact key l [] List.Pairwise.nil
theorem ddj_spec {l:List T}(hs:l.Pairwise le):∀j,j≤l.length→(ddj l j).Pairwise lt∧∀x,x∈ddj l j↔x∈l.take j
 | 0,_=>by simp[ddj]
 | j+1,hj=>by
  obtain ⟨h1,h2⟩:=ddj_spec hs j (by omega)
  have hlt:j<l.length:=by omega
  have hg:∀i,i<l.length→l.getD i default=l[i]!:=fun i hi=>by
   rw[List.getD_eq_getElem?_getD,List.getElem?_eq_getElem hi];simp[List.getElem!_eq_getElem?_getD,List.getElem?_eq_getElem hi]
  have gj:l.getD j default=l[j]:=by rw[List.getD_eq_getElem?_getD,List.getElem?_eq_getElem hlt];rfl
  rw[ddj,gj]
  split
  ·rename_i hc
   have hj1:j-1<l.length:=by omega
   have gj1:l.getD (j-1) default=l[j-1]:=by rw[List.getD_eq_getElem?_getD,List.getElem?_eq_getElem hj1];rfl
   rw[gj1] at hc
   have e:=cmp_zero.1 hc.2
   refine ⟨h1,fun x=>?_⟩
   rw[h2,List.take_succ_eq_append_getElem hlt,List.mem_append,List.mem_singleton]
   constructor
   ·exact .inl
   ·rintro (h | h)
    ·exact h
    ·rw[h,e,List.mem_take_iff_getElem]
     exact ⟨j-1,by omega,rfl⟩
  ·rename_i hc
   refine ⟨?_,fun x=>?_⟩
   ·rw[List.pairwise_append]
    refine ⟨h1,by simp,fun x hx y hy=>?_⟩
    simp only[List.mem_singleton] at hy
    subst hy
    obtain ⟨i,hi,rfl⟩:=List.mem_take_iff_getElem.1 ((h2 x).1 hx)
    have hij:i<j:=by omega
    have hle:=List.pairwise_iff_getElem.1 hs
    have hj1:j-1<l.length:=by omega
    have gj1:l.getD (j-1) default=l[j-1]:=by rw[List.getD_eq_getElem?_getD,List.getElem?_eq_getElem hj1];rfl
    rw[gj1] at hc
    have hne:l[j].cmp l[j-1]≠0:=fun e=>hc ⟨by omega,e⟩
    have l1:le l[j-1] l[j]:=hle (j-1) j hj1 hlt (by omega)
    have l2:lt l[j-1] l[j]:=by
     rw[le_iff] at l1;unfold lt;rw[cmp_anti] at hne;omega
    by_cases e:i=j-1
    ·subst e;exact l2
    ·have l3:le l[i] l[j-1]:=hle i (j-1) (by omega) hj1 (by omega)
     rw[le_iff] at l3
     unfold lt at l2 ⊢
     have t:=cmp_tri l[i] l[j-1] l[j]
     by_cases e2:l[i].cmp l[j-1]=0
     ·rw[t.1 e2];exact l2
     ·exact t.2.2 (by omega) l2
   ·rw[List.mem_append,h2,List.take_succ_eq_append_getElem hlt,List.mem_append]
theorem ords_spec (l:List T):(ords l).Pairwise lt∧∀x,x∈ords l↔x∈l:=by
 obtain ⟨h1,h2⟩:=ddj_spec (srt_sorted l) (srt l).length (Nat.le_refl _)
 refine ⟨h1,fun x=>?_⟩
 unfold ords dd
 rw[h2,List.take_length,mem_srt]
end TL
namespace Go.VZ
open TL
theorem vars_same (fs:List Fa) (l:List T) (h:∀t,t∈allTerms fs↔t∈l):varsF fs=varsRs l:=by
 refine strict_eq ((ords_spec _).1.filter _) (setS_sorted _) fun x=>?_
 rw[varsF,List.mem_filter,(ords_spec _).2,varsRs,mem_setS,walkTs_map,List.mem_flatMap,List.mem_flatMap]
 constructor
 ·rintro ⟨⟨a,ha,hx⟩,hv⟩
  exact ⟨a,(h a).1 ha,by rw[varsR,mem_setS,List.mem_filter];exact ⟨hx,by simpa [isVr,isK] using hv⟩⟩
 ·rintro ⟨a,ha,hx⟩
  rw[varsR,mem_setS,List.mem_filter] at hx
  exact ⟨⟨a,(h a).2 ha,hx.1⟩,by simpa [isVr,isK] using hx.2⟩
end Go.VZ

/- Whether a clause is valid: both ways walked. -/
namespace Go.VZ
open Go Go.V Go.Proofs TL
def factsE:List Fa→Int
 | []=>0
 | f::l=>if factE f≠0 then factE f else factsE l
def clauseE (c:Cl):Int:=if 12<c.body.length then 3 else factsE (factsOf c)
theorem factsE_snoc (l:List Fa) (f:Fa):factsE (l++[f])=if factsE l≠0 then factsE l else factE f:=by
 induction l with
 | nil=>by_cases h:factE f=0<;>simp[factsE,h]
 | cons a l ih=>
  rw[List.cons_append,factsE,factsE,ih]
  by_cases h:factE a≠0<;>simp[h]
def okF (l:List Fa):Prop:=∀f∈l,smallF f.terms∧f.terms.length<4000000
def NI35 (l:List Fa) (n:Nat) (st:PT) (_h:H):Prop:=∃k:Nat,n=l.length-k∧k≤l.length∧st.get 11=factsV l∧st.get 12=.int .i64 l.length∧st.get 13=.int .i64 k∧factsE l=factsE (l.drop k)
set_option maxRecDepth 8000 in
set_option maxHeartbeats 4000000 in
theorem valid35 (c:Cl) (hs:okF (factsOf c)):CallP C 35 [encCl c]=some (.int .i64 (clauseE c)):=by
 refine CallP_W rfl Tryz.func35 rfl (by kernel_rfl) (by simp[Tryz.f35]) fun R hR=>?_
 have fin:∀(st:PT) (h:H) (e:Int),st.get 2=.int .i64 e→clauseE c=e→R .ret st h:=fun st h e h2 he=>hR _ _ _ (.inr rfl) ⟨.int .i64 e,by simp[resultV,resV,Tryz.f35,h2],by rw[he];exact snap_dat rfl rfl⟩
 have m0:([.cells (clC c) .live]:H)[0]?=some (.cells (clC c) .live):=rfl
 have l0:=ld33c m0
 have l1:=ld37c m0
 have hln:=len33f c.body
 by_cases h12:12<c.body.length
 ·have h12':(12:Int)<c.body.length:=by omega
  simp[go_sem,initS,box37,l0,hln,h12']
  exact fin _ _ 3 (by simp[go_sem]) (by rw[clauseE,if_pos h12])
 have h12':¬(12:Int)<c.body.length:=by omega
 have c1:=call57 c (by omega)
 have he:clauseE c=factsE (factsOf c):=by rw[clauseE,if_neg h12]
 rw[he] at fin
 have hll:(factsOf c).length≤13:=by simp[factsOf];omega
 generalize factsOf c=l at c1 hs fin hll
 have hln2:=len33f l
 simp[go_sem,box37,l0,hln,h12',l1,c1,hln2]
 refine W_loop (NI35 l) l.length ⟨0,rfl,Nat.zero_le _,by simp[go_sem],by simp[go_sem],by simp[go_sem],rfl⟩ ?_
 rintro n st h ⟨k,rfl,hk,g11,g12,g13,hd⟩
 by_cases hlt:k<l.length
 ·have hlt':(k:Int)<l.length:=by omega
  have hix:indexAddrV C.P 33 (factsV l) (.int .i64 k)=some (.iptr (encFa l[k]) 0):=idx33 l k hlt .unk
  have e4:=st35z l[k] h
  have e5:=ld35b l[k] h
  have l35:=ld35i l[k] h
  have c2:=call58 l[k] (hs _ (List.getElem_mem hlt)).1 (hs _ (List.getElem_mem hlt)).2
  rw[List.drop_eq_getElem_cons hlt,factsE] at hd
  by_cases hz:factE l[k]=0
  ·have w2:IntKind.i64.wrap ((k:Int)+1)=((k+1:Nat):Int):=by rw[wrap_in (by omega)];omega
   simp[go_sem,g11,g12,g13,hlt',hix,l35,zv35,e4,e5,c2,cells_agg,hz,-Int.natCast_add,w2]
   exact ⟨l.length-(k+1),by omega,k+1,rfl,hlt,by simp[go_sem,g11],by simp[go_sem,g12],by simp[go_sem],by rw[hd,if_neg (by simpa using hz)]⟩
  ·simp[go_sem,g11,g12,g13,hlt',hix,l35,zv35,e4,e5,c2,cells_agg,hz]
   exact fin _ _ (factE l[k]) (by simp[go_sem]) (by rw[hd,if_pos hz])
 ·have:k=l.length:=by omega
  subst this
  rw[List.drop_length,factsE] at hd
  simp[go_sem,g12,g13]
  exact fin _ _ 0 (by simp[go_sem]) hd
theorem call35 (c:Cl) (hs:okF (factsOf c)) (h:H):callV C h (.func 35 []) (some [encCl c])=some (.int .i64 (clauseE c),h):=callV_strip (by kernel_rfl) rfl (dat_cl c) (by simp[short_cl]) (by simp) (valid35 c hs)
def NI37 (c:Cl) (n:Nat) (st:PT) (h:H):Prop:=∃k:Nat,n=c.body.length-k∧k≤c.body.length∧st.get 1=.ptr 0 0∧st.get 3=.int .i64 k∧h[0]?=some (.cells (clC c) .live)∧factsE c.body=factsE (c.body.drop k)
set_option maxRecDepth 8000 in
set_option maxHeartbeats 4000000 in
theorem valid37 (c:Cl) (hs:okF (factsOf c)):CallP C 37 [encCl c]=some (.int .i64 (clauseE c)):=by
 refine CallP_W rfl Tryz.func37 rfl (by kernel_rfl) (by simp[Tryz.f37]) fun R hR=>?_
 have fin:∀(st:PT) (h:H) (e:Int),st.get 2=.int .i64 e→clauseE c=e→R .ret st h:=fun st h e h2 he=>hR _ _ _ (.inr rfl) ⟨.int .i64 e,by simp[resultV,resV,Tryz.f37,h2],by rw[he];exact snap_dat rfl rfl⟩
 have m0:([.cells (clC c) .live]:H)[0]?=some (.cells (clC c) .live):=rfl
 have l0:=ld33c m0
 have hln:=len33f c.body
 by_cases h12:12<c.body.length
 ·have h12':(12:Int)<c.body.length:=by omega
  simp[go_sem,initS,box37,l0,hln,h12']
  exact fin _ _ 3 (by simp[go_sem]) (by rw[clauseE,if_pos h12])
 have h12':¬(12:Int)<c.body.length:=by omega
 have he:clauseE c=if factsE c.body≠0 then factsE c.body else factE c.head:=by rw[clauseE,if_neg h12,factsOf,factsE_snoc]
 simp[go_sem,box37,l0,hln,h12']
 refine W_loop (NI37 c) c.body.length ⟨0,rfl,Nat.zero_le _,by simp[go_sem],by simp[go_sem],rfl,rfl⟩ ?_
 clear m0 l0
 rintro n st h ⟨k,rfl,hk,g1,g3,m0,hd⟩
 have l0:=ld33c m0
 have l1:=ld35c m0
 by_cases hlt:k<c.body.length
 ·have hlt':(k:Int)<c.body.length:=by omega
  have hix:indexAddrV C.P 33 (factsV c.body) (.int .i64 k)=some (.iptr (encFa c.body[k]) 0):=idx33 c.body k hlt .unk
  have l35:=ld35i c.body[k] h
  have hm:c.body[k]∈factsOf c:=by simp[factsOf]
  have c2:=call66 c.body[k] (hs _ hm).1 (hs _ hm).2
  rw[List.drop_eq_getElem_cons hlt,factsE] at hd
  by_cases hz:factE c.body[k]=0
  ·have w2:IntKind.i64.wrap ((k:Int)+1)=((k+1:Nat):Int):=by rw[wrap_in (by omega)];omega
   simp[go_sem,g1,g3,l0,hln,hlt',hix,l35,c2,hz,-Int.natCast_add,w2]
   exact ⟨c.body.length-(k+1),by omega,k+1,rfl,hlt,by simp[go_sem,g1],by simp[go_sem],m0,by rw[hd,if_neg (by simpa using hz)]⟩
  ·rw[if_pos hz] at hd
   simp[go_sem,g1,g3,l0,hln,hlt',hix,l35,c2,hz]
   exact fin _ _ (factE c.body[k]) (by simp[go_sem]) (by rw[he,hd,if_pos hz])
 ·have:k=c.body.length:=by omega
  subst this
  rw[List.drop_length,factsE] at hd
  have hm:c.head∈factsOf c:=by simp[factsOf]
  have c2:=call66 c.head (hs _ hm).1 (hs _ hm).2
  simp[go_sem,g1,g3,l0,hln,l1,c2]
  exact fin _ _ (factE c.head) (by simp[go_sem]) (by rw[he,hd];simp)
theorem call37 (c:Cl) (hs:okF (factsOf c)) (h:H):callV C h (.func 37 []) (some [encCl c])=some (.int .i64 (clauseE c),h):=callV_strip (by kernel_rfl) rfl (dat_cl c) (by simp[short_cl]) (by simp) (valid37 c hs)
end Go.VZ

/- Whether a clause is small: the law's guard, walked. -/
namespace Go.VZ
open Go Go.V Go.Proofs TL
theorem MX_mono {C:Cfg}{cf:FuncId}{ops:Array Oper}{base:Nat}{K K':PT→H→List FP→Prop}(hk:∀s h F,K s h F→K' s h F):∀(l:List Oper) (i:Nat) (s:PT) (h:H) (F:List FP),MX C cf ops base K i l s h F→MX C cf ops base K' i l s h F
 | [],_,_,_,_,hx=>hk _ _ _ hx
 | _::l,_,_,_,_,⟨v,h2,f,e,hx⟩=>⟨v,h2,f,e,MX_mono hk l _ _ _ _ hx⟩
theorem W_mixedP {C:Cfg}{cf:FuncId}{R:Ex→PT→H→Prop}{k:List It}{s:PT}{h:H}(id:Nat) (ops:Array Oper) (P:PT→H→Prop) (hm:C.mix cf id=true) (ht:tmpOk ops=true)
  (hx:MX C cf ops h.length (fun s' h' F=>fpOk ops F=true∧P s' h') 0 ops.toList s (h++List.replicate ops.size .void) []) (hk:∀s' h',P s' h'→N C cf R k s' h'):W C cf R (.region id ops true) k s h:=
 W_mixed id ops hm ht (MX_mono (fun _ _ _ a=>⟨a.1,hk _ _ a.2⟩) _ _ _ _ _ hx)
def termsOf (c:Cl):List T:=c.head.terms++allTerms c.body
def NI56 (c:Cl) (n:Nat) (st:PT) (h:H):Prop:=∃k:Nat,n=c.body.length-k∧k≤c.body.length∧st.get 1=.ptr 0 0∧st.get 4=.int .i64 k∧h[0]?=some (.cells (clC c) .live)∧OwnR 25 h (st.get 3) ((c.head.terms++allTerms (c.body.take k)).map enc)
theorem ld23h {h:H}{i:Nat}{c:Cl}(hi:h[i]?=some (.cells (clC c) .live)):loadV C.P h 23 (.ptr i 3)=some (terms c.head.terms):=by simp[loadV,hi,cellsAt,a23,s23,clC,faC,terms]
theorem fa35_2i (e:AV):fieldAddrV C.P 35 (.iptr e 0) 2=some (.iptr e 2):=by kernel_rfl
theorem ld23fi (f:Fa) (h:H):loadV C.P h 23 (.iptr (encFa f) 2)=some (terms f.terms):=by simp[loadV,cellsAt,a23,s23,encFa,faC,cells_agg,terms]
theorem build23_0 (h:H):buildSliceV C.P h 23 0 []=some (.isl [] .full,h):=buildSlice_dats u23 s25 z25 rfl (by omega) rfl rfl rfl (by simp) rfl
theorem build33_0 (h:H):buildSliceV C.P h 33 0 []=some (.isl [] .full,h):=buildSlice_dats u33 s35 z35 rfl (by omega) rfl rfl rfl (by simp) rfl
set_option maxRecDepth 8000 in
set_option maxHeartbeats 4000000 in
theorem terms56 (c:Cl) (hl:(termsOf c).length<4000000) (hb:c.body.length<4000000):CallP C 56 [encCl c]=some (terms (termsOf c)):=by
 refine CallP_W rfl Tryz.func56 rfl (by kernel_rfl) (by simp[Tryz.f56]) fun R hR=>?_
 obtain ⟨h0,eh0⟩:∃g:H,g=[.cells (clC c) .live,.tok 0 25]:=⟨_,rfl⟩
 have m0:h0[0]?=some (.cells (clC c) .live):=by rw[eh0];rfl
 have l0:=ld23h m0
 have hln:=len33f c.body
 simp only[termsOf,List.length_append] at hl
 obtain ⟨v1,h1,a1,o1,k1,_⟩:=append23 (h:=h0) (v:=.isl [] .full) (xs:=[]) (ys:=c.head.terms) (x:=.unk) (.inl rfl) (by simp;omega)
 change appendW C.P false h0 23 _ (terms c.head.terms)=_ at a1
 simp[go_sem,box37]
 rw[←eh0]
 simp[go_sem,build23_0,l0,a1]
 refine W_loop (NI56 c) c.body.length ⟨0,rfl,Nat.zero_le _,by simp[go_sem],by simp[go_sem],k1.get m0 (by simp[idOf]),by simpa [go_sem,allTerms] using o1⟩ ?_
 clear m0 l0 a1 o1 k1 eh0
 rintro n st h ⟨k,rfl,hk,g1,g4,m0,go⟩
 have l0:=ld33c m0
 obtain ⟨v3,e3⟩:∃v,v=st.get 3:=⟨_,rfl⟩
 rw[←e3] at go
 by_cases hlt:k<c.body.length
 ·have hlt':(k:Int)<c.body.length:=by omega
  have hix:indexAddrV C.P 33 (factsV c.body) (.int .i64 k)=some (.iptr (encFa c.body[k]) 0):=idx33 c.body k hlt .unk
  have w2:IntKind.i64.wrap ((k:Int)+1)=((k+1:Nat):Int):=by rw[wrap_in (by omega)];omega
  have htl:=allTerms_le c.body (k+1)
  rw[allTerms_take hlt,List.length_append] at htl
  obtain ⟨v',h',ha,ho,hkp,_⟩:=append23 (ys:=c.body[k].terms) (x:=.unk) go (by simp only[List.length_append];omega)
  rw[List.append_assoc,←allTerms_take hlt] at ho
  change appendW C.P false h 23 v3 (terms c.body[k].terms)=some (v',h') at ha
  have m0':=hkp.get m0 (own_not go m0)
  simp[go_sem,g1,g4,←e3,l0,hln,hlt',hix,fa35_2i,ld23fi,ha,-Int.natCast_add,w2]
  exact ⟨c.body.length-(k+1),by omega,k+1,rfl,hlt,by simp[go_sem,g1],by simp[go_sem],m0',by simpa [go_sem] using ho⟩
 ·have:k=c.body.length:=by omega
  subst this
  rw[List.take_length] at go
  obtain ⟨x,hx⟩:=go.isl
  simp[go_sem,g1,g4,←e3,l0,hln,hx]
  exact hR _ _ _ (.inr rfl) ⟨.isl ((termsOf c).map enc) x,by simp[resultV,resV,Tryz.f56,go_sem,termsOf],snap_dat rfl rfl⟩
theorem call56 (c:Cl) (hl:(termsOf c).length<4000000) (hb:c.body.length<4000000) (h:H):callV C h (.func 56 []) (some [encCl c])=some (terms (termsOf c),h):=callV_strip (by kernel_rfl) rfl (dat_cl c) (by simp[short_cl]) (by simp) (terms56 c hl hb)
def shortF:List Fa→Bool
 | []=>true
 | f::l=>if 12<f.terms.length then false else shortF l
def fewCl (c:Cl) (n:Int):Bool:=if 14<c.body.length then false else if shortF (factsOf c)=false then false else fewT (termsOf c) 200 n
theorem appV0 (h:H) (a:Fa) (l:List Fa) (x:Ext) (hl:(a::l).length≤10000):appendW C.P false h 33 (.isl [] .full) (.isl ((a::l).map encFa) x)=some (.isl ((a::l).map encFa) (.tok h.length),h++[.tok (a::l).length 35]):=by
 have hsz:=szOk_encFa (a::l)
 have hl2:((a::l).map encFa).length*(40+1)≤35184372088832:=by simp only[List.length_map];omega
 generalize e:(a::l).map encFa=es at hsz hl2
 have hn:es≠[]:=by rw[←e];simp
 have hel:es.length=(a::l).length:=by rw[←e];simp
 have h0:szOk 3 []=true:=rfl
 simp only[appendW_false,appendV,u33,s35,b35,elemsV,z35,hsz,h0]
 cases es with
 | nil=>exact absurd rfl hn
 | cons y ys=>
  rw[←hel]
  simp only[List.length_nil,Nat.zero_add,List.nil_append]
  rw[if_neg (by simp),if_neg (by simp),if_neg (by simpa using hl2)]
theorem appV0n (h:H) (x:Ext):appendW C.P false h 33 (.isl [] .full) (.isl [] x)=some (.isl [] .full,h):=by
 have h0:szOk 3 []=true:=rfl
 simp only[appendW_false,appendV,u33,s35,b35,elemsV,z35,h0]
 rfl
theorem appV1 {h:H}{i:Nat}(l:List Fa) (f:Fa) (hi:h[i]?=some (.tok l.length 35)) (hl:l.length≤10000):appendW C.P false h 33 (.isl (l.map encFa) (.tok i)) (.isl [encFa f] .full)=some (.isl ((l++[f]).map encFa) (.tok i),h.set i (.tok (l.length+1) 35)):=by
 have h1:=szOk_encFa l
 have h2:=szOk_encFa [f]
 simp only[List.map_cons,List.map_nil] at h2
 simp only[appendW_false,appendV,u33,s35,b35,elemsV,z35,h1,h2,List.length_map,List.length_cons,List.length_nil,hi]
 rw[if_neg (by simp),if_neg (by simp),if_neg (by simp;omega),if_pos ⟨trivial,trivial⟩]
 simp
def NI34 (c:Cl) (n:Int) (m:Nat) (st:PT) (h:H):Prop:=∃k:Nat,m=(factsOf c).length-k∧k≤(factsOf c).length∧st.get 1=.int .i64 n∧st.get 2=.ptr 0 0∧st.get 6=.int .i64 k∧(∃x,st.get 5=.isl ((factsOf c).map encFa) x)∧h[0]?=some (.cells (clC c) .live)∧shortF (factsOf c)=shortF ((factsOf c).drop k)
theorem shortF_len {l:List Fa}(h:shortF l=true):∀f∈l,f.terms.length≤12:=by
 induction l with
 | nil=>intro f hf;simp at hf
 | cons a l ih=>
  rw[shortF] at h
  split at h
  ·cases h
  ·intro f hf
   rcases List.mem_cons.1 hf with rfl | hf
   ·omega
   ·exact ih h f hf
theorem allTerms_short {l:List Fa}(h:∀f∈l,f.terms.length≤12):(allTerms l).length≤12*l.length:=by
 induction l with
 | nil=>simp[allTerms]
 | cons a l ih=>
  have h1:=h a (by simp)
  have h2:=ih fun f hf=>h f (by simp[hf])
  simp only[allTerms,List.flatMap_cons,List.length_append,List.length_cons] at h2 ⊢;omega
set_option maxRecDepth 8000 in
set_option maxHeartbeats 4000000 in
theorem few34 (c:Cl) (n:Int) (hn:n<4000000) (hn0:0≤n):CallP C 34 [encCl c,.int .i64 n]=some (.bool (fewCl c n)):=by
 refine CallP_W rfl Tryz.func34 rfl (by kernel_rfl) (by simp[Tryz.f34]) fun R hR=>?_
 have fin:∀(st:PT) (h:H) (b:Bool),st.get 4=.bool b→fewCl c n=b→R .ret st h:=fun st h e h2 he=>hR _ _ _ (.inr rfl) ⟨.bool e,by simp[resultV,resV,Tryz.f34,h2],by rw[he];exact snap_dat rfl rfl⟩
 have m0:([.cells (clC c) .live]:H)[0]?=some (.cells (clC c) .live):=rfl
 have l0:=ld33c m0
 have hln:=len33f c.body
 by_cases h14:14<c.body.length
 ·have h14':(14:Int)<c.body.length:=by omega
  simp[go_sem,initS,box37,l0,hln,h14']
  exact fin _ _ false (by simp[go_sem]) (by rw[fewCl,if_pos h14])
 have h14':¬(14:Int)<c.body.length:=by omega
 have hfe:fewCl c n=if shortF (factsOf c)=false then false else fewT (termsOf c) 200 n:=by rw[fewCl,if_neg h14]
 simp[go_sem,box37,l0,hln,h14']
 refine W_mixedP 3 _ (fun st h=>st.get 1=.int .i64 n∧st.get 2=.ptr 0 0∧(∃x,st.get 5=.isl ((factsOf c).map encFa) x)∧h[0]?=some (.cells (clC c) .live)) (by rw[mixC];decide) (by kernel_rfl) ?_ ?_
 rotate_left
 ·clear m0 l0
  rintro st h ⟨g1,g2,g5,m0⟩
  have hfl:(factsOf c).length≤15:=by simp[factsOf];omega
  simp[go_sem]
  refine W_loop (NI34 c n) (factsOf c).length ⟨0,rfl,Nat.zero_le _,by simp[go_sem,g1],by simp[go_sem,g2],by simp[go_sem],by simpa [go_sem] using g5,m0,rfl⟩ ?_
  clear g1 g2 g5 m0
  rintro m st h ⟨k,rfl,hk,g1,g2,g6,⟨x,g5⟩,m0,hd⟩
  have hlnx:lenV C.P 33 (.isl ((factsOf c).map encFa) x)=some (.int .i64 (factsOf c).length):=by simp[len33]
  by_cases hlt:k<(factsOf c).length
  ·have hlt':(k:Int)<(factsOf c).length:=by omega
   have hix:indexAddrV C.P 33 (.isl ((factsOf c).map encFa) x) (.int .i64 k)=some (.iptr (encFa (factsOf c)[k]) 0):=idx33 (factsOf c) k hlt x
   have w2:IntKind.i64.wrap ((k:Int)+1)=((k+1:Nat):Int):=by rw[wrap_in (by omega)];omega
   have lt:=ld23fi (factsOf c)[k] h
   have ln:=len23t (factsOf c)[k].terms
   rw[List.drop_eq_getElem_cons hlt,shortF] at hd
   generalize (factsOf c)[k]=f at hix lt ln hd
   by_cases hz:12<f.terms.length
   ·have hz':(12:Int)<f.terms.length:=by omega
    rw[if_pos hz] at hd
    simp[go_sem,g5,g6,hlnx,hlt',hix,fa35_2i,lt,ln,hz']
    exact fin _ _ false (by simp[go_sem]) (by rw[hfe,if_pos hd])
   ·have hz':¬(12:Int)<f.terms.length:=by omega
    rw[if_neg hz] at hd
    simp[go_sem,g5,g6,hlnx,hlt',hix,fa35_2i,lt,ln,hz',-Int.natCast_add,w2]
    exact ⟨(factsOf c).length-(k+1),by omega,k+1,rfl,hlt,by simp[go_sem,g1],by simp[go_sem,g2],by simp[go_sem],⟨x,by simp[go_sem,g5]⟩,m0,hd⟩
  ·have:k=(factsOf c).length:=by omega
   subst this
   rw[List.drop_length,shortF] at hd
   have hsh:=shortF_len hd
   have htl:(termsOf c).length≤4000:=by
    have h1:=allTerms_short (l:=c.body) fun f hf=>hsh f (by simp[factsOf,hf])
    have h2:=hsh c.head (by simp[factsOf])
    simp only[termsOf,List.length_append];omega
   have l1:=ld37c m0
   have c1:=call56 c (by omega) (by omega)
   have c2:=call9' (termsOf c) .unk 200 n hn hn0
   change ∀h,callV C h (.func 9 []) (some [terms (termsOf c),.int .i64 200,.int .i64 n])=_ at c2
   simp[go_sem,g1,g2,g5,g6,hlnx,l1,c1,c2]
   exact fin _ _ _ (by simp[go_sem];rfl) (by rw[hfe,hd];simp)
 show MX C 34 _ 1 _ 0 _ _ _ _
 generalize hH0:[VObj.cells (clC c) .live]++List.replicate _ VObj.void=H0
 have pl:Pl [.cells (clC c) .live] H0 9:=hH0▸Pl.mk' _ 9
 have hlen:=pl.len
 clear hH0
 have p0:H0[0]?=some (.cells (clC c) .live):=pl.get rfl
 have q0:=ld33c p0
 have q1:=ld35c p0
 simp only[List.length_cons,List.length_nil,Nat.zero_add] at hlen pl
 refine MX_build (parts:=[]) [] (.isl [] .full) rfl rfl (build33_0 _) (pl.isV (i:=0) (by decide)) ?_
 refine MX_pure (.ptr 0 0) rfl rfl (pl.isV (i:=1) (by decide)) (by simp[opN,go_sem]) (ptr_mv' (by omega)) ?_
 refine MX_load (.ptr 0 0) (factsV c.body) (by simp[go_sem]) q0 (lids_no (by simp)) (pl.isV (i:=2) (by decide)) rfl ?_
 rcases c with ⟨body,head⟩
 cases body with
 | nil=>
  refine MX_append (.isl [] .full) (factsV []) _ H0 H0 (by simp[go_sem];rfl) (by simp[go_sem]) (by rw[wrC];exact appV0n H0 .unk) (by omega) rfl (pl.isV (i:=3) (by decide)) (fin_none _ _) ?_
  refine MX_pure (.ptr 0 1) rfl rfl (pl.isV (i:=4) (by decide)) (by simp[opN,go_sem]) (ptr_mv' (by omega)) ?_
  refine MX_load (.ptr 0 1) (encFa head) (by simp[go_sem]) q1 (lids_no (by simp)) (pl.isV (i:=5) (by decide)) rfl ?_
  refine MX_build (parts:=[(0,.tmp 16)]) [(0,encFa head)] (.isl [encFa head] .full) (parts1 (by simp[go_sem]) rfl) (reachs_fa _ _) (build33_1 _ _) (pl.isV (i:=6) (by decide)) ?_
  refine MX_append (.isl [] .full) (.isl [encFa head] .full) _ _ _ (by simp[go_sem];rfl) (by simp[go_sem];rfl) (by rw[wrC];exact appV0 H0 head [] .full (by simp)) (by simp) rfl (pl.isV (i:=7) (by decide)) (fin_push (by omega)) ?_
  refine MX_pure (.isl [encFa head] (.tok 8)) rfl rfl ?_ (by simp[opN,go_sem,AV.mv]) (by simp[AV.mv,hlen]) ?_
  ·rw[List.getElem?_set_ne (by simp)];exact pl.isV (i:=8) (by decide)
  exact ⟨by kernel_rfl,by simp[go_sem],by simp[go_sem],⟨_,by simp[go_sem,factsOf];rfl⟩,by rw[List.getElem?_set_ne (by simp)];exact p0⟩
 | cons a l=>
  have hc:=appV0 H0 a l .unk (by simp at h14 ⊢;omega)
  refine MX_append (.isl [] .full) (factsV (a::l)) _ _ _ (by simp[go_sem];rfl) (by simp[go_sem]) (by rw[wrC];exact hc) (by simp) rfl (pl.isV (i:=3) (by decide)) (fin_push (by omega)) ?_
  rw[show (AV.isl ((a::l).map encFa) (.tok H0.length)).mv H0.length (1+3)=.isl ((a::l).map encFa) (.tok 4) by simp[AV.mv]]
  obtain ⟨H1,eH1⟩:∃g,g=H0.set (1+3) (VObj.mv H0.length (1+3) (.tok (a::l).length 35)):=⟨_,rfl⟩
  have hH1:H1[4]?=some (.tok (a::l).length 35):=by rw[eH1];simp[hlen,VObj.mv]
  have hlen1:H1.length=10:=by rw[eH1];simp[hlen]
  have hv:∀i,i<9→i≠3→isVoid H1[1+i]?=true:=fun i hi hn=>by rw[eH1];exact isV_set (pl.isV hi) (by omega)
  have p1:H1[0]?=some (.cells (clC ⟨a::l,head⟩) .live):=by rw[eH1,List.getElem?_set_ne (by simp)];exact p0
  have q1':=ld35c p1
  rw[←eH1]
  refine MX_pure (.ptr 0 1) rfl rfl (hv 4 (by decide) (by decide)) (by simp[opN,go_sem]) (ptr_mv' (by omega)) ?_
  refine MX_load (.ptr 0 1) (encFa head) (by simp[go_sem]) q1' (lids_no (by simp)) (hv 5 (by decide) (by decide)) rfl ?_
  refine MX_build (parts:=[(0,.tmp 16)]) [(0,encFa head)] (.isl [encFa head] .full) (parts1 (by simp[go_sem]) rfl) (reachs_fa _ _) (build33_1 _ _) (hv 6 (by decide) (by decide)) ?_
  refine MX_append (.isl ((a::l).map encFa) (.tok 4)) (.isl [encFa head] .full) _ _ _ (by simp[go_sem]) (by simp[go_sem];rfl) (by rw[wrC];exact appV1 (a::l) head hH1 (by simp at h14 ⊢;omega)) (by simp) (by simp[mslId,tokId]) (hv 7 (by decide) (by decide)) (fin_store (by simp)) ?_
  refine MX_pure (.isl ((a::l++[head]).map encFa) (.tok 4)) rfl rfl ?_ (by simp[opN,go_sem,AV.mv,hlen1]) (by simp[AV.mv,hlen1]) ?_
  ·rw[List.getElem?_set_ne (by simp)];exact hv 8 (by decide) (by decide)
  refine ⟨by simp[lids,mslId,tokId];kernel_rfl,by simp[go_sem],by simp[go_sem],⟨_,by simp[go_sem,factsOf];rfl⟩,?_⟩
  rw[List.getElem?_set_ne (by simp)];exact p1
theorem call34 (c:Cl) (n:Int) (hn:n<4000000) (hn0:0≤n) (h:H):callV C h (.func 34 []) (some [encCl c,.int .i64 n])=some (.bool (fewCl c n),h):=callV_strip (by kernel_rfl) rfl (args':=[encCl c,.int .i64 n]) rfl (by simp[short_cl,short_int]) (by simp) (few34 c n hn hn0)
end Go.VZ

/- Rows of clauses, inferences: their form, the law's guards, the copies. -/
namespace Go.VZ
open Go Go.V Go.Proofs TL
def clsV (l:List Cl):AV:=.isl (l.map encCl) .unk
theorem u22:C.P.underlying 22=some (.slice 37):=Tryz.underlying22
theorem b37:bytesV C.P 37=some 64:=by kernel_rfl
theorem z37:zeroOk C.P 37=true:=by kernel_rfl
theorem is22:isSliceT C.P 22=some 37:=by kernel_rfl
theorem is42:isSliceT C.P 42=some 49:=by kernel_rfl
attribute [go_sem] is22 is42
theorem len22 (l:List Cl) (x:Ext):lenV C.P 22 (.isl (l.map encCl) x)=some (.int .i64 l.length):=by simp[lenV,u22]
theorem len22c (l:List Cl):lenV C.P 22 (clsV l)=some (.int .i64 l.length):=len22 l _
theorem len46b (l:List (T × T)):lenV C.P 46 (binds l)=some (.int .i64 l.length):=by simp[binds,len46]
theorem idx22 (l:List Cl) (k:Nat) (hk:k<l.length):indexAddrV C.P 22 (clsV l) (.int .i64 k)=some (.iptr (encCl l[k]) 0):=by
 simp[clsV,indexAddrV,u22,s37,encCl,clC,faC,cells_agg,hk]
theorem ld37i (c:Cl) (h:H):loadV C.P h 37 (.iptr (encCl c) 0)=some (encCl c):=by simp[loadV,cellsAt,a37,s37,encCl,clC,faC,cells_agg]
theorem fa49_0 (i:Nat):fieldAddrV C.P 49 (.ptr i 0) 0=some (.ptr i 0):=by kernel_rfl
theorem fa49_1 (i:Nat):fieldAddrV C.P 49 (.ptr i 0) 1=some (.ptr i 1):=by kernel_rfl
theorem fa49_2 (i:Nat):fieldAddrV C.P 49 (.ptr i 0) 2=some (.ptr i 2):=by kernel_rfl
theorem fa49_3 (i:Nat):fieldAddrV C.P 49 (.ptr i 0) 3=some (.ptr i 3):=by kernel_rfl
def fewCs (l:List Cl) (c n:Int):Bool:=decide ((l.length:Int)≤c)&&l.all fun x=>fewCl x n
def NI28 (l:List Cl) (n:Int) (m:Nat) (st:PT) (_h:H):Prop:=∃k:Nat,m=l.length-k∧k≤l.length∧st.get 0=clsV l∧st.get 2=.int .i64 n∧st.get 7=.int .i64 k∧(l.all fun x=>fewCl x n)=((l.drop k).all fun x=>fewCl x n)
set_option maxRecDepth 8000 in
set_option maxHeartbeats 4000000 in
theorem few28 (l:List Cl) (c n:Int) (hn:n<4000000) (hn0:0≤n) (hc:c<4000000):CallP C 28 [clsV l,.int .i64 c,.int .i64 n]=some (.bool (fewCs l c n)):=by
 refine CallP_W rfl Tryz.func28 rfl (by kernel_rfl) (by simp[Tryz.f28]) fun R hR=>?_
 have fin:∀(st:PT) (h:H) (b:Bool),st.get 6=.bool b→fewCs l c n=b→R .ret st h:=fun st h e h2 he=>hR _ _ _ (.inr rfl) ⟨.bool e,by simp[resultV,resV,Tryz.f28,h2],by rw[he];exact snap_dat rfl rfl⟩
 have hln:=len22c l
 by_cases h1:c<l.length
 ·simp[go_sem,initS,hln,h1]
  exact fin _ _ false (by simp[go_sem]) (by rw[fewCs,decide_eq_false (by omega),Bool.false_and])
 have he:fewCs l c n=l.all fun x=>fewCl x n:=by rw[fewCs,decide_eq_true (by omega),Bool.true_and]
 simp[go_sem,hln,h1]
 refine W_loop (NI28 l n) l.length ⟨0,rfl,Nat.zero_le _,by simp[go_sem],by simp[go_sem],by simp[go_sem],rfl⟩ ?_
 rintro m st h ⟨k,rfl,hk,g0,g2,g7,hd⟩
 by_cases hlt:k<l.length
 ·have hlt':(k:Int)<l.length:=by omega
  have hix:=idx22 l k hlt
  have w2:IntKind.i64.wrap ((k:Int)+1)=((k+1:Nat):Int):=by rw[wrap_in (by omega)];omega
  have l37:=ld37i l[k]
  have c1:=call34 l[k] n hn hn0
  rw[List.drop_eq_getElem_cons hlt,List.all_cons] at hd
  by_cases hz:fewCl l[k] n=true
  ·rw[hz,Bool.true_and] at hd
   simp[go_sem,g0,g2,g7,hln,hlt',hix,l37,c1,hz,-Int.natCast_add,w2]
   exact ⟨l.length-(k+1),by omega,k+1,rfl,hlt,by simp[go_sem,g0],by simp[go_sem,g2],by simp[go_sem],hd⟩
  ·have hz':fewCl l[k] n=false:=by simpa using hz
   rw[hz',Bool.false_and] at hd
   simp[go_sem,g0,g2,g7,hln,hlt',hix,l37,c1,hz']
   exact fin _ _ false (by simp[go_sem]) (by rw[he,hd])
 ·have:k=l.length:=by omega
  subst this
  rw[List.drop_length,List.all_nil] at hd
  simp[go_sem,g0,g7,hln]
  exact fin _ _ true (by simp[go_sem]) (by rw[he,hd])
theorem call28 (l:List Cl) (c n:Int) (hn:n<4000000) (hn0:0≤n) (hc:c<4000000) (h:H):callV C h (.func 28 []) (some [clsV l,.int .i64 c,.int .i64 n])=some (.bool (fewCs l c n),h):=callV_strip (by kernel_rfl) rfl (args':=[clsV l,.int .i64 c,.int .i64 n]) rfl (by simp[short_int];rfl) (by simp) (few28 l c n hn hn0 hc)
theorem few8 (l:List Cl):CallP C 8 [clsV l]=some (.bool (fewCs l 12 60)):=by
 refine CallP_W rfl Tryz.func8 rfl (by kernel_rfl) (by simp[Tryz.f8]) fun R hR=>?_
 have c1:=call28 l 12 60 (by omega) (by omega) (by omega)
 simp[go_sem,initS,c1]
 exact hR _ _ _ (.inr rfl) ⟨.bool (fewCs l 12 60),by simp[resultV,resV,Tryz.f8,go_sem],snap_dat rfl rfl⟩
theorem call8 (l:List Cl) (h:H):callV C h (.func 8 []) (some [clsV l])=some (.bool (fewCs l 12 60),h):=callV_strip (by kernel_rfl) rfl (args':=[clsV l]) rfl rfl (by simp) (few8 l)
theorem bld37 (f:Fa):buildV C.P 37 [(1,encFa f)]=some (.agg (.isl [] .full::faC f)):=by
 have e:buildV C.P 37 [(1,.agg [.int .i64 f.kind,.int .i64 f.goal,.isl (f.terms.map enc) .unk])]=some (.agg [.isl [] .full,.int .i64 f.kind,.int .i64 f.goal,.isl (f.terms.map enc) .unk]):=by kernel_rfl
 exact e
theorem call34f (f:Fa) (n:Int) (hn:n<4000000) (hn0:0≤n) (h:H):callV C h (.func 34 []) (some [.agg (.isl [] .full::faC f),.int .i64 n])=some (.bool (fewCl ⟨[],f⟩ n),h):=callV_strip (by kernel_rfl) rfl (args':=[encCl ⟨[],f⟩,.int .i64 n]) rfl (by simp[short_int];rfl) (by simp) (few34 ⟨[],f⟩ n hn hn0)
end Go.VZ

/- Facts compared, both ways. -/
namespace Go.VZ
open Go Go.V Go.Proofs TL
def NI115b (l m:List T) (n:Nat) (s:PT) (_h:H):Prop:=∃k:Nat,n=l.length-k∧k≤l.length∧s.get 1=terms m∧s.get 2=.func 62 []∧s.get 15=terms l∧s.get 16=.int .i64 l.length∧s.get 17=.int .i64 k∧(l.drop k=m.drop k↔l=m)
set_option maxRecDepth 8000 in
set_option maxHeartbeats 2000000 in
theorem eqf115b (l m:List T) (hl:smallT l) (hm:smallT m):CallP C 115 [terms l,terms m,.func 62 []]=some (.bool (decide (l=m))):=by
 refine CallP_W rfl Tryz.func115 rfl (by kernel_rfl) (by simp[Tryz.f115]) fun R hR=>?_
 by_cases he:l.length=m.length
 ·have he':(l.length:Int)=m.length:=by omega
  simp[go_sem,terms,len23,he']
  refine W_loop (NI115b l m) l.length ⟨0,rfl,Nat.zero_le _,by simp[go_sem,terms],by simp[go_sem],by simp[go_sem,terms],by simp[go_sem,he'],by simp[go_sem],by simp⟩ ?_
  rintro n s h ⟨k,rfl,hk,g1,g2,g15,g16,g17,hd⟩
  have hln:=hl.1
  simp only[terms] at g1 g15
  by_cases hlt:k<l.length
  ·have hlt':(k:Int)<l.length:=by omega
   have hltb:k<m.length:=by omega
   have hix:=idx23 l k hlt .unk
   have hiy:=idx23 m k hltb .unk
   have ck:=call62 l[k] m[k] (hl.2 _ (List.getElem_mem hlt)) (hm.2 _ (List.getElem_mem hltb))
   have w2:IntKind.i64.wrap ((k:Int)+1)=((k+1:Nat):Int):=by rw[wrap_in (by omega)];omega
   rw[List.drop_eq_getElem_cons hlt,List.drop_eq_getElem_cons hltb,List.cons.injEq] at hd
   obtain ⟨h2,eh2⟩:∃g,g=h++[.cells (enc l[k]).cells .live]:=⟨_,rfl⟩
   have e4:=st25z l[k] h
   rw[←eh2] at e4
   have e5:=st25z m[k] h2
   have e6:=ldb25z m[k] h2
   have e7:loadV C.P (h2++[.cells (enc m[k]).cells .live]) 25 (.ptr h.length 0)=some (enc l[k]):=by
    have q:=ldb25z l[k] h
    rw[←eh2] at q
    have hlen:h.length<h2.length:=by rw[eh2];simp
    simp only[loadV] at q ⊢
    rw[List.getElem?_append_left hlen];exact q
   by_cases hz:l[k].cmp m[k]=0
   ·simp[go_sem,g1,g2,g15,g16,g17,hlt',hix,hiy,ld25,e4,e5,e6,e7,ck,hz,-Int.natCast_add,w2]
    rw[cmp_zero] at hz
    exact ⟨l.length-(k+1),by omega,k+1,rfl,hlt,by simp[go_sem,g1,terms],by simp[go_sem,g2],by simp[go_sem,g15,terms],by simp[go_sem,g16],by simp[go_sem],by rw[←hd];exact ⟨fun e=>⟨hz,e⟩,fun e=>e.2⟩⟩
   ·simp[go_sem,g1,g2,g15,g16,g17,hlt',hix,hiy,ld25,e4,e5,e6,e7,ck,hz]
    have hne:l≠m:=fun e=>hz (cmp_zero.mpr (hd.mpr e).1)
    refine hR _ _ _ (.inr rfl) ⟨.bool (decide (l=m)),by simp[resultV,resV,Tryz.f115,go_sem,hne],snap_dat rfl rfl⟩
  ·have:k=l.length:=by omega
   subst this
   rw[List.drop_length,he,List.drop_length] at hd
   have e:=hd.mp rfl
   simp[go_sem,g16,g17]
   refine hR _ _ _ (.inr rfl) ⟨.bool (decide (l=m)),by simp[resultV,resV,Tryz.f115,go_sem,e],snap_dat rfl rfl⟩
 ·have he':¬(l.length:Int)=m.length:=by omega
  simp[go_sem,initS,terms,len23,he']
  have hne:l≠m:=fun e=>he (by rw[e])
  refine hR _ _ _ (.inr rfl) ⟨.bool (decide (l=m)),by simp[resultV,resV,Tryz.f115,go_sem,hne],snap_dat rfl rfl⟩
theorem call115b (l m:List T) (hl:smallT l) (hm:smallT m) (h:H):callV C h (.func 115 []) (some [terms l,terms m,.func 62 []])=some (.bool (decide (l=m)),h):=callV_strip (by kernel_rfl) rfl rfl (by simp[short_terms,short_func]) (by simp) (eqf115b l m hl hm)
end Go.VZ
