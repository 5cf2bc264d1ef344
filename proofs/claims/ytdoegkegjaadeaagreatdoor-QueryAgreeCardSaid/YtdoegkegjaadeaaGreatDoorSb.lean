/- Put, the program's way. -/
import Derived.Test.YtdoegkegjaadeaaGreatDoorSa
import Derived.ChangeArms
import Derived.Test.YtdoegkegjaadeaaGreatDoorRows
namespace Go.VZ
open Go Go.V Go.Proofs TL
def Row2 (h:H) (v:AV) (l:List T):Prop:=(l=[]∧v=.isl [] .full)∨(v=.msl 2 0 4 l.length none∧h[2]?=some (.cells (cellsT l) .live))
theorem Row2.row {h:H}{v:AV}{l:List T}(r:Row2 h v l):Row h v l:=r.elim .inl fun e=>.inr ⟨2,e⟩
end Go.VZ

/- Apply, both ways. -/
namespace Go.VZ
open Go Go.V Go.Proofs TL
theorem nodes_zero {t:T}(h:validE t=0):nodesE t=0∧t.size≤400∧t.depth≤40:=by
 unfold validE at h
 obtain ⟨h1,h2⟩:=thn_zero.1 h
 split at h2
 ·cases h2
 ·exact ⟨h1,by omega,by omega⟩
theorem getB_mem:∀(l:List (T × T)) (t:T),getB l t=t∨∃b∈l,getB l t=b.2
 | [],_=>.inl rfl
 | b::l,t=>by
  rw[getB]
  split
  ·exact .inr ⟨b,by simp,rfl⟩
  ·rcases getB_mem l t with h | ⟨c,hc,h⟩
   ·exact .inl h
   ·exact .inr ⟨c,by simp[hc],h⟩
theorem putB_size (l:List (T × T)) (hl:∀b∈l,b.2.size≤400) (t:T):(putB l t).size≤400*t.size:=by
 induction t using T.ind with
 | _ t ih=>
  have h0:=size_kids t
  rw[putB_eq]
  split
  ·rcases getB_mem l t with h | ⟨b,hb,h⟩
   ·rw[h];omega
   ·rw[h];have:=hl b hb;omega
  ·rw[size_kids]
   show sizes (t.kids.map (putB l))+1≤_
   have:∀m:List T,(∀k∈m,(putB l k).size≤400*k.size)→sizes (m.map (putB l))≤400*sizes m:=by
    intro m
    induction m with
    | nil=>intro _;simp[sizes]
    | cons a m ihm=>
     intro hm
     have h1:=hm a (by simp)
     have h2:=ihm fun k hk=>hm k (by simp[hk])
     rw[List.map_cons,sizes,sizes];omega
   have:=this t.kids ih
   omega
@[go_sem] theorem OWbuild {C:Cfg}{cf:FuncId}{ops:Array Oper}{d:Tmp}{ty:TypeId}{p:String}{af:Array Edge}{l:List Oper}{s:PT}{h:H}{K:PT→H→Prop}(t:TypeId) (parts:List (Nat × Operand)) :
  OW C cf ops (⟨some d,.build t parts.toArray,ty,p,af,none⟩::l) s h K↔bO (bi1 (partsV s parts) (buildV C.P t)) fun v=>OW C cf ops l (s.set d v) h K:=OWn (by simp only[opN,bi1];cases partsV s parts<;>rfl) rfl rfl
end Go.VZ

/- Slices that came in, as the reading tells of them: a row of values of the value machine. -/
namespace Go.VZ
open Go Go.V Go.Proofs TL
abbrev uBulk {H:Type}(d:DataW H):Nat:=YtdoegkegjaadeaaGreatDoor.Rows.uptoBulk d
abbrev uBulks {H:Type}(l:List (DataW H)):Nat:=YtdoegkegjaadeaaGreatDoor.Rows.uptoBulkAll l
theorem ex_list {α:Type}{p:Nat→α→Prop}:∀n,(∀i,i<n→∃a,p i a)→∃l:List α,l.length=n∧∀i a,l[i]?=some a→p i a
 | 0,_=>⟨[],rfl,fun i a h=>by simp at h⟩
 | n+1,h=>by
  obtain ⟨l,h1,h2⟩:=ex_list n fun i hi=>h i (by omega)
  obtain ⟨a,ha⟩:=h n (by omega)
  refine ⟨l++[a],by simp[h1],fun i b hb=>?_⟩
  by_cases hi:i<n
  ·rw[List.getElem?_append_left (by omega)] at hb;exact h2 i b hb
  ·rw[List.getElem?_append_right (by omega)] at hb
   have:i=n:=by
    have:=(List.getElem?_eq_some_iff.1 hb).1
    simp at this;omega
   subst this
   simp[h1] at hb;subst hb;exact ha
theorem cells_of {w:World}{a:Addr}{n:Nat}{cs:List Value}(h:w.cells? 0 a n=some cs):cs.length=n∧∀j u,cs[j]?=some u→w.cell? (a.add j)=some u:=by
 unfold World.cells? at h
 rw[if_pos (Nat.zero_le _)] at h
 have hl:cs.length=n:=by have:=mapM_some_length h;rwa [List.length_range] at this
 refine ⟨hl,fun j u hu=>?_⟩
 have hj:=(List.getElem?_eq_some_iff.1 hu).1
 have:=mapM_some_get h j j (by rw[List.getElem?_range (by omega)])
 rw[this];exact hu
theorem sum_bulk {H α:Type}{sz:α→Nat}:∀(l:List α) (ds:List (DataW H)),l.length=ds.length→(∀(i:Nat) a d,l[i]?=some a→ds[i]?=some d→sz a≤uBulk d)→(l.map sz).sum≤uBulks ds
 | [],_,_,_=>by simp
 | a::l,[],h,_=>by simp at h
 | a::l,d::ds,h,hs=>by
  have:=sum_bulk l ds (by simpa using h) fun i a d h1 h2=>hs (i+1) a d (by simpa using h1) (by simpa using h2)
  have h0:=hs 0 a d rfl rfl
  simp only[List.map_cons,List.sum_cons,uBulks,uBulk,YtdoegkegjaadeaaGreatDoor.Rows.uptoBulkAll] at this h0 ⊢
  omega
theorem addr_cell {w:World}{b o i j:Nat}{u:Value}(h:w.cell? (Addr.add (Addr.add ⟨b,o,none⟩ i) j)=some u):w.cell? ⟨b,o+i+j,none⟩=some u:=by
 rw[←h]
 congr 1
 unfold Addr.add
 split<;>split<;>simp_all
theorem addr_zero {w:World}{b o:Nat}{z}{u:Value}(h:w.cell? (Addr.add (Addr.add ⟨b,o,z⟩ 0) 0)=some u):z=none:=by
 cases z with
 | none=>rfl
 | some z=>
  exfalso
  simp[World.cell?,Addr.add] at h
  split at h<;>cases h
theorem dec_slice {H:Type}{enc:TypeId × Value→H}{P:Program}{w:World}{α:Type}{toV:α→AV}{sz:α→Nat}{t e:TypeId}{k fuel:Nat}{v:Value}{x:DataW H × List MemPlace}
  (hu:P.underlying t=some (.slice e)) (hk:P.cellsOf e=k) (h0:0<k) (hl:∀a:α,(toV a).cells.length=k∧notTuple (toV a)=true∧∀c∈(toV a).cells,c.one=true)
  (hd:∀n,n<fuel→∀cs y,cs.length=k→DataW.trod enc P w 0 (fun _=>true) true n e cs=some y→∃a:α,sz a≤uBulk y.1∧∀(j:Nat) c u,(toV a).cells[j]?=some c→cs[j]?=some u→IRel (fun _ _=>True) w c u)
  (h:DataW.trod enc P w 0 (fun _=>true) true fuel t [v]=some x):∃l:List α,IRel (fun _ _=>True) w (.isl (l.map toV) .unk) v∧l.length+1≤uBulk x.1∧(l.map sz).sum+1≤uBulk x.1:=by
 rcases DataW.trod_slice hu h with ⟨hv,rfl⟩ | ⟨a,len,cap,elems,rest,n,rfl,hv,rfl,_,hlc,hcm,hel,hes,_,_⟩
 ·simp only[List.cons.injEq,and_true] at hv;subst hv
  exact ⟨[],.islNil,by simp[uBulk,YtdoegkegjaadeaaGreatDoor.Rows.uptoBulk],by simp[uBulk,YtdoegkegjaadeaaGreatDoor.Rows.uptoBulk]⟩
 ·simp only[List.cons.injEq,and_true] at hv;subst hv
  rw[hk] at hes
  obtain ⟨l,hll,hlp⟩:=ex_list (p:=fun i (a':α)=>∃cs y,w.cells? 0 (a.add (i*k)) k=some cs∧elems[i]?=some y∧sz a'≤uBulk y.1∧∀(j:Nat) c u,(toV a').cells[j]?=some c→cs[j]?=some u→IRel (fun _ _=>True) w c u) len fun i hi=>by
   have h1:=hes i hi
   have h2:elems[i]?=some (elems[i]'(by omega)):=List.getElem?_eq_getElem (by omega)
   rw[h2] at h1
   obtain ⟨cs,h3,h4⟩:=Option.bind_eq_some_iff.1 h1
   obtain ⟨a',h5,h6⟩:=hd n (by omega) cs _ (cells_of h3).1 h4
   exact ⟨a',cs,_,h3,h2,h5,h6⟩
  have hsum:(l.map sz).sum≤uBulks (elems.map (·.1)):=sum_bulk l _ (by simp[hll,hel]) fun i a' d h1 h2=>by
   obtain ⟨cs,y,_,h3,h4,_⟩:=hlp i a' h1
   rw[List.getElem?_map,h3] at h2
   simp only[Option.map_some,Option.some.injEq] at h2;subst h2;exact h4
  have hone:(l.map fun _=>1).sum≤uBulks (elems.map (·.1)):=sum_bulk (sz:=fun _=>1) l _ (by simp[hll,hel]) fun i a' d h1 h2=>by cases d<;>simp[uBulk,YtdoegkegjaadeaaGreatDoor.Rows.uptoBulk]<;>(rename_i q;cases q<;>simp[YtdoegkegjaadeaaGreatDoor.Rows.uptoBulk])
  have hcnt:(l.map fun _=>1).sum=l.length:=by
   clear hone hsum hlp hll
   induction l with
   | nil=>rfl
   | cons a l ih=>simp only[List.map_cons,List.sum_cons,ih,List.length_cons];omega
  refine ⟨l,?_,by simp only[uBulk,YtdoegkegjaadeaaGreatDoor.Rows.uptoBulk];simp only[uBulks] at hone;omega,by simp only[uBulk,YtdoegkegjaadeaaGreatDoor.Rows.uptoBulk];simp only[uBulks] at hsum;omega⟩
  by_cases hz:len=0
  ·subst hz
   have:l=[]:=List.length_eq_zero_iff.1 hll
   subst this
   exact .islEmpty a cap hcm
  ·obtain ⟨b,o,z⟩:=a
   have hz':z=none:=by
    obtain ⟨cs,y,h1,_⟩:=hlp 0 (l[0]'(by omega)) (List.getElem?_eq_getElem (by omega))
    obtain ⟨h2,h3⟩:=cells_of h1
    have:=h3 0 (cs[0]'(by omega)) (List.getElem?_eq_getElem (by omega))
    exact addr_zero (by simpa using this)
   subst hz'
   have key:∀(i j:Nat) e' c,(l.map toV)[i]?=some e'→e'.cells[j]?=some c→∃u,w.cell? ⟨b,o+i*k+j,none⟩=some u∧IRel (fun _ _=>True) w c u:=fun i j e' c he hc=>by
    rw[List.getElem?_map] at he
    obtain ⟨a',ha,rfl⟩:=Option.map_eq_some_iff.1 he
    obtain ⟨cs,y,h1,_,_,h4⟩:=hlp i a' ha
    obtain ⟨h2,h3⟩:=cells_of h1
    have hj:j<cs.length:=by have:=(List.getElem?_eq_some_iff.1 hc).1;rw[(hl a').1] at this;omega
    have:=h3 j cs[j] (List.getElem?_eq_getElem hj)
    exact ⟨cs[j],addr_cell this,h4 j c _ hc (List.getElem?_eq_getElem hj)⟩
   have:=IRel.isl (A:=fun _ _=>True) (w:=w) (es:=l.map toV) (sz:=k) (b:=b) (o:=o) (cap:=cap) (fun i j=>(w.cell? ⟨b,o+i*k+j,none⟩).getD .nilIface) h0 (by simp;omega) hcm
    (fun e' he=>by
     obtain ⟨a',_,rfl⟩:=List.mem_map.1 he
     exact ⟨(hl a').1,(hl a').2.1⟩)
    (fun e' he c hc=>by
     obtain ⟨a',_,rfl⟩:=List.mem_map.1 he
     exact (hl a').2.2 c hc)
    (fun i j e' c he hc=>by
     obtain ⟨u,h1,_⟩:=key i j e' c he hc
     exact ⟨trivial,by rw[h1];rfl⟩)
    (fun i j e' c he hc=>by
     obtain ⟨u,h1,h2⟩:=key i j e' c he hc
     rw[h1];exact h2)
   rw[List.length_map,hll] at this
   exact this
end Go.VZ

/- Moments: their form; kinds, equality, fits, both ways. -/
namespace Go.VZ
open Go Go.V Go.Proofs TL
theorem s54:sizeV C.P 54=some 6:=by kernel_rfl
theorem s50:sizeV C.P 50=some 1:=by kernel_rfl
theorem a54:isAggB C.P 54=some true:=by kernel_rfl
theorem a50:isAggB C.P 50=some false:=by kernel_rfl
attribute [go_sem] s54 s50 a54 a50
theorem fa54i_0 (e:AV):fieldAddrV C.P 54 (.iptr e 0) 0=some (.iptr e 0):=by kernel_rfl
theorem fa54_0 (i:Nat):fieldAddrV C.P 54 (.ptr i 0) 0=some (.ptr i 0):=by kernel_rfl
theorem fa54_4 (i:Nat):fieldAddrV C.P 54 (.ptr i 0) 4=some (.ptr i 4):=by kernel_rfl
theorem fa54_5 (i:Nat):fieldAddrV C.P 54 (.ptr i 0) 5=some (.ptr i 5):=by kernel_rfl
attribute [go_sem] fa54i_0 fa54_0 fa54_4 fa54_5
theorem zv54:zeroV C.P 54=some (.agg [.int .i64 0,.int .i64 0,.int .i64 0,.isl [] .full,.int .i64 0,.isl [] .full]):=by kernel_rfl
attribute [go_sem] zv54
end Go.VZ

/- Equality of goals, and fits, both ways. -/
namespace Go.VZ
open Go Go.V Go.Proofs TL
def smallT (l:List T):Prop:=l.length<4000000∧∀t∈l,t.size<4000000
theorem call110 (l m:List T) (hl:smallT l) (hm:smallT m) (h:H):callV C h (.func 110 []) (some [terms l,terms m])=some (.bool (decide (l=m)),h):=callV_strip (by kernel_rfl) rfl rfl (by simp[short_terms]) (by simp) (lists110 l m hl.2 hm.2 hl.1)
end Go.VZ

/- Rows of numbers: facts on their types. -/
namespace Go.VZ
open Go Go.V Go.Proofs TL
theorem s4:sizeV C.P 4=some 1:=by kernel_rfl
theorem a4:isAggB C.P 4=some false:=by kernel_rfl
attribute [go_sem] s4 a4
theorem b3:bytesV C.P 3=some 8:=by kernel_rfl
theorem b4:bytesV C.P 4=some 1:=by kernel_rfl
theorem z3:zeroOk C.P 3=true:=by kernel_rfl
end Go.VZ

/- Terms, bindings, moments and numbers that came in. -/
namespace Go.VZ
open Go Go.V Go.Proofs TL
theorem c3:Tryz.prog.cellsOf 3=1:=by kernel_rfl
theorem c9:Tryz.prog.cellsOf 9=1:=by kernel_rfl
theorem c23:Tryz.prog.cellsOf 23=1:=by kernel_rfl
theorem c25:Tryz.prog.cellsOf 25=4:=by kernel_rfl
theorem c86:Tryz.prog.cellsOf 86=8:=by kernel_rfl
section
variable {H:Type}{ec:TypeId × Value→H}{w:World}
noncomputable abbrev TR (ec:TypeId × Value→H) (w:World) (n:Nat) (t:TypeId) (cs:List Value):Option (DataW H × List MemPlace):=DataW.trod ec Tryz.prog w 0 (fun _=>true) true n t cs
theorem len4 {α:Type}{l:List α}(h:l.length=4):∃a b c d,l=[a,b,c,d]:=by
 match l,h with
 | [a,b,c,d],_=>exact ⟨a,b,c,d,rfl⟩
theorem enc_ok (t:T):(enc t).cells.length=4∧notTuple (enc t)=true∧∀c∈(enc t).cells,c.one=true:=by
 rw[enc_cells]
 refine ⟨rfl,by rw[enc_eq];rfl,fun c hc=>?_⟩
 simp only[List.mem_cons,List.not_mem_nil,or_false] at hc
 rcases hc with rfl | rfl | rfl | rfl<;>rfl
theorem dec_term:∀(fuel:Nat) (cs:List Value) (y:DataW H × List MemPlace),cs.length=4→TR ec w fuel 25 cs=some y→∃t:T,t.size≤uBulk y.1∧∀(j:Nat) c u,(enc t).cells[j]?=some c→cs[j]?=some u→IRel (fun _ _=>True) w c u:=by
 intro fuel
 induction fuel using Nat.strongRecOn with
 | _ fuel ih=>
  intro cs y hcs h
  obtain ⟨xs,n,rfl,rfl,hl,hx,hf⟩:=DataW.trod_struct Tryz.underlying25 h
  have f0:TR ec w n 3 ((cs.drop 0).take (Tryz.prog.cellsOf 3))=xs[0]?:=hf 0 _ rfl
  have f1:TR ec w n 9 ((cs.drop 1).take (Tryz.prog.cellsOf 9))=xs[1]?:=hf 1 _ rfl
  have f2:TR ec w n 3 ((cs.drop 2).take (Tryz.prog.cellsOf 3))=xs[2]?:=hf 2 _ rfl
  have f3:TR ec w n 23 ((cs.drop 3).take (Tryz.prog.cellsOf 23))=xs[3]?:=hf 3 _ rfl
  obtain ⟨v0,v1,v2,v3,rfl⟩:=len4 hcs
  obtain ⟨x0,x1,x2,x3,rfl⟩:=len4 (l:=xs) hx
  simp only[c3,c9,c23,List.drop_zero,List.drop_succ_cons,List.take_succ_cons,List.take_zero,List.getElem?_cons_zero,List.getElem?_cons_succ] at f0 f1 f2 f3
  obtain ⟨k0,e0,rfl,_⟩:=DataW.trod_int Tryz.underlying3 f0
  obtain ⟨s1,e1,rfl,_⟩:=DataW.trod_string Tryz.underlying9 f1
  obtain ⟨k2,e2,rfl,_⟩:=DataW.trod_int Tryz.underlying3 f2
  simp only[List.cons.injEq,and_true] at e0 e1 e2
  subst e0;subst e1;subst e2
  obtain ⟨l,hr,hll,hls⟩:=dec_slice (toV:=enc) (sz:=T.size) Tryz.underlying23 c25 (by omega) enc_ok (fun m hm cs y h1 h2=>ih m (by omega) cs y h1 h2) f3
  refine ⟨.mk k0 s1 k2 l,?_,fun j c u hc hu=>?_⟩
  ·rw[size_kids]
   show sizes l+1≤_
   rw[sizes_eq]
   simp only[List.map_cons,List.map_nil,uBulk,YtdoegkegjaadeaaGreatDoor.Rows.uptoBulk,YtdoegkegjaadeaaGreatDoor.Rows.uptoBulkAll] at hls ⊢
   omega
  ·rw[enc_cells] at hc
   match j,hc,hu with
   | 0,hc,hu=>simp at hc hu;subst hc;subst hu;exact .int _ _
   | 1,hc,hu=>simp at hc hu;subst hc;subst hu;exact .str _
   | 2,hc,hu=>simp at hc hu;subst hc;subst hu;exact .int _ _
   | 3,hc,hu=>simp at hc hu;subst hc;subst hu;exact hr
   | j+4,hc,hu=>simp at hc
theorem dec_terms {n:Nat}{v:Value}{x:DataW H × List MemPlace}(h:TR ec w n 23 [v]=some x):∃l:List T,IRel (fun _ _=>True) w (terms l) v∧l.length+1≤uBulk x.1∧(l.map T.size).sum+1≤uBulk x.1:=
 dec_slice (toV:=enc) (sz:=T.size) Tryz.underlying23 c25 (by omega) enc_ok (fun m _ cs y h1 h2=>dec_term m cs y h1 h2) h
end
end Go.VZ

/- Facts of clauses: their form; whether they are valid, both ways. -/
namespace Go.VZ
open Go Go.V Go.Proofs TL
structure Fa where
 kind:Int
 goal:Int
 terms:List T
def faC (f:Fa):List AV:=[.int .i64 f.kind,.int .i64 f.goal,terms f.terms]
def encFa (f:Fa):AV:=.agg (faC f)
theorem s35:sizeV C.P 35=some 3:=by kernel_rfl
theorem a35:isAggB C.P 35=some true:=by kernel_rfl
theorem box35 (f:Fa) (h:H):boxV C.P h 35 (encFa f)=some (.ptr h.length 0,h++[.cells (faC f) .live]):=by
 simp[boxV,encFa,s35,faC,notTuple,cells_agg]
theorem fa35_0 (i o:Nat):fieldAddrV C.P 35 (.ptr i o) 0=some (.ptr i o):=by kernel_rfl
theorem fa35_1 (i o:Nat):fieldAddrV C.P 35 (.ptr i o) 1=some (.ptr i (o+1)):=by kernel_rfl
theorem fa35_2 (i o:Nat):fieldAddrV C.P 35 (.ptr i o) 2=some (.ptr i (o+2)):=by kernel_rfl
attribute [go_sem] fa35_0 fa35_1 fa35_2
theorem ld3f0 {h:H}{i:Nat}{f:Fa}(hi:h[i]?=some (.cells (faC f) .live)):loadV C.P h 3 (.ptr i 0)=some (.int .i64 f.kind):=by simp[loadV,hi,cellsAt,a3,s3,faC]
theorem ld3f1 {h:H}{i:Nat}{f:Fa}(hi:h[i]?=some (.cells (faC f) .live)):loadV C.P h 3 (.ptr i 1)=some (.int .i64 f.goal):=by simp[loadV,hi,cellsAt,a3,s3,faC]
theorem ld23f {h:H}{i:Nat}{f:Fa}(hi:h[i]?=some (.cells (faC f) .live)):loadV C.P h 23 (.ptr i 2)=some (terms f.terms):=by simp[loadV,hi,cellsAt,a23,s23,faC,terms]
theorem len23t (l:List T):lenV C.P 23 (terms l)=some (.int .i64 l.length):=by simp[terms,len23]
theorem idx23t (l:List T) (k:Nat) (hk:k<l.length):indexAddrV C.P 23 (terms l) (.int .i64 k)=some (.iptr (enc l[k]) 0):=idx23 l k hk .unk
theorem dat_fa (f:Fa):dats [encFa f]=some [encFa f]:=rfl
theorem short_fa (f:Fa):short (encFa f)=true:=rfl
def validsE:List T→Int
 | []=>0
 | t::l=>if validE t≠0 then validE t else validsE l
def factE (f:Fa):Int:=
 if (f.kind≠1∧f.kind≠2∧f.kind≠3)∨f.kind=1∧(f.terms.length≠1∨f.goal≠0) then 1
 else if f.goal<0∨7<f.goal then 7
 else if f.terms.length=0 then 8
 else if 8<f.terms.length then 3
 else validsE f.terms
def smallF (l:List T):Prop:=∀t∈l,t.size<4000000
def NI66 (f:Fa) (n:Nat) (st:PT) (h:H):Prop:=∃k:Nat,n=f.terms.length-k∧k≤f.terms.length∧h[0]?=some (.cells (faC f) .live)∧st.get 1=.ptr 0 0∧st.get 3=.int .i64 k∧validsE f.terms=validsE (f.terms.drop k)
set_option maxRecDepth 8000 in
set_option maxHeartbeats 4000000 in
theorem fact66 (f:Fa) (hs:smallF f.terms) (hl:f.terms.length<4000000):CallP C 66 [encFa f]=some (.int .i64 (factE f)):=by
 refine CallP_W rfl Tryz.func66 rfl (by kernel_rfl) (by simp[Tryz.f66]) fun R hR=>?_
 have fin:∀(st:PT) (h:H) (e:Int),st.get 2=.int .i64 e→factE f=e→R .ret st h:=fun st h e h2 he=>hR _ _ _ (.inr rfl) ⟨.int .i64 e,by simp[resultV,resV,Tryz.f66,h2],by rw[he];exact snap_dat rfl rfl⟩
 have m0:([.cells (faC f) .live]:H)[0]?=some (.cells (faC f) .live):=rfl
 have k0:=ld3f0 m0
 have k1:=ld3f1 m0
 have k2:=ld23f m0
 have hln:=len23t f.terms
 have q0:([]:H)++[.cells (faC f) .live]=[.cells (faC f) .live]:=rfl
 simp +contextual [go_sem,box35,k0,k1,k2,hln]
 refine Ife_iff.2 ⟨fun h1=>?_,fun h1=>?_⟩
 ·simp[go_sem]
  refine fin _ _ 1 (by simp[go_sem]) ?_
  unfold factE
  rw[if_pos]
  rcases h1 with ⟨⟨a,b⟩,c⟩ | ⟨a,b⟩
  ·exact .inl ⟨a,b,c⟩
  ·exact .inr ⟨a,b.imp (fun e h=>e (by omega)) id⟩
 have n1:¬((f.kind≠1∧f.kind≠2∧f.kind≠3)∨f.kind=1∧(f.terms.length≠1∨f.goal≠0)):=by
  rintro (⟨a,b,c⟩ | ⟨a,b⟩)
  ·exact h1 (.inl ⟨⟨a,b⟩,c⟩)
  ·exact h1 (.inr ⟨a,b.imp (fun e h=>e (by omega)) id⟩)
 simp +contextual [go_sem,k1]
 refine Ife_iff.2 ⟨fun h2=>?_,fun h2=>?_⟩
 ·simp[go_sem]
  exact fin _ _ 7 (by simp[go_sem]) (by unfold factE;rw[if_neg n1,if_pos h2])
 simp +contextual [go_sem,k2,hln]
 refine Ife_iff.2 ⟨fun h3=>?_,fun h3=>?_⟩
 ·simp[go_sem]
  exact fin _ _ 8 (by simp[go_sem]) (by unfold factE;rw[if_neg n1,if_neg h2,if_pos (by simpa using h3)])
 simp +contextual [go_sem,k2,hln]
 refine Ife_iff.2 ⟨fun h4=>?_,fun h4=>?_⟩
 ·simp[go_sem]
  exact fin _ _ 3 (by simp[go_sem]) (by unfold factE;rw[if_neg n1,if_neg h2,if_neg (by simpa using h3),if_pos (by omega)])
 have he:factE f=validsE f.terms:=by unfold factE;rw[if_neg n1,if_neg h2,if_neg (by simpa using h3),if_neg (by omega)]
 simp[go_sem]
 refine W_loop (NI66 f) f.terms.length ⟨0,rfl,Nat.zero_le _,rfl,by simp[go_sem],by simp[go_sem],rfl⟩ ?_
 rintro n st h ⟨k,rfl,hk,n0,g1,g3,hd⟩
 have k2':=ld23f n0
 by_cases hlt:k<f.terms.length
 ·have hlt':(k:Int)<f.terms.length:=by omega
  have hix:=idx23t f.terms k hlt
  have c86:=call86 f.terms[k] (hs _ (List.getElem_mem hlt))
  have w2:IntKind.i64.wrap ((k:Int)+1)=((k+1:Nat):Int):=by rw[wrap_in (by omega)];omega
  rw[List.drop_eq_getElem_cons hlt,validsE] at hd
  by_cases hz:validE f.terms[k]=0
  ·simp[go_sem,g1,g3,k2',hln,hlt',hix,ld25,c86,hz,-Int.natCast_add,w2]
   exact ⟨f.terms.length-(k+1),by omega,k+1,rfl,hlt,n0,by simp[go_sem,g1],by simp[go_sem],by rw[hd,if_neg (by simpa using hz)]⟩
  ·simp[go_sem,g1,g3,k2',hln,hlt',hix,ld25,c86,hz]
   exact fin _ _ (validE f.terms[k]) (by simp[go_sem]) (by rw[he,hd,if_pos hz])
 ·have:k=f.terms.length:=by omega
  subst this
  rw[List.drop_length,validsE] at hd
  simp[go_sem,g1,g3,k2',hln]
  exact fin _ _ 0 (by simp[go_sem]) (by rw[he,hd])
theorem call66 (f:Fa) (hs:smallF f.terms) (hl:f.terms.length<4000000) (h:H):callV C h (.func 66 []) (some [encFa f])=some (.int .i64 (factE f),h):=callV_strip (by kernel_rfl) rfl (dat_fa f) (by simp[short_fa]) (by simp) (fact66 f hs hl)
def NI58 (f:Fa) (n:Nat) (st:PT) (_h:H):Prop:=∃k:Nat,n=f.terms.length-k∧k≤f.terms.length∧st.get 42=terms f.terms∧st.get 43=.int .i64 f.terms.length∧st.get 44=.int .i64 k∧validsE f.terms=validsE (f.terms.drop k)
set_option maxRecDepth 8000 in
set_option maxHeartbeats 4000000 in
theorem fact58 (f:Fa) (hs:smallF f.terms) (hl:f.terms.length<4000000):CallP C 58 [encFa f]=some (.int .i64 (factE f)):=by
 refine CallP_W rfl Tryz.func58 rfl (by kernel_rfl) (by simp[Tryz.f58]) fun R hR=>?_
 have fin:∀(st:PT) (h:H) (e:Int),st.get 2=.int .i64 e→factE f=e→R .ret st h:=fun st h e h2 he=>hR _ _ _ (.inr rfl) ⟨.int .i64 e,by simp[resultV,resV,Tryz.f58,h2],by rw[he];exact snap_dat rfl rfl⟩
 have m0:([.cells (faC f) .live]:H)[0]?=some (.cells (faC f) .live):=rfl
 have k0:=ld3f0 m0
 have k1:=ld3f1 m0
 have k2:=ld23f m0
 have hln:=len23t f.terms
 by_cases e1:f.kind=1
 ·simp +contextual [go_sem,box35,k0,k1,k2,hln,e1]
  refine Ife_iff.2 ⟨fun h1=>?_,fun h1=>?_⟩
  ·simp[go_sem]
   exact fin _ _ 1 (by simp[go_sem]) (by unfold factE;rw[if_pos (.inr ⟨e1,h1.imp (fun e h=>e (by omega)) id⟩)])
  have n1:f.terms.length=1∧f.goal=0:=by
   constructor
   ·exact Decidable.byContradiction fun e=>h1 (.inl (by omega))
   ·exact Decidable.byContradiction fun e=>h1 (.inr e)
  have he:factE f=validsE f.terms:=by
   unfold factE
   rw[if_neg (by rintro (⟨a,_⟩ | ⟨_,b⟩);exact a e1;omega),if_neg (by omega),if_neg (by omega),if_neg (by omega)]
  revert he
  intro he
  simp[go_sem,k2,hln]
  refine W_loop (NI58 f) f.terms.length ⟨0,rfl,Nat.zero_le _,by simp[go_sem],by simp[go_sem],by simp[go_sem],rfl⟩ ?_
  rintro n st h ⟨k,rfl,hk,g42,g43,g44,hd⟩
  by_cases hlt:k<f.terms.length
  ·have hlt':(k:Int)<f.terms.length:=by omega
   have hix:=idx23t f.terms k hlt
   have c111:=call111 f.terms[k] (hs _ (List.getElem_mem hlt))
   have e4:=st25z f.terms[k] h
   have e5:=ldb25z f.terms[k] h
   have w2:IntKind.i64.wrap ((k:Int)+1)=((k+1:Nat):Int):=by rw[wrap_in (by omega)];omega
   rw[List.drop_eq_getElem_cons hlt,validsE] at hd
   by_cases hz:validE f.terms[k]=0
   ·simp[go_sem,g42,g43,g44,hlt',hix,ld25,e4,e5,c111,hz,-Int.natCast_add,w2]
    exact ⟨f.terms.length-(k+1),by omega,k+1,rfl,hlt,by simp[go_sem,g42],by simp[go_sem,g43],by simp[go_sem],by rw[hd,if_neg (by simpa using hz)]⟩
   ·simp[go_sem,g42,g43,g44,hlt',hix,ld25,e4,e5,c111,hz]
    exact fin _ _ (validE f.terms[k]) (by simp[go_sem]) (by rw[he,hd,if_pos hz])
  ·have:k=f.terms.length:=by omega
   subst this
   rw[List.drop_length,validsE] at hd
   simp[go_sem,g43,g44]
   exact fin _ _ 0 (by simp[go_sem]) (by rw[he,hd])
 by_cases e2:f.kind=2∨f.kind=3
 ·have n1:¬((f.kind≠1∧f.kind≠2∧f.kind≠3)∨f.kind=1∧(f.terms.length≠1∨f.goal≠0)):=by
   rintro (⟨a,b,c⟩ | ⟨a,b⟩)
   ·rcases e2 with e | e
    ·exact b e
    ·exact c e
   ·exact e1 a
  rcases e2 with e2 | e2
  all_goals
   simp +contextual [go_sem,box35,k0,k1,e2]
   refine Ife_iff.2 ⟨fun h2=>?_,fun h2=>?_⟩
   ·simp[go_sem]
    exact fin _ _ 7 (by simp[go_sem]) (by unfold factE;rw[if_neg n1,if_pos h2])
   simp +contextual [go_sem,k2,hln]
   refine Ife_iff.2 ⟨fun h3=>?_,fun h3=>?_⟩
   ·simp[go_sem]
    exact fin _ _ 8 (by simp[go_sem]) (by unfold factE;rw[if_neg n1,if_neg h2,if_pos (by simpa using h3)])
   simp +contextual [go_sem,k2,hln]
   refine Ife_iff.2 ⟨fun h4=>?_,fun h4=>?_⟩
   ·simp[go_sem]
    exact fin _ _ 3 (by simp[go_sem]) (by unfold factE;rw[if_neg n1,if_neg h2,if_neg (by simpa using h3),if_pos (by omega)])
   have he:factE f=validsE f.terms:=by unfold factE;rw[if_neg n1,if_neg h2,if_neg (by simpa using h3),if_neg (by omega)]
   simp[go_sem,k2,hln]
   refine W_loop (NI58 f) f.terms.length ⟨0,rfl,Nat.zero_le _,by simp[go_sem],by simp[go_sem],by simp[go_sem],rfl⟩ ?_
   rintro n st h ⟨k,rfl,hk,g42,g43,g44,hd⟩
   by_cases hlt:k<f.terms.length
   ·have hlt':(k:Int)<f.terms.length:=by omega
    have hix:=idx23t f.terms k hlt
    have c111:=call111 f.terms[k] (hs _ (List.getElem_mem hlt))
    have e4:=st25z f.terms[k] h
    have e5:=ldb25z f.terms[k] h
    have w2:IntKind.i64.wrap ((k:Int)+1)=((k+1:Nat):Int):=by rw[wrap_in (by omega)];omega
    rw[List.drop_eq_getElem_cons hlt,validsE] at hd
    by_cases hz:validE f.terms[k]=0
    ·simp[go_sem,g42,g43,g44,hlt',hix,ld25,e4,e5,c111,hz,-Int.natCast_add,w2]
     exact ⟨f.terms.length-(k+1),by omega,k+1,rfl,hlt,by simp[go_sem,g42],by simp[go_sem,g43],by simp[go_sem],by rw[hd,if_neg (by simpa using hz)]⟩
    ·simp[go_sem,g42,g43,g44,hlt',hix,ld25,e4,e5,c111,hz]
     exact fin _ _ (validE f.terms[k]) (by simp[go_sem]) (by rw[he,hd,if_pos hz])
   ·have:k=f.terms.length:=by omega
    subst this
    rw[List.drop_length,validsE] at hd
    simp[go_sem,g43,g44]
    exact fin _ _ 0 (by simp[go_sem]) (by rw[he,hd])
 ·simp +contextual [go_sem,initS,box35,k0,e1,show f.kind≠2 from fun e=>e2 (.inl e),show f.kind≠3 from fun e=>e2 (.inr e)]
  exact fin _ _ 1 (by simp[go_sem]) (by unfold factE;rw[if_pos (.inl ⟨e1,fun e=>e2 (.inl e),fun e=>e2 (.inr e)⟩)])
theorem call58 (f:Fa) (hs:smallF f.terms) (hl:f.terms.length<4000000) (h:H):callV C h (.func 58 []) (some [encFa f])=some (.int .i64 (factE f),h):=callV_strip (by kernel_rfl) rfl (dat_fa f) (by simp[short_fa]) (by simp) (fact58 f hs hl)
end Go.VZ

/- Clauses: their form; the copy of a row of facts; the facts of a clause; whether it is valid, both ways. -/
namespace Go.VZ
open Go Go.V Go.Proofs TL
structure Cl where
 body:List Fa
 head:Fa
def factsV (l:List Fa):AV:=.isl (l.map encFa) .unk
def clC (c:Cl):List AV:=factsV c.body::faC c.head
def encCl (c:Cl):AV:=.agg (clC c)
def cellsF (l:List Fa):List AV:=l.flatMap faC
theorem cellsF_cons (a:Fa) (l:List Fa):cellsF (a::l)=[.int .i64 a.kind,.int .i64 a.goal,terms a.terms]++cellsF l:=rfl
theorem cellsF_len (l:List Fa):(cellsF l).length=3*l.length:=by
 induction l with
 | nil=>rfl
 | cons a l ih=>rw[cellsF_cons,List.length_append,ih];simp;omega
theorem dats_cellsF (l:List Fa):dats (cellsF l)=some (cellsF l):=by
 induction l with
 | nil=>rfl
 | cons a l ih=>rw[cellsF_cons];exact dats_append rfl ih
theorem short_cellsF (l:List Fa):(cellsF l).all short=true:=by
 induction l with
 | nil=>rfl
 | cons a l ih=>rw[cellsF_cons,List.all_append,ih];rfl
theorem u33:C.P.underlying 33=some (.slice 35):=Tryz.underlying33
theorem s33:sizeV C.P 33=some 1:=by kernel_rfl
theorem a33:isAggB C.P 33=some false:=by kernel_rfl
theorem s37:sizeV C.P 37=some 4:=by kernel_rfl
theorem a37:isAggB C.P 37=some true:=by kernel_rfl
theorem b35:bytesV C.P 35=some 40:=by kernel_rfl
theorem z35:zeroOk C.P 35=true:=by kernel_rfl
theorem szOk_encFa (l:List Fa):szOk 3 (l.map encFa)=true:=by cases l<;>simp[szOk,encFa,faC,cells_agg]
theorem is33:isSliceT C.P 33=some 35:=by kernel_rfl
attribute [go_sem] is33
theorem len33 (es:List AV) (x:Ext):lenV C.P 33 (.isl es x)=some (.int .i64 es.length):=by simp[lenV,u33]
theorem len33f (l:List Fa):lenV C.P 33 (factsV l)=some (.int .i64 l.length):=by simp[factsV,len33]
theorem idx33 (l:List Fa) (k:Nat) (hk:k<l.length) (x:Ext):indexAddrV C.P 33 (.isl (l.map encFa) x) (.int .i64 k)=some (.iptr (encFa l[k]) 0):=by
 simp[indexAddrV,u33,s35,encFa,faC,cells_agg,hk]
theorem ld35i (f:Fa) (h:H):loadV C.P h 35 (.iptr (encFa f) 0)=some (encFa f):=by simp[loadV,cellsAt,a35,s35,encFa,faC,cells_agg]
theorem fa37_0 (i:Nat):fieldAddrV C.P 37 (.ptr i 0) 0=some (.ptr i 0):=by kernel_rfl
theorem fa37_1 (i:Nat):fieldAddrV C.P 37 (.ptr i 0) 1=some (.ptr i 1):=by kernel_rfl
attribute [go_sem] fa37_0 fa37_1
theorem box37 (c:Cl) (h:H):boxV C.P h 37 (encCl c)=some (.ptr h.length 0,h++[.cells (clC c) .live]):=by
 simp[boxV,encCl,s37,clC,faC,notTuple,cells_agg]
theorem ld33c {h:H}{i:Nat}{c:Cl}(hi:h[i]?=some (.cells (clC c) .live)):loadV C.P h 33 (.ptr i 0)=some (factsV c.body):=by simp[loadV,hi,cellsAt,a33,s33,clC,factsV]
theorem ld35c {h:H}{i:Nat}{c:Cl}(hi:h[i]?=some (.cells (clC c) .live)):loadV C.P h 35 (.ptr i 1)=some (encFa c.head):=by simp[loadV,hi,cellsAt,a35,s35,clC,encFa,faC]
theorem ld37c {h:H}{i:Nat}{c:Cl}(hi:h[i]?=some (.cells (clC c) .live)):loadV C.P h 37 (.ptr i 0)=some (encCl c):=by simp[loadV,hi,cellsAt,a37,s37,clC,encCl,faC]
theorem dat_cl (c:Cl):dats [encCl c]=some [encCl c]:=rfl
theorem short_cl (c:Cl):short (encCl c)=true:=rfl
def RowF (h:H) (v:AV) (l:List Fa):Prop:=(l=[]∧v=.isl [] .full)∨∃id,v=.msl id 0 3 l.length none∧h[id]?=some (.cells (cellsF l) .live)
set_option maxHeartbeats 1000000 in
theorem clone96 (a:Fa) (l:List Fa) (hl:(a::l).length≤10000):Go.V.Call C 96 [factsV (a::l)] []=some (.msl 0 0 3 (a::l).length none,[.cells (cellsF (a::l)) .live]):=by
 refine Call_W rfl Tryz.func96 rfl (by kernel_rfl) (by simp[Tryz.f96]) fun R hR=>?_
 have hsz:=szOk_encFa (a::l)
 have e1:binV C.P .eql 33 (.tmp 3) (.const (.slice none 0 0)) (factsV (a::l)) (.isl [] .full)=some (.bool false):=by
  simp[binV,factsV,toVal,toScalar,nilCmpV,sureV,isNil,isSl,u33,eqSign]
 have e2:buildSliceV C.P [] 33 0 []=some (.isl [] .full,[]):=buildSlice_dats u33 s35 z35 rfl (by omega) rfl rfl rfl (by simp) rfl
 have e3:appendW C.P true [] 33 (.isl [] .full) (factsV (a::l))=some (.msl 0 0 3 (a::l).length none,[.cells (cellsF (a::l)) .live]):=by
  have e4:srcV [] 3 (.isl ((a::l).map encFa) .unk)=some (cellsF (a::l),(a::l).length):=by
   simp only[srcV,hsz,if_true,cellsF,List.flatMap_map,List.length_map,encFa,cells_agg]
  simp only[appendW,knownCap,Bool.not_true,if_false,Bool.false_eq_true,appendN,u33,s35,b35,z35,factsV,e4]
  have h0:0<(a::l).length:=by simp
  generalize (a::l).length=m at hl h0
  have h1:¬m=0:=by omega
  have h2:m*41≤35184372088832:=by omega
  simp[szOk,h1,h2]
 simp[go_sem,initS,e1,e2,e3]
 refine hR _ _ _ (.inr rfl) ⟨.msl 0 0 3 (a::l).length none,by simp[resultV,resV,Tryz.f96,go_sem],rfl⟩
theorem callV_ownM3 {f:FuncId}{h:H}{args args':List AV}(hb:hasBody C.P f=true) (hm:C.mode f=.ownM) (hd:dats args=some args') (hs:args.all short=true) (hl:args.length<90000)
  {id len sz:Nat}{h1:H}{cs:List AV}(hsz:1<sz) (hc:Go.V.Call C f args' []=some (.msl id 0 sz len none,h1)) (hid:h1[id]?=some (.cells cs .live)) (hcs:dats cs=some cs) (hsh:cs.all short=true) (hcl:cs.length≤90000) (hlen:len*sz≤cs.length) :
  callV C h (.func f []) (some args)=some (.msl h.length 0 sz len none,h++[.cells cs .live]):=by
 obtain ⟨e1,e2⟩:=dats_snap (h:=h) hd hs deep (by unfold deep;omega)
 simp only[callV,hb,if_true,List.append_nil]
 unfold applyCall
 rw[hm]
 dsimp only
 rw[e2]
 simp only[Go.V.freeze,e1]
 rw[hc]
 dsimp only
 unfold finishV
 dsimp only
 have f1:=(dats_snap (h:=freezeBut h1 id) hcs hsh deep (by unfold deep;omega)).1
 have f2:adoptR C.P .ownM h1 h (.msl id 0 sz len none)=none:=by
  simp only[adoptR,adopt,hid]
  rw[if_neg (by omega)]
 rw[f2]
 simp only[adoptD,adoptM,hid,f1]
 rw[if_pos ⟨by omega,by omega⟩]
theorem appendF {h:H}{v:AV}{l:List Fa}(f:Fa) (r:RowF h v l) (hl:l.length≤10000):∃id h',appendW C.P true h 33 v (.isl [encFa f] .full)=some (.msl id 0 3 (l.length+1) none,h')∧h'[id]?=some (.cells (cellsF (l++[f])) .live)∧Keep h h' (idOf v):=by
 have hsz:=szOk_encFa [f]
 have e4:srcV h 3 (.isl [encFa f] .full)=some (faC f,1):=by
  simp only[List.map_cons,List.map_nil] at hsz
  simp only[srcV,hsz,if_true];simp[encFa,cells_agg]
 have hcf:cellsF (l++[f])=cellsF l++faC f:=by simp[cellsF]
 rcases r with ⟨rfl,rfl⟩ | ⟨id,rfl,hid⟩
 ·refine ⟨h.length,h++[.cells (faC f) .live],?_,by rw[hcf];simp[cellsF],.append _ _ _⟩
  simp only[appendW,knownCap,Bool.not_true,if_false,Bool.false_eq_true,appendN,u33,s35,b35,z35,e4]
  simp[szOk]
 ·have hcl:=cellsF_len l
  refine ⟨h.length,h.set id (.cells (cellsF l) .dead)++[.cells (cellsF l++faC f) .live],?_,by rw[hcf,List.getElem?_append_right (by simp)];simp,?_⟩
  ·simp only[appendW,knownCap,Bool.not_true,if_false,Bool.false_eq_true,appendN,u33,s35,b35,z35,e4,hid]
   rw[if_neg (by simp)]
   rw[if_neg (by simp),if_pos ⟨trivial,trivial,by omega,by omega⟩,List.take_of_length_le (by omega)]
  ·exact ⟨by simp,fun j hj hn=>by rw[List.getElem?_append_left (by simpa using hj),List.getElem?_set_ne (fun e=>hn (by simp[idOf,e]))]⟩
theorem build33_1 (h:H) (f:Fa):buildSliceV C.P h 33 1 [(0,encFa f)]=some (.isl [encFa f] .full,h):=buildSlice_dats u33 s35 z35 rfl (by omega) rfl rfl rfl (by simp) rfl
theorem chunk_cellsF:∀l:List Fa,chunk 3 l.length (cellsF l)=l.map encFa
 | []=>rfl
 | a::l=>by
  have:=chunk_cellsF l
  rw[cellsF_cons]
  simp only[List.length_cons,chunk,List.cons_append,List.nil_append,List.take_succ_cons,List.take_zero,List.drop_succ_cons,List.drop_zero,List.map_cons,this,encFa,faC]
theorem freezeAll_live {cs:List AV}:∀(h:H) (i:Nat),h[i]?=some (.cells cs .live)→(freezeAll h)[i]?=some (.cells cs .frozen)
 | [],i,e=>by cases e
 | o::r,0,e=>by
  have:o=.cells cs .live:=by simpa using e
  subst this;rfl
 | o::r,i+1,e=>by
  have e2:r[i]?=some (.cells cs .live):=by simpa using e
  have:=freezeAll_live r i e2
  cases o with
  | cells c st=>cases st<;>simpa [freezeAll] using this
  | _=>simpa [freezeAll] using this
theorem snap_rowF {h:H}{id:Nat}{l:List Fa}(hid:h[id]?=some (.cells (cellsF l) .live)) (hl:l.length≤20000):snap (freezeAll h) deep (.msl id 0 3 l.length none)=some (factsV l):=by
 have hcl:=cellsF_len l
 obtain ⟨e3,_⟩:=dats_snap (h:=freezeAll h) (dats_cellsF l) (short_cellsF l) 999999 (by omega)
 have hz:(freezeAll h)[id]?=some (.cells (cellsF l) .frozen):=freezeAll_live h id hid
 have:deep=999999+1:=rfl
 rw[this]
 simp only[snap,hz,e3]
 rw[if_pos (by omega),List.drop_zero,chunk_cellsF];rfl
def factsOf (c:Cl):List Fa:=c.body++[c.head]
end Go.VZ

/- A mixed region, walked by its value. -/
namespace Go.VZ
open Go Go.V Go.Proofs TL
theorem W_regionM {C:Cfg}{cf:FuncId}{R:Ex→PT→H→Prop}{k:List It}{s s':PT}{h h':H}(id:Nat) (ops:Array Oper) (hm:C.mix cf id=true) (hx:mixV C (Go.V.Call C) cf ops s h=some (s',h')) (hk:N C cf R k s' h'):W C cf R (.region id ops true) k s h:=
 ⟨.normal,s',h',by rw[Exe_mix id ops hm,hx],hk⟩
end Go.VZ

/- Mixed regions, walked operation by operation. -/
namespace Go.V
open Go
def MX (C:Cfg) (cf:FuncId) (ops:Array Oper) (base:Nat) (K:PT→H→List FP→Prop):Nat→List Oper→PT→H→List FP→Prop
 | _,[],s,h,F=>K s h F
 | i,o::l,s,h,F=>∃v h2 f,mixStep C (Call C) cf ops base i o s h=some (v,h2,f)∧MX C cf ops base K (i+1) l (putV s o.dst v) h2 (F++[f])
theorem MX_to {C:Cfg}{cf:FuncId}{ops:Array Oper}{base:Nat}{K:PT→H→List FP→Prop}{s0:PT}{h0:H}:∀(l:List Oper) (i:Nat) (s:PT) (h:H) (F:List FP),i+l.length=ops.size→ops.toList.drop i=l →
  mixTo C (Call C) cf ops base i s0 h0=some (s,h,F)→MX C cf ops base K i l s h F→∃s' h' F',mixTo C (Call C) cf ops base ops.size s0 h0=some (s',h',F')∧K s' h' F'
 | [],i,s,h,F,hi,_,hs,hm=>⟨s,h,F,by rw[←hi];exact hs,hm⟩
 | o::l,i,s,h,F,hi,hd,hs,⟨v,h2,f,e,hm⟩=>by
  have hlt:i<ops.size:=by simp only[List.length_cons] at hi;omega
  have ho:ops[i]?=some o:=by
   have:=congrArg (fun l=>l[0]?) hd
   simpa using this
  refine MX_to l (i+1) _ _ _ (by simp only[List.length_cons] at hi;omega) (by rw[←List.tail_drop,hd];rfl) ?_ hm
  simp only[mixTo,hs,ho,e]
def lids:AV→List Nat
 | .ptr id _=>[id]
 | _=>[]
section
variable {C:Cfg}{cf:FuncId}{ops:Array Oper}{base:Nat}{K:PT→H→List FP→Prop}{i:Nat}{l:List Oper}{s:PT}{h:H}{F:List FP}
theorem foot_pure {o:Oper}(ha:active o=false) (hl:isLoad o=false):foot C s h o=some ([],false):=by
 unfold foot
 rw[if_neg (by rw[ha];simp)]
 unfold isLoad at hl
 split
 ·rename_i e;rw[e] at hl;cases hl
 ·rfl
theorem MX_pure0 {o:Oper}(v:AV) (hg:o.guard=none) (ha:active o=false) (hl:isLoad o=false) (hp:isVoid h[base+i]?=true) (hv:opN C.P s o=some v) (hm:v.mv h.length (base+i)=v)
  (hk:MX C cf ops base K (i+1) l (putV s o.dst v) h (F++[([],[])])):MX C cf ops base K i (o::l) s h F:=by
 refine ⟨v,h,([],[]),?_,hk⟩
 unfold mixStep
 rw[if_pos (by simp[Region.wanted,hg]),foot_pure ha hl,opV_pure ha hl,hv]
 dsimp only
 rw[if_pos ⟨by omega,rfl,hp⟩,hm]
 rfl
theorem MX_pure {d:Tmp}{op:Op}{ty:TypeId}{p:String}{af:Array Edge}(v:AV) (ha:active ⟨some d,op,ty,p,af,none⟩=false) (hl:isLoad ⟨some d,op,ty,p,af,none⟩=false) (hp:isVoid h[base+i]?=true) (hv:opN C.P s ⟨some d,op,ty,p,af,none⟩=some v) (hm:v.mv h.length (base+i)=v)
  (hk:MX C cf ops base K (i+1) l (s.set d v) h (F++[([],[])])):MX C cf ops base K i (⟨some d,op,ty,p,af,none⟩::l) s h F:=MX_pure0 v rfl ha hl hp hv hm hk
theorem MX_load {d:Tmp}{t ty:TypeId}{x:Operand}{p:String}{af:Array Edge}(a v:AV) (hx:ev s x=some a) (hv:loadV C.P h t a=some v) (hn:(lids a).contains (base+i)=false) (hp:isVoid h[base+i]?=true) (hm:v.mv h.length (base+i)=v)
  (hk:MX C cf ops base K (i+1) l (s.set d v) h (F++[(lids a,[])])):MX C cf ops base K i (⟨some d,.load t x,ty,p,af,none⟩::l) s h F:=by
 refine ⟨v,h,(lids a,[]),?_,hk⟩
 have hf:foot C s h ⟨some d,.load t x,ty,p,af,none⟩=some (lids a,false):=by
  simp only[foot,active,Bool.false_eq_true,if_false,hx]
  cases a<;>rfl
 unfold mixStep
 rw[if_pos (by simp[Region.wanted]),hf,opV_load rfl]
 simp only[hx,hv]
 rw[if_pos ⟨by omega,hn,hp⟩,hm]
 rfl
theorem fin_none (p:Nat) (h:H):fin p [] h h=h:=by
 apply List.ext_getElem?
 intro j
 rw[fin_get]
 simp
theorem fin_push {p:Nat}{h:H}{y:VObj}(hp:p<h.length):fin p [] h (h++[y])=h.set p (y.mv h.length p):=by
 apply List.ext_getElem?
 intro j
 rw[fin_get,List.getElem?_set]
 by_cases e:p=j
 ·subst e;simp[hp]
 ·simp[e,show ¬j=p from fun h=>e h.symm]
theorem fin_store {p id:Nat}{h:H}{z:VObj}(hp:id≠p):fin p [id] h (h.set id z)=h.set id (z.mv h.length p):=by
 apply List.ext_getElem?
 intro j
 rw[fin_get]
 by_cases e:id=j
 ·subst e
  by_cases hl:id<h.length
  ·simp[hl,hp]
  ·simp[hl]
 ·by_cases e2:j=p
  ·subst e2
   have e3:(h.set id z)[h.length]?=none:=by simp
   rw[e3,List.getElem?_set_ne e (a:=z.mv h.length j)]
   simp
  ·simp[e,e2,show ¬j=id from fun h=>e h.symm]
theorem isVoid_lt {h:H}{p:Nat}(hp:isVoid h[p]?=true):p<h.length:=by
 cases e:h[p]? with
 | none=>rw[e] at hp;cases hp
 | some x=>exact (List.getElem?_eq_some_iff.1 e).1
theorem MX_call {d:Tmp}{ty:TypeId}{p:String}{af:Array Edge}{f:FuncId}{args:List Operand}{at_:Array TypeId}(al:List AV) (v:AV) (hb:hasBody C.P f=true) (hmd:C.mode f=.strip) (hx:evs s args=some al) (hr:reachs h deep al=[])
  (hc:callV C h (.func f []) (some al)=some (v,h)) (hp:isVoid h[base+i]?=true) (hm:v.mv h.length (base+i)=v)
  (hk:MX C cf ops base K (i+1) l (s.set d v) h (F++[([base+i],[base+i])])):MX C cf ops base K i (⟨some d,.call {callee:=.value (.func f),args:=args.toArray,argTypes:=at_},ty,p,af,none⟩::l) s h F:=by
 refine ⟨v,h,([base+i],[base+i]),?_,hk⟩
 have hf:foot C s h ⟨some d,.call {callee:=.value (.func f),args:=args.toArray,argTypes:=at_},ty,p,af,none⟩=some ([],true):=by
  simp only[foot,active,if_true,hx,ev,hb,hmd,List.append_nil,hr]
 have ho:opV C (Call C) cf s h ⟨some d,.call {callee:=.value (.func f),args:=args.toArray,argTypes:=at_},ty,p,af,none⟩=some (v,h):=by
  rw[opV_active rfl,←hc]
  simp only[opA,hx,ev,callV]
 unfold mixStep
 rw[if_pos (by simp[Region.wanted]),hf,ho]
 dsimp only
 rw[if_pos ⟨by omega,rfl,hp⟩,hm,if_pos rfl,if_pos rfl,fin_none]
theorem MX_push0 {o:Oper}(v:AV) (y:VObj) (hg:o.guard=none) (hf:foot C s h o=some ([],true)) (ho:opV C (Call C) cf s h o=some (v,h++[y])) (hp:isVoid h[base+i]?=true)
  (hk:MX C cf ops base K (i+1) l (putV s o.dst (v.mv h.length (base+i))) (h.set (base+i) (y.mv h.length (base+i))) (F++[([base+i],[base+i])])):MX C cf ops base K i (o::l) s h F:=by
 refine ⟨v.mv h.length (base+i),h.set (base+i) (y.mv h.length (base+i)),([base+i],[base+i]),?_,hk⟩
 unfold mixStep
 rw[if_pos (by simp[Region.wanted,hg]),hf,ho]
 dsimp only
 rw[if_pos ⟨by simp,rfl,hp⟩,if_pos rfl,if_pos rfl,fin_push (isVoid_lt hp)]
theorem MX_alloc {d:Tmp}{t ty:TypeId}{p:String}{af:Array Edge}(z:AV) (hz:zeroV C.P t=some z) (hp:isVoid h[base+i]?=true)
  (hk:MX C cf ops base K (i+1) l (s.set d (.ptr (base+i) 0)) (h.set (base+i) ((VObj.cells z.cells .live).mv h.length (base+i))) (F++[([base+i],[base+i])])):MX C cf ops base K i (⟨some d,.alloc t,ty,p,af,none⟩::l) s h F:=by
 refine MX_push0 (.ptr h.length 0) (.cells z.cells .live) rfl rfl ?_ hp ?_
 ·rw[opV_active rfl];simp only[opA,hz]
 ·have:(AV.ptr h.length 0).mv h.length (base+i)=.ptr (base+i) 0:=by simp[AV.mv]
  rw[this];exact hk
theorem MX_store {t ty:TypeId}{a x:Operand}{p:String}{af:Array Edge}(id off:Nat) (v:AV) (z:VObj) (hx:ev s a=some (.ptr id off)) (hv:ev s x=some v) (hs:storeV C.P h t (.ptr id off) v=some (h.set id z)) (hn:id≠base+i) (hp:isVoid h[base+i]?=true)
  (hk:MX C cf ops base K (i+1) l (s) (h.set id (z.mv h.length (base+i))) (F++[([base+i,id],[base+i,id])])):MX C cf ops base K i (⟨none,.store t a x,ty,p,af,none⟩::l) s h F:=by
 refine ⟨AV.undef,h.set id (z.mv h.length (base+i)),([base+i,id],[base+i,id]),?_,hk⟩
 have hf:foot C s h ⟨none,.store t a x,ty,p,af,none⟩=some ([id],true):=by simp only[foot,active,if_true,hx]
 have ho:opV C (Call C) cf s h ⟨none,.store t a x,ty,p,af,none⟩=some (AV.undef,h.set id z):=by
  rw[opV_active rfl]
  simp only[opA,hx,hv,hs]
 unfold mixStep
 rw[if_pos (by simp[Region.wanted]),hf,ho]
 dsimp only
 rw[if_pos ⟨by simp,by simpa using fun e=>hn e.symm,hp⟩,if_pos rfl,if_pos rfl,fin_store hn]
 rfl
end
end Go.V
namespace Go.VZ
open Go Go.V Go.Proofs TL
theorem W_mixed {C:Cfg}{cf:FuncId}{R:Ex→PT→H→Prop}{k:List It}{s:PT}{h:H}(id:Nat) (ops:Array Oper) (hm:C.mix cf id=true) (ht:tmpOk ops=true)
  (hx:MX C cf ops h.length (fun s' h' F=>fpOk ops F=true∧N C cf R k s' h') 0 ops.toList s (h++List.replicate ops.size .void) []):W C cf R (.region id ops true) k s h:=by
 obtain ⟨s',h',F,e,hf,hk⟩:=MX_to ops.toList 0 s _ [] (by simp) rfl rfl hx
 exact W_regionM id ops hm (by simp only[mixV,ht,if_true,e,hf]) hk
end Go.VZ

/- The mixed region of the document's Covered: one term with the bindings put. -/
namespace Go.VZ
open Go Go.V Go.Proofs TL
theorem mv_enc (i k:Nat) (t:T):(enc t).mv i k=enc t:=by
 cases t;simp only[enc,AV.mv,AV.mvs]
theorem mv_cellsT (i k:Nat) (t:T):VObj.mv i k (.cells (enc t).cells .live)=.cells (enc t).cells .live:=by rw[enc_cells];rfl
structure Pl (h H0:H) (n:Nat):Prop where
 len:H0.length=h.length+n
 old:∀j,j<h.length→H0[j]?=h[j]?
 void:∀i,i<n→H0[h.length+i]?=some .void
theorem Pl.mk' (h:H) (n:Nat):Pl h (h++List.replicate n .void) n:=⟨by simp,fun j hj=>List.getElem?_append_left hj,fun i hi=>by rw[List.getElem?_append_right (by omega)];simp[hi]⟩
theorem Pl.isV {h H0:H}{n:Nat}(p:Pl h H0 n){i:Nat}(hi:i<n):isVoid H0[h.length+i]?=true:=by rw[p.void i hi];rfl
theorem Pl.get {h H0:H}{n:Nat}(p:Pl h H0 n){j:Nat}{o:VObj}(hj:h[j]?=some o):H0[j]?=some o:=by rw[p.old j (List.getElem?_eq_some_iff.1 hj).1];exact hj
theorem ptr_mv {i j o n k:Nat}(h:i<j) (hn:j≤n):(AV.ptr i o).mv n k=.ptr i o:=by simp[AV.mv];omega
theorem isV_set {H0:H}{a b:Nat}{y:VObj}(hb:isVoid H0[b]?=true) (h:a≠b):isVoid (H0.set a y)[b]?=true:=by rw[List.getElem?_set_ne h];exact hb
theorem ldn25 {h:H}{i:Nat}(t:T) (hi:h[i]?=some (.cells (enc t).cells .live)):loadV C.P h 25 (.ptr i 0)=some (enc t):=by
 rw[enc_cells] at hi
 simp[loadV,hi,cellsAt,a25,s25];rw[enc_eq]
theorem lids_no {i o k:Nat}(h:i≠k):(lids (.ptr i o)).contains k=false:=by simpa [lids] using fun e=>h e.symm
end Go.VZ

/- The facts of a clause: both ways of the same text; mixed regions with rows of one's own. -/
namespace Go.V
open Go
section
variable {C:Cfg}{cf:FuncId}{ops:Array Oper}{base:Nat}{K:PT→H→List FP→Prop}{i:Nat}{l:List Oper}{s:PT}{h:H}{F:List FP}
theorem MX_op {o:Oper}(T:List Nat) (v:AV) (h' g:H) (hg:o.guard=none) (hf:foot C s h o=some (T,true)) (ho:opV C (Call C) cf s h o=some (v,h')) (hl:h'.length≤h.length+1) (hT:T.contains (base+i)=false) (hp:isVoid h[base+i]?=true)
  (hfin:fin (base+i) T h h'=g) (hk:MX C cf ops base K (i+1) l (putV s o.dst (v.mv h.length (base+i))) g (F++[((base+i)::T,(base+i)::T)])):MX C cf ops base K i (o::l) s h F:=by
 refine ⟨v.mv h.length (base+i),g,((base+i)::T,(base+i)::T),?_,hk⟩
 unfold mixStep
 rw[if_pos (by simp[Region.wanted,hg]),hf,ho]
 dsimp only
 rw[if_pos ⟨hl,hT,hp⟩,if_pos rfl,if_pos rfl,hfin]
theorem foot_call {d:Tmp}{ty:TypeId}{p:String}{af:Array Edge}{f:FuncId}{args:List Operand}{at_:Array TypeId}{al:List AV}(hb:hasBody C.P f=true) (hmd:C.mode f=.strip∨C.mode f=.ownM) (hx:evs s args=some al) (hr:reachs h deep al=[]) :
  foot C s h ⟨some d,.call {callee:=.value (.func f),args:=args.toArray,argTypes:=at_},ty,p,af,none⟩=some ([],true):=by
 rcases hmd with e | e<;>simp only[foot,active,if_true,hx,ev,hb,e,List.append_nil,hr]
theorem opV_call {d:Tmp}{ty:TypeId}{p:String}{af:Array Edge}{f:FuncId}{args:List Operand}{at_:Array TypeId}{al:List AV}{v:AV}{h':H}(hx:evs s args=some al) (hc:callV C h (.func f []) (some al)=some (v,h')) :
  opV C (Call C) cf s h ⟨some d,.call {callee:=.value (.func f),args:=args.toArray,argTypes:=at_},ty,p,af,none⟩=some (v,h'):=by
 rw[opV_active rfl,←hc]
 simp only[opA,hx,ev,callV]
theorem MX_callM {d:Tmp}{ty:TypeId}{p:String}{af:Array Edge}{f:FuncId}{args:List Operand}{at_:Array TypeId}(al:List AV) (v:AV) (y:VObj) (hb:hasBody C.P f=true) (hmd:C.mode f=.strip∨C.mode f=.ownM) (hx:evs s args=some al) (hr:reachs h deep al=[])
  (hc:callV C h (.func f []) (some al)=some (v,h++[y])) (hp:isVoid h[base+i]?=true)
  (hk:MX C cf ops base K (i+1) l (s.set d (v.mv h.length (base+i))) (h.set (base+i) (y.mv h.length (base+i))) (F++[([base+i],[base+i])])):MX C cf ops base K i (⟨some d,.call {callee:=.value (.func f),args:=args.toArray,argTypes:=at_},ty,p,af,none⟩::l) s h F:=
 MX_push0 v y rfl (foot_call hb hmd hx hr) (opV_call hx hc) hp hk
theorem MX_call0 {d:Tmp}{ty:TypeId}{p:String}{af:Array Edge}{f:FuncId}{args:List Operand}{at_:Array TypeId}(al:List AV) (v:AV) (hb:hasBody C.P f=true) (hmd:C.mode f=.strip∨C.mode f=.ownM) (hx:evs s args=some al) (hr:reachs h deep al=[])
  (hc:callV C h (.func f []) (some al)=some (v,h)) (hp:isVoid h[base+i]?=true)
  (hk:MX C cf ops base K (i+1) l (s.set d (v.mv h.length (base+i))) h (F++[([base+i],[base+i])])):MX C cf ops base K i (⟨some d,.call {callee:=.value (.func f),args:=args.toArray,argTypes:=at_},ty,p,af,none⟩::l) s h F:=
 MX_op [] v h h rfl (foot_call hb hmd hx hr) (opV_call hx hc) (by omega) rfl hp (fin_none _ _) hk
theorem MX_build {d:Tmp}{t ty:TypeId}{len:Nat}{parts:List (Nat × Operand)}{p:String}{af:Array Edge}(ps:List (Nat × AV)) (v:AV) (hx:partsV s parts=some ps) (hr:reachs h deep (ps.map (·.2))=[])
  (hc:buildSliceV C.P h t len ps=some (v,h)) (hp:isVoid h[base+i]?=true)
  (hk:MX C cf ops base K (i+1) l (s.set d (v.mv h.length (base+i))) h (F++[([base+i],[base+i])])):MX C cf ops base K i (⟨some d,.buildSlice t len parts.toArray,ty,p,af,none⟩::l) s h F:=by
 refine MX_op [] v h h rfl ?_ ?_ (by omega) rfl hp (fin_none _ _) hk
 ·simp only[foot,active,if_true,hx,hr]
 ·rw[opV_active rfl];simp only[opA,hx,hc]
theorem MX_append {d:Tmp}{ty t:TypeId}{a b:Operand}{p:String}{af:Array Edge}(va vb v:AV) (h' g:H) (hx:ev s a=some va) (hy:ev s b=some vb) (hc:appendW C.P (C.wr cf d) h t va vb=some (v,h')) (hl:h'.length≤h.length+1)
  (hT:(mslId va++tokId va++mslId vb).contains (base+i)=false) (hp:isVoid h[base+i]?=true) (hfin:fin (base+i) (mslId va++tokId va++mslId vb) h h'=g)
  (hk:MX C cf ops base K (i+1) l (s.set d (v.mv h.length (base+i))) g (F++[((base+i)::(mslId va++tokId va++mslId vb),(base+i)::(mslId va++tokId va++mslId vb))])):MX C cf ops base K i (⟨some d,.call {callee:=.builtin .append,args:=#[a,b],argTypes:=#[t,t]},ty,p,af,none⟩::l) s h F:=by
 refine MX_op _ v h' g rfl ?_ ?_ hl hT hp hfin hk
 ·simp only[foot,active,if_true,hx,hy]
 ·rw[opV_active rfl];simp only[opA,hx,hy,wrO,hc,if_true]
theorem fin_dead {p id:Nat}{h:H}{z y:VObj}(hp:p<h.length) (hn:id≠p):fin p [id] h (h.set id z++[y])=(h.set id (z.mv h.length p)).set p (y.mv h.length p):=by
 apply List.ext_getElem?
 intro j
 rw[fin_get,List.getElem?_set,List.getElem?_set]
 by_cases e:p=j
 ·subst e;simp[hp]
 ·by_cases e2:id=j
  ·subst e2
   by_cases hl:id<h.length
   ·simp[e,hl,hn,List.getElem?_append_left]
   ·simp[e,hl,hn]
  ·simp[e,e2,show ¬j=p from fun h=>e h.symm,show ¬j=id from fun h=>e2 h.symm]
end
end Go.V

/- The facts of a clause: both ways walked. -/
namespace Go.VZ
open Go Go.V Go.Proofs TL
theorem mvs_self (l:List AV) (h:∀a∈l,∀i k,a.mv i k=a) (i k:Nat):AV.mvs i k l=l:=mvs_id fun _j a ha=>h a (List.mem_of_getElem? ha) i k
theorem mvs_cellsF (l:List Fa) (i k:Nat):AV.mvs i k (cellsF l)=cellsF l:=mvs_self _ (by
 intro a ha i k
 simp only[cellsF,List.mem_flatMap] at ha
 obtain ⟨f,_,ha⟩:=ha
 simp only[faC,List.mem_cons,List.not_mem_nil,or_false] at ha
 rcases ha with rfl | rfl | rfl<;>rfl) i k
theorem mv_cellsF (l:List Fa) (i k:Nat):VObj.mv i k (.cells (cellsF l) .live)=.cells (cellsF l) .live:=by simp[VObj.mv,mvs_cellsF]
theorem call96n (h:H):callV C h (.func 96 []) (some [factsV []])=some (.isl [] .full,h):=by
 have e1:=(dats_snap (h:=h) (l:=[factsV []]) (l':=[.isl [] .unk]) rfl rfl deep (by simp[deep]))
 have hbd:hasBody C.P 96=true:=by kernel_rfl
 simp only[callV,hbd,if_true,List.append_nil]
 unfold applyCall
 rw[show C.mode 96=.ownM from rfl]
 dsimp only
 rw[e1.2]
 simp only[Go.V.freeze,e1.1]
 have hp:C.prim 96 [.isl [] .unk] []=some (.isl [] .full,[]):=by simp[C,prim,primClone,cloneIds]
 have hq:Go.V.Call C 96 [.isl [] .unk] []=some (.isl [] .full,[]):=Call_prim (C:=C) (fn:=Tryz.f96) Tryz.func96 hp
 rw[hq]
 rfl
theorem call96c (a:Fa) (l:List Fa) (h:H) (hl:(a::l).length≤10000):callV C h (.func 96 []) (some [factsV (a::l)])=some (.msl h.length 0 3 (a::l).length none,h++[.cells (cellsF (a::l)) .live]):=by
 have hcl:=cellsF_len (a::l)
 exact callV_ownM3 (by kernel_rfl) rfl (args':=[factsV (a::l)]) rfl rfl (by simp) (by omega) (clone96 a l hl) rfl (dats_cellsF _) (short_cellsF _) (by omega) (by omega)
theorem parts1 {s:PT}{x:Operand}{v:AV}(h:ev s x=some v) (hn:notTuple v=true):partsV s [(0,x)]=some [(0,v)]:=by simp[partsV,h,hn]
theorem reachs_fa (h:H) (f:Fa):reachs h deep [encFa f]=[]:=(dats_snap (h:=h) (l:=[encFa f]) (l':=[encFa f]) rfl rfl deep (by simp[deep])).2
theorem reachs_facts (h:H) (l:List Fa):reachs h deep [factsV l]=[]:=(dats_snap (h:=h) (l:=[factsV l]) (l':=[factsV l]) rfl rfl deep (by simp[deep])).2
theorem appN0 (h:H) (f:Fa):appendW C.P true h 33 (.isl [] .full) (.isl [encFa f] .full)=some (.msl h.length 0 3 1 none,h++[.cells (cellsF [f]) .live]):=by
 obtain ⟨id,h',e,_⟩:=appendF (h:=h) (v:=.isl [] .full) (l:=[]) f (.inl ⟨rfl,rfl⟩) (by simp)
 have hsz:=szOk_encFa [f]
 have e4:srcV h 3 (.isl [encFa f] .full)=some (faC f,1):=by
  simp only[List.map_cons,List.map_nil] at hsz
  simp only[srcV,hsz,if_true];simp[encFa,cells_agg]
 simp only[appendW,knownCap,Bool.not_true,if_false,Bool.false_eq_true,appendN,u33,s35,b35,z35,e4]
 simp[szOk,cellsF]
theorem appN1 {h:H}{id:Nat}{l:List Fa}(f:Fa) (hid:h[id]?=some (.cells (cellsF l) .live)) (hl:l.length≤10000):appendW C.P true h 33 (.msl id 0 3 l.length none) (.isl [encFa f] .full)=some (.msl h.length 0 3 (l.length+1) none,h.set id (.cells (cellsF l) .dead)++[.cells (cellsF (l++[f])) .live]):=by
 have hsz:=szOk_encFa [f]
 have e4:srcV h 3 (.isl [encFa f] .full)=some (faC f,1):=by
  simp only[List.map_cons,List.map_nil] at hsz
  simp only[srcV,hsz,if_true];simp[encFa,cells_agg]
 have hcl:=cellsF_len l
 have hcf:cellsF (l++[f])=cellsF l++faC f:=by simp[cellsF]
 simp only[appendW,knownCap,Bool.not_true,if_false,Bool.false_eq_true,appendN,u33,s35,b35,z35,e4,hid]
 rw[if_neg (by simp),if_neg (by simp),if_pos ⟨trivial,trivial,by omega,by omega⟩,List.take_of_length_le (by omega),hcf]
set_option maxRecDepth 8000 in
set_option maxHeartbeats 4000000 in
theorem factsOf57 (c:Cl) (hl:c.body.length≤10000):CallP C 57 [encCl c]=some (factsV (factsOf c)):=by
 refine CallP_W rfl Tryz.func57 rfl (by kernel_rfl) (by simp[Tryz.f57]) fun R hR=>?_
 simp[go_sem,box37]
 refine W_mixed 1 _ (by rw[mixC];decide) (by kernel_rfl) ?_
 show MX C 57 _ 1 _ 0 _ _ _ _
 generalize hH0:[VObj.cells (clC c) .live]++List.replicate _ VObj.void=H0
 have pl:Pl [.cells (clC c) .live] H0 8:=hH0▸Pl.mk' _ 8
 have hlen:=pl.len
 clear hH0
 have p0:H0[0]?=some (.cells (clC c) .live):=pl.get rfl
 have q0:=ld33c p0
 have q1:=ld35c p0
 simp only[List.length_cons,List.length_nil,Nat.zero_add] at hlen pl
 refine MX_pure (.ptr 0 0) rfl rfl (pl.isV (i:=0) (by decide)) (by simp[opN,go_sem]) (ptr_mv (by omega) (Nat.le_refl _)) ?_
 refine MX_load (.ptr 0 0) (factsV c.body) (by simp[go_sem]) q0 (lids_no (by simp)) (pl.isV (i:=1) (by decide)) rfl ?_
 rcases c with ⟨body,head⟩
 cases body with
 | nil=>
  refine MX_call0 (args:=[.tmp 4]) [factsV []] (.isl [] .full) (by kernel_rfl) (.inr rfl) (by simp[go_sem]) (reachs_facts _ _) (call96n _) (pl.isV (i:=2) (by decide)) ?_
  refine MX_pure (.ptr 0 1) rfl rfl (pl.isV (i:=3) (by decide)) (by simp[opN,go_sem]) (ptr_mv (by omega) (Nat.le_refl _)) ?_
  refine MX_load (.ptr 0 1) (encFa head) (by simp[go_sem]) q1 (lids_no (by simp)) (pl.isV (i:=4) (by decide)) rfl ?_
  refine MX_build (parts:=[(0,.tmp 7)]) [(0,encFa head)] (.isl [encFa head] .full) (parts1 (by simp[go_sem]) rfl) (reachs_fa _ _) (build33_1 _ _) (pl.isV (i:=5) (by decide)) ?_
  refine MX_append (.isl [] .full) (.isl [encFa head] .full) _ _ _ (by simp[go_sem];rfl) (by simp[go_sem];rfl) (by rw[wrC];exact appN0 _ _) (by simp) rfl (pl.isV (i:=6) (by decide)) (fin_push (by omega)) ?_
  refine MX_pure (.msl 7 0 3 1 none) rfl rfl ?_ (by simp[opN,go_sem,AV.mv]) (by simp[AV.mv,hlen]) ?_
  ·rw[List.getElem?_set_ne (by simp)];exact pl.isV (i:=7) (by decide)
  refine ⟨by kernel_rfl,?_⟩
  simp[go_sem]
  refine hR _ _ _ (.inr rfl) ⟨.msl 7 0 3 1 none,by simp[resultV,resV,Tryz.f57,go_sem],?_⟩
  rw[mv_cellsF]
  exact snap_rowF (l:=[head]) (by simp[hlen]) (by simp)
 | cons a l=>
  have hc:=call96c a l H0 hl
  refine MX_callM (args:=[.tmp 4]) [factsV (a::l)] _ _ (by kernel_rfl) (.inr rfl) (by simp[go_sem]) (reachs_facts _ _) hc (pl.isV (i:=2) (by decide)) ?_
  rw[mv_cellsF,show (AV.msl H0.length 0 3 (a::l).length none).mv H0.length (1+2)=.msl 3 0 3 (a::l).length none by simp[AV.mv]]
  obtain ⟨H1,eH1⟩:∃g,g=H0.set (1+2) (.cells (cellsF (a::l)) .live):=⟨_,rfl⟩
  have hH1:H1[3]?=some (.cells (cellsF (a::l)) .live):=by rw[eH1];simp[hlen]
  have hlen1:H1.length=9:=by rw[eH1];simp[hlen]
  have hv:∀i,i<8→i≠2→isVoid H1[1+i]?=true:=fun i hi hn=>by rw[eH1];exact isV_set (pl.isV hi) (by omega)
  have p1:H1[0]?=some (.cells (clC ⟨a::l,head⟩) .live):=by rw[eH1,List.getElem?_set_ne (by simp)];exact p0
  have q1':=ld35c p1
  rw[←eH1]
  refine MX_pure (.ptr 0 1) rfl rfl (hv 3 (by decide) (by decide)) (by simp[opN,go_sem]) (ptr_mv (n:=H1.length) (by omega) (Nat.le_refl _)) ?_
  refine MX_load (.ptr 0 1) (encFa head) (by simp[go_sem]) q1' (lids_no (by simp)) (hv 4 (by decide) (by decide)) rfl ?_
  refine MX_build (parts:=[(0,.tmp 7)]) [(0,encFa head)] (.isl [encFa head] .full) (parts1 (by simp[go_sem]) rfl) (reachs_fa _ _) (build33_1 _ _) (hv 5 (by decide) (by decide)) ?_
  refine MX_append (.msl 3 0 3 (a::l).length none) (.isl [encFa head] .full) _ _ _ (by simp[go_sem]) (by simp[go_sem];rfl) (by rw[wrC];exact appN1 _ hH1 hl) (by simp) (by simp[mslId,tokId]) (hv 6 (by decide) (by decide)) (fin_dead (by omega) (by simp)) ?_
  refine MX_pure (.msl 7 0 3 (l.length+2) none) rfl rfl ?_ (by simp[opN,go_sem,AV.mv]) (by simp[AV.mv,hlen1]) ?_
  ·rw[List.getElem?_set_ne (by simp),List.getElem?_set_ne (by simp)];exact hv 7 (by decide) (by decide)
  refine ⟨by simp[lids,mslId,tokId];kernel_rfl,?_⟩
  simp[go_sem]
  refine hR _ _ _ (.inr rfl) ⟨.msl 7 0 3 (l.length+2) none,by simp[resultV,resV,Tryz.f57,go_sem],?_⟩
  rw[mv_cellsF]
  have:=snap_rowF (h:=(H1.set 3 (VObj.mv H1.length (1+6) (.cells (cellsF (a::l)) .dead))).set (1+6) (.cells (cellsF (a::l++[head])) .live)) (id:=7) (l:=a::l++[head]) (by simp[hlen1]) (by simp at hl ⊢;omega)
  simpa [factsOf] using this
theorem call57 (c:Cl) (hl:c.body.length≤10000) (h:H):callV C h (.func 57 []) (some [encCl c])=some (factsV (factsOf c),h):=callV_strip (by kernel_rfl) rfl (dat_cl c) (by simp[short_cl]) (by simp) (factsOf57 c hl)
set_option maxRecDepth 8000 in
set_option maxHeartbeats 4000000 in
theorem factsOf50 (c:Cl) (hl:c.body.length≤10000):CallP C 50 [encCl c]=some (factsV (factsOf c)):=by
 refine CallP_W rfl Tryz.func50 rfl (by kernel_rfl) (by simp[Tryz.f50]) fun R hR=>?_
 simp[go_sem,box37]
 refine W_mixed 1 _ (by rw[mixC];decide) (by kernel_rfl) ?_
 show MX C 50 _ 1 _ 0 _ _ _ _
 generalize hH0:[VObj.cells (clC c) .live]++List.replicate _ VObj.void=H0
 have pl:Pl [.cells (clC c) .live] H0 8:=hH0▸Pl.mk' _ 8
 have hlen:=pl.len
 clear hH0
 have p0:H0[0]?=some (.cells (clC c) .live):=pl.get rfl
 have q0:=ld33c p0
 have q1:=ld35c p0
 simp only[List.length_cons,List.length_nil,Nat.zero_add] at hlen pl
 refine MX_pure (.ptr 0 0) rfl rfl (pl.isV (i:=0) (by decide)) (by simp[opN,go_sem]) (ptr_mv (by omega) (Nat.le_refl _)) ?_
 refine MX_load (.ptr 0 0) (factsV c.body) (by simp[go_sem]) q0 (lids_no (by simp)) (pl.isV (i:=1) (by decide)) rfl ?_
 rcases c with ⟨body,head⟩
 cases body with
 | nil=>
  refine MX_call0 (args:=[.tmp 4]) [factsV []] (.isl [] .full) (by kernel_rfl) (.inr rfl) (by simp[go_sem]) (reachs_facts _ _) (call96n _) (pl.isV (i:=2) (by decide)) ?_
  refine MX_pure (.ptr 0 1) rfl rfl (pl.isV (i:=3) (by decide)) (by simp[opN,go_sem]) (ptr_mv (by omega) (Nat.le_refl _)) ?_
  refine MX_load (.ptr 0 1) (encFa head) (by simp[go_sem]) q1 (lids_no (by simp)) (pl.isV (i:=4) (by decide)) rfl ?_
  refine MX_build (parts:=[(0,.tmp 7)]) [(0,encFa head)] (.isl [encFa head] .full) (parts1 (by simp[go_sem]) rfl) (reachs_fa _ _) (build33_1 _ _) (pl.isV (i:=5) (by decide)) ?_
  refine MX_append (.isl [] .full) (.isl [encFa head] .full) _ _ _ (by simp[go_sem];rfl) (by simp[go_sem];rfl) (by rw[wrC];exact appN0 _ _) (by simp) rfl (pl.isV (i:=6) (by decide)) (fin_push (by omega)) ?_
  refine MX_pure (.msl 7 0 3 1 none) rfl rfl ?_ (by simp[opN,go_sem,AV.mv]) (by simp[AV.mv,hlen]) ?_
  ·rw[List.getElem?_set_ne (by simp)];exact pl.isV (i:=7) (by decide)
  refine ⟨by kernel_rfl,?_⟩
  simp[go_sem]
  refine hR _ _ _ (.inr rfl) ⟨.msl 7 0 3 1 none,by simp[resultV,resV,Tryz.f50,go_sem],?_⟩
  rw[mv_cellsF]
  exact snap_rowF (l:=[head]) (by simp[hlen]) (by simp)
 | cons a l=>
  have hc:=call96c a l H0 hl
  refine MX_callM (args:=[.tmp 4]) [factsV (a::l)] _ _ (by kernel_rfl) (.inr rfl) (by simp[go_sem]) (reachs_facts _ _) hc (pl.isV (i:=2) (by decide)) ?_
  rw[mv_cellsF,show (AV.msl H0.length 0 3 (a::l).length none).mv H0.length (1+2)=.msl 3 0 3 (a::l).length none by simp[AV.mv]]
  obtain ⟨H1,eH1⟩:∃g,g=H0.set (1+2) (.cells (cellsF (a::l)) .live):=⟨_,rfl⟩
  have hH1:H1[3]?=some (.cells (cellsF (a::l)) .live):=by rw[eH1];simp[hlen]
  have hlen1:H1.length=9:=by rw[eH1];simp[hlen]
  have hv:∀i,i<8→i≠2→isVoid H1[1+i]?=true:=fun i hi hn=>by rw[eH1];exact isV_set (pl.isV hi) (by omega)
  have p1:H1[0]?=some (.cells (clC ⟨a::l,head⟩) .live):=by rw[eH1,List.getElem?_set_ne (by simp)];exact p0
  have q1':=ld35c p1
  rw[←eH1]
  refine MX_pure (.ptr 0 1) rfl rfl (hv 3 (by decide) (by decide)) (by simp[opN,go_sem]) (ptr_mv (n:=H1.length) (by omega) (Nat.le_refl _)) ?_
  refine MX_load (.ptr 0 1) (encFa head) (by simp[go_sem]) q1' (lids_no (by simp)) (hv 4 (by decide) (by decide)) rfl ?_
  refine MX_build (parts:=[(0,.tmp 7)]) [(0,encFa head)] (.isl [encFa head] .full) (parts1 (by simp[go_sem]) rfl) (reachs_fa _ _) (build33_1 _ _) (hv 5 (by decide) (by decide)) ?_
  refine MX_append (.msl 3 0 3 (a::l).length none) (.isl [encFa head] .full) _ _ _ (by simp[go_sem]) (by simp[go_sem];rfl) (by rw[wrC];exact appN1 _ hH1 hl) (by simp) (by simp[mslId,tokId]) (hv 6 (by decide) (by decide)) (fin_dead (by omega) (by simp)) ?_
  refine MX_pure (.msl 7 0 3 (l.length+2) none) rfl rfl ?_ (by simp[opN,go_sem,AV.mv]) (by simp[AV.mv,hlen1]) ?_
  ·rw[List.getElem?_set_ne (by simp),List.getElem?_set_ne (by simp)];exact hv 7 (by decide) (by decide)
  refine ⟨by simp[lids,mslId,tokId];kernel_rfl,?_⟩
  simp[go_sem]
  refine hR _ _ _ (.inr rfl) ⟨.msl 7 0 3 (l.length+2) none,by simp[resultV,resV,Tryz.f50,go_sem],?_⟩
  rw[mv_cellsF]
  have:=snap_rowF (h:=(H1.set 3 (VObj.mv H1.length (1+6) (.cells (cellsF (a::l)) .dead))).set (1+6) (.cells (cellsF (a::l++[head])) .live)) (id:=7) (l:=a::l++[head]) (by simp[hlen1]) (by simp at hl ⊢;omega)
  simpa [factsOf] using this
theorem call50 (c:Cl) (hl:c.body.length≤10000) (h:H):callV C h (.func 50 []) (some [encCl c])=some (factsV (factsOf c),h):=callV_strip (by kernel_rfl) rfl (dat_cl c) (by simp[short_cl]) (by simp) (factsOf50 c hl)
end Go.VZ

/- What stays in memory. -/
namespace Go.VZ
open Go Go.V Go.Proofs TL
theorem ga {h g:H}{j:Nat}{o:VObj}(e:h[j]?=some o):(h++g)[j]?=some o:=by rw[List.getElem?_append_left (List.getElem?_eq_some_iff.1 e).1];exact e
theorem own_not {e:TypeId}{h:H}{v:AV}{xs:List AV}(o:OwnR e h v xs){i:Nat}{cs:List AV}{st:OSt}(hi:h[i]?=some (.cells cs st)):idOf v≠some i:=by
 intro hj
 rcases o with rfl | ⟨a,rfl,ha⟩
 ·cases hj
 ·simp only[idOf,Option.some.injEq] at hj
  subst hj;rw[ha] at hi;cases hi
end Go.VZ

/- The closures that gather terms: walked. -/
namespace Go.VZ
open Go Go.V Go.Proofs TL
def Ok3 (i3:Nat) (pr:List (Nat × VObj)) (h:H) (l:List T):Prop:=∃v,h[i3]?=some (.cells [v] .live)∧Row h v l∧∀p∈pr,h[p.1]?=some p.2∧p.1≠i3∧idOf v≠some p.1
theorem row_lt {h:H}{v:AV}{l:List T}(r:Row h v l){i:Nat}(e:idOf v=some i):i<h.length:=by
 rcases r with ⟨rfl,rfl⟩ | ⟨id,rfl,hid⟩
 ·cases e
 ·simp only[idOf,Option.some.injEq] at e;subst e;exact (List.getElem?_eq_some_iff.1 hid).1
theorem row_ga {h g:H}{v:AV}{l:List T}(r:Row h v l):Row (h++g) v l:=by
 rcases r with ⟨rfl,rfl⟩ | ⟨id,rfl,hid⟩
 ·exact .inl ⟨rfl,rfl⟩
 ·exact .inr ⟨id,rfl,ga hid⟩
theorem Ok3.push {i3:Nat}{pr:List (Nat × VObj)}{h:H}{l:List T}(k:Ok3 i3 pr h l) (o:VObj):Ok3 i3 ((h.length,o)::pr) (h++[o]) l:=by
 obtain ⟨v,k1,k2,k3⟩:=k
 refine ⟨v,ga k1,row_ga k2,fun p hp=>?_⟩
 rcases List.mem_cons.1 hp with rfl | hp
 ·exact ⟨by simp,fun e=>by have:=(List.getElem?_eq_some_iff.1 k1).1;simp only at e;omega,fun e=>by have:=row_lt k2 e;simp only at this;omega⟩
 ·exact ⟨ga (k3 p hp).1,(k3 p hp).2⟩
theorem Ok3.less {i3:Nat}{pr pr':List (Nat × VObj)}{h:H}{l:List T}(k:Ok3 i3 pr h l) (hp:∀p∈pr',p∈pr):Ok3 i3 pr' h l:=by
 obtain ⟨v,k1,k2,k3⟩:=k
 exact ⟨v,k1,k2,fun p h=>k3 p (hp p h)⟩
theorem Ok3.at_ {i3:Nat}{pr:List (Nat × VObj)}{h:H}{l:List T}(k:Ok3 i3 pr h l){j:Nat}{o:VObj}(hp:(j,o)∈pr):h[j]?=some o:=by
 obtain ⟨v,k1,k2,k3⟩:=k
 exact (k3 _ hp).1
def Clo (g:FuncId) (caps:List AV) (i3:Nat) (pr0:List (Nat × VObj)) (f:T→List T):Prop:=∀(t:T) (h:H) (l:List T),t.size<4000000→l.length<100000000→Ok3 i3 pr0 h l →
 ∃h',callV C h (.func g caps) (some [enc t])=some (.tuple [],h')∧∀pr,Ok3 i3 pr h l→Ok3 i3 pr h' (l++f t)
def zt:AV:=.agg [.int .i64 0,.str ⟨#[]⟩,.int .i64 0,.isl [] .full]
def zu:AV:=.agg [.int .i64 0,.str ⟨#[]⟩,.int .i64 0,.isl [] .unk]
def zuc:List AV:=[.int .i64 0,.str ⟨#[]⟩,.int .i64 0,.isl [] .unk]
theorem build23_z (h:H):buildSliceV C.P h 23 1 [(0,zt)]=some (.isl [zu] .full,h):=buildSlice_dats u23 s25 z25 rfl (by omega) rfl (es:=[zu]) rfl rfl (by simp) rfl
theorem reachs_zt (h:H):reachs h deep [zt]=[]:=(dats_snap (h:=h) (l:=[zt]) (l':=[zu]) rfl rfl deep (by simp[deep])).2
theorem appZ0 (h:H):appendW C.P true h 23 (.isl [] .full) (.isl [zu] .full)=some (.msl h.length 0 4 1 none,h++[.cells zuc .live]):=by
 have e4:srcV h 4 (.isl [zu] .full)=some (zuc,1):=by simp[srcV,szOk,zu,cells_agg,zuc]
 simp only[appendW,knownCap,Bool.not_true,if_false,Bool.false_eq_true,appendN,u23,s25,b25,z25,e4]
 simp[szOk]
theorem appZ1 {h:H}{id:Nat}{l:List T}(hid:h[id]?=some (.cells (cellsT l) .live)) (hl:l.length<100000000):appendW C.P true h 23 (.msl id 0 4 l.length none) (.isl [zu] .full)=some (.msl h.length 0 4 (l.length+1) none,h.set id (.cells (cellsT l) .dead)++[.cells (cellsT l++zuc) .live]):=by
 have e4:srcV h 4 (.isl [zu] .full)=some (zuc,1):=by simp[srcV,szOk,zu,cells_agg,zuc]
 have hcl:=cellsT_len l
 simp only[appendW,knownCap,Bool.not_true,if_false,Bool.false_eq_true,appendN,u23,s25,b25,z25,e4,hid]
 rw[if_neg (by simp),if_neg (by simp),if_pos ⟨trivial,trivial,by omega,by omega⟩,List.take_of_length_le (by omega)]
theorem st25r {h:H}{id:Nat}{l:List T}(x:T) (hid:h[id]?=some (.cells (cellsT l++zuc) .live)):storeV C.P h 25 (.ptr id (4*l.length)) (enc x)=some (h.set id (.cells (cellsT (l++[x])) .live)):=by
 have hcl:=cellsT_len l
 have e:cellsT (l++[x])=cellsT l++(enc x).cells:=by simp[cellsT]
 rw[e]
 simp only[storeV,hid,s25]
 rw[enc_eq]
 have e2:(cellsT l++zuc).length=4*l.length+4:=by simp[hcl,zuc]
 simp only[List.length_cons,List.length_nil,e2]
 rw[if_pos ⟨trivial,by omega⟩,List.take_append_of_le_length (by omega),List.take_of_length_le (by omega),List.drop_of_length_le (by omega),List.append_nil]
 rfl
theorem mvs_cellsT (l:List T) (i k:Nat):AV.mvs i k (cellsT l)=cellsT l:=mvs_self _ (by
 intro a ha i k
 simp only[cellsT,List.mem_flatMap] at ha
 obtain ⟨f,_,ha⟩:=ha
 rw[enc_cells] at ha
 simp only[List.mem_cons,List.not_mem_nil,or_false] at ha
 rcases ha with rfl | rfl | rfl | rfl<;>rfl) i k
theorem mv_cellsL (l:List T) (i k:Nat):VObj.mv i k (.cells (cellsT l) .live)=.cells (cellsT l) .live:=by simp[VObj.mv,mvs_cellsT]
theorem mv_cellsLz (l:List T) (i k:Nat):VObj.mv i k (.cells (cellsT l++zuc) .live)=.cells (cellsT l++zuc) .live:=by
 have:AV.mvs i k (cellsT l++zuc)=cellsT l++zuc:=mvs_self _ (by
  intro a ha i k
  rcases List.mem_append.1 ha with ha | ha
  ·simp only[cellsT,List.mem_flatMap] at ha
   obtain ⟨f,_,ha⟩:=ha
   rw[enc_cells] at ha
   simp only[List.mem_cons,List.not_mem_nil,or_false] at ha
   rcases ha with rfl | rfl | rfl | rfl<;>rfl
  ·simp only[zuc,List.mem_cons,List.not_mem_nil,or_false] at ha
   rcases ha with rfl | rfl | rfl | rfl<;>rfl) i k
 simp[VObj.mv,this]
theorem row_not {h:H}{v:AV}{l:List T}(r:Row h v l){i:Nat}{x:AV}{st:OSt}(hi:h[i]?=some (.cells [x] st)):idOf v≠some i:=by
 intro e
 rcases r with ⟨rfl,rfl⟩ | ⟨id,rfl,hid⟩
 ·cases e
 ·simp only[idOf,Option.some.injEq] at e;subst e
  rw[hid] at hi
  have:=cellsT_len l
  simp only[Option.some.injEq,VObj.cells.injEq] at hi
  rw[hi.1] at this;simp at this;omega
theorem ld23v {h:H}{i:Nat}{v:AV}{l:List T}(hi:h[i]?=some (.cells [v] .live)) (r:Row h v l):loadV C.P h 23 (.ptr i 0)=some v:=by
 rcases r with ⟨rfl,rfl⟩ | ⟨id,rfl,hid⟩<;>simp[loadV,hi,cellsAt,a23,s23]
theorem st23v {h:H}{i:Nat}{v u:AV}(hi:h[i]?=some (.cells [v] .live)) (hu:∃id n,u=.msl id 0 4 n none):storeV C.P h 23 (.ptr i 0) u=some (h.set i (.cells [u] .live)):=by
 obtain ⟨id,n,rfl⟩:=hu
 simp[storeV,hi,s23]
theorem lenRow {h:H}{v:AV}{l:List T}(r:Row h v l):lenV C.P 23 v=some (.int .i64 l.length):=by
 rcases r with ⟨rfl,rfl⟩ | ⟨id,rfl,hid⟩
 ·simp[lenV,u23]
 ·simp[lenV,u23]
theorem evc (s:PT):ev s (.const (.agg #[.int .i64 0,.string ⟨#[]⟩,.int .i64 0,.slice none 0 0]))=some zt:=by kernel_rfl
theorem ptr_mv' {i o n k:Nat}(h:i<n):(AV.ptr i o).mv n k=.ptr i o:=by simp[AV.mv];omega
end Go.VZ

/- The closures that gather terms: walked. -/
namespace Go.VZ
open Go Go.V Go.Proofs TL
theorem callV_openc {f:FuncId}{args caps:List AV}{h:H}(hb:hasBody C.P f=true) (hm:C.mode f=.openH):callV C h (.func f caps) (some args)=Go.V.Call C f (args++caps) h:=by
 simp only[callV,hb,if_true]
 unfold applyCall
 rw[hm]
theorem ok3_done {i3 b:Nat}{h H2:H}{l:List T}{t:T}{v:AV}(k1:h[i3]?=some (.cells [v] .live)) (_k2:Row h v l) (hb:h.length≤b) (e3:H2[i3]?=some (.cells [.msl b 0 4 (l.length+1) none] .live)) (eb:H2[b]?=some (.cells (cellsT (l++[t])) .live))
  (ho:∀j,j<h.length→j≠i3→idOf v≠some j→H2[j]?=h[j]?):∀pr,Ok3 i3 pr h l→Ok3 i3 pr H2 (l++[t]):=by
 rintro pr ⟨v',k1',_,k3⟩
 rw[k1] at k1';simp only[Option.some.injEq,VObj.cells.injEq,List.cons.injEq,and_true] at k1';subst k1'
 refine ⟨_,e3,.inr ⟨b,by simp,eb⟩,fun p hp=>?_⟩
 obtain ⟨a,c,d⟩:=k3 p hp
 have hlt:=(List.getElem?_eq_some_iff.1 a).1
 exact ⟨by rw[ho _ hlt c d];exact a,c,fun e=>by simp only[idOf,Option.some.injEq] at e;omega⟩
set_option maxRecDepth 8000 in
set_option maxHeartbeats 4000000 in
theorem clo153 (i3:Nat):Clo 153 [.ptr i3 0] i3 [] (fun t=>[t]):=by
 rintro t h l ht hl ⟨v,k1,k2,-⟩
 rw[callV_openc (by kernel_rfl) rfl]
 show ∃h',Go.V.Call C 153 [enc t,.ptr i3 0] h=_∧_
 suffices hh:∃r h',Go.V.Call C 153 [enc t,.ptr i3 0] h=some (r,h')∧(r=.tuple []∧∀pr,Ok3 i3 pr h l→Ok3 i3 pr h' (l++[t])) by
  obtain ⟨r,h',a,rfl,c⟩:=hh
  exact ⟨h',a,c⟩
 refine Call_WQ rfl Tryz.func153 rfl (by kernel_rfl) (by simp[Tryz.f153]) fun R hR=>?_
 simp[go_sem,box25]
 obtain ⟨h1,eh1⟩:∃g,g=h++[.cells (enc t).cells .live]:=⟨_,rfl⟩
 rw[←enc_cells,←eh1]
 have n1:h1[h.length]?=some (.cells (enc t).cells .live):=by rw[eh1];simp
 have n3:h1[i3]?=some (.cells [v] .live):=by rw[eh1];exact ga k1
 have hr1:Row h1 v l:=by rw[eh1];exact row_ga k2
 have hlen1:h1.length=h.length+1:=by rw[eh1];simp
 have hi3:i3<h.length:=(List.getElem?_eq_some_iff.1 k1).1
 have old:∀j,j<h.length→h1[j]?=h[j]?:=fun j hj=>by rw[eh1];exact List.getElem?_append_left hj
 clear eh1
 refine W_mixed 1 _ (by rw[mixC];decide) (by kernel_rfl) ?_
 show MX C 153 _ h1.length _ 0 _ _ _ _
 generalize hH0:h1++List.replicate _ VObj.void=H0
 have pl:Pl h1 H0 8:=hH0▸Pl.mk' _ 8
 have hlen:=pl.len
 clear hH0
 have p1:=pl.get n1
 have p3:=pl.get n3
 have r0:Row H0 v l:=by
  rcases hr1 with ⟨rfl,rfl⟩ | ⟨id,rfl,hid⟩
  ·exact .inl ⟨rfl,rfl⟩
  ·exact .inr ⟨id,rfl,pl.get hid⟩
 have q0:=ld23v p3 r0
 have q1:=ldn25 t p1
 have hln:=lenRow k2
 have hvm:v.mv H0.length (h1.length+0)=v:=by
  rcases k2 with ⟨rfl,rfl⟩ | ⟨id,rfl,hid⟩
  ·rfl
  ·have:=(List.getElem?_eq_some_iff.1 hid).1
   simp[AV.mv];omega
 refine MX_load (.ptr i3 0) v (by simp[go_sem]) q0 (lids_no (by omega)) (pl.isV (i:=0) (by decide)) hvm ?_
 refine MX_load (.ptr h.length 0) (enc t) (by simp[go_sem]) q1 (lids_no (by omega)) (pl.isV (i:=1) (by decide)) (mv_enc _ _ _) ?_
 refine MX_pure (.int .i64 l.length) rfl rfl (pl.isV (i:=2) (by decide)) (by simp[opN,go_sem,hln]) rfl ?_
 refine MX_build (parts:=[(0,.const (.agg #[.int .i64 0,.string ⟨#[]⟩,.int .i64 0,.slice none 0 0]))]) [(0,zt)] (.isl [zu] .full) (parts1 (evc _) rfl) (reachs_zt _) (build23_z _) (pl.isV (i:=3) (by decide)) ?_
 have hb4:h1.length+4<H0.length:=by omega
 have app:∃h' g,appendW C.P true H0 23 v (.isl [zu] .full)=some (.msl H0.length 0 4 (l.length+1) none,h')∧h'.length≤H0.length+1∧(mslId v++tokId v++mslId (.isl [zu] .full)).contains (h1.length+4)=false ∧
   fin (h1.length+4) (mslId v++tokId v++mslId (.isl [zu] .full)) H0 h'=g∧g.length=H0.length∧g[h1.length+4]?=some (.cells (cellsT l++zuc) .live)∧∀j,j≠h1.length+4→idOf v≠some j→g[j]?=H0[j]?:=by
  rcases r0 with ⟨rfl,rfl⟩ | ⟨id,rfl,hid⟩
  ·refine ⟨_,_,appZ0 _,by simp,rfl,fin_push hb4,by simp,?_,fun j hj _=>List.getElem?_set_ne (fun e=>hj e.symm)⟩
   rw[List.getElem?_set_self hb4];rfl
  ·have hid1:id<h1.length:=by
    rcases hr1 with ⟨e,_⟩ | ⟨id',e,hid'⟩
    ·subst e;exact absurd hid (by intro hh;rename_i c;cases c)
    ·simp only[AV.msl.injEq] at e;rw[←e.1] at hid';exact (List.getElem?_eq_some_iff.1 hid').1
   refine ⟨_,_,appZ1 hid hl,by simp,by simp[mslId,tokId];omega,fin_dead hb4 (by omega),by simp,?_,fun j hj hn=>?_⟩
   ·rw[List.getElem?_set_self (by simpa using hb4),mv_cellsLz]
   ·rw[List.getElem?_set_ne (fun e=>hj e.symm),List.getElem?_set_ne (fun e=>hn (by rw[e];rfl))]
 obtain ⟨h',g,a1,a2,a3,a4,a5,a6,a7⟩:=app
 refine MX_append v (.isl [zu] .full) _ h' g (by simp[go_sem]) (by simp[go_sem];rfl) (by rw[wrC];exact a1) a2 a3 (pl.isV (i:=4) (by decide)) a4 ?_
 rw[show (AV.msl H0.length 0 4 (l.length+1) none).mv H0.length (h1.length+4)=.msl (h1.length+4) 0 4 (l.length+1) none by simp[AV.mv]]
 have nv:∀i,4<i→i<8→isVoid g[h1.length+i]?=true:=fun i hi hi8=>by
  rw[a7 _ (by omega) (fun e=>by have:=row_lt hr1 e;omega)];exact pl.isV hi8
 refine MX_pure (.ptr (h1.length+4) (4*l.length)) rfl rfl (nv 5 (by decide) (by decide)) (by simp[opN,go_sem,idxRow]) (ptr_mv' (by omega)) ?_
 have s1:=st25r t a6
 refine MX_store (h1.length+4) (4*l.length) (enc t) _ (by simp[go_sem]) (by simp[go_sem]) s1 (by omega) (nv 6 (by decide) (by decide)) ?_
 rw[mv_cellsL]
 obtain ⟨g2,eg2⟩:∃g2,g2=g.set (h1.length+4) (.cells (cellsT (l++[t])) .live):=⟨_,rfl⟩
 rw[←eg2]
 have b1:g2[h1.length+4]?=some (.cells (cellsT (l++[t])) .live):=by rw[eg2];exact List.getElem?_set_self (by omega)
 have b2:∀j,j≠h1.length+4→g2[j]?=g[j]?:=fun j hj=>by rw[eg2];exact List.getElem?_set_ne (fun e=>hj e.symm)
 have b3:g2[i3]?=some (.cells [v] .live):=by rw[b2 _ (by omega),a7 _ (by omega) (row_not k2 k1)];exact p3
 have b4:g2.length=H0.length:=by rw[eg2];simpa using a5
 clear eg2
 have s2:=st23v (u:=.msl (h1.length+4) 0 4 (l.length+1) none) b3 ⟨_,_,rfl⟩
 refine MX_store i3 0 (.msl (h1.length+4) 0 4 (l.length+1) none) _ (by simp[go_sem]) (by simp[go_sem]) s2 (by omega) (by rw[b2 _ (by omega)];exact nv 7 (by decide) (by decide)) ?_
 rw[show VObj.mv g2.length (h1.length+7) (.cells [.msl (h1.length+4) 0 4 (l.length+1) none] .live)=.cells [.msl (h1.length+4) 0 4 (l.length+1) none] .live by simp[VObj.mv,AV.mvs,AV.mv];omega]
 refine ⟨?_,?_⟩
 ·unfold fpOk
  generalize hb:Region.before _=b
  have hb1:(b.getD 7 0).testBit 0=true:=by rw[←hb];kernel_rfl
  have hb2:(b.getD 6 0).testBit 4=true:=by rw[←hb];kernel_rfl
  clear hb
  have hx:∀x∈mslId v++tokId v++mslId (.isl [zu] .full),x<h.length∧x≠i3:=by
   have hn:=row_not k2 k1
   rcases k2 with ⟨rfl,rfl⟩ | ⟨id,rfl,hid⟩
   ·intro x hx;simp[mslId,tokId] at hx
   ·intro x hx
    simp[mslId,tokId] at hx
    subst hx
    exact ⟨(List.getElem?_eq_some_iff.1 hid).1,fun e=>hn (by rw[←e];rfl)⟩
  generalize mslId v++tokId v++mslId (.isl [zu] .full)=X at hx
  have y1:∀k,(h1.length+k)∉X:=fun k hk=>by have:=(hx _ hk).1;omega
  have y2:i3∉X:=fun hk=>(hx _ hk).2 rfl
  have y3:h.length∉X:=fun hk=>by have:=(hx _ hk).1;omega
  have z1:∀x∈X,∀k,¬x=h.length+1+k:=fun x h' k e=>by have:=(hx x h').1;omega
  have z2:∀x∈X,¬x=h.length:=fun x h' e=>by have:=(hx x h').1;omega
  have z3:∀k,¬(h.length+1+k∈X):=fun k h'=>by have:=(hx _ h').1;omega
  simp[lids,meet,List.range,List.range.loop,hlen1]
  refine ⟨⟨.inl (by omega),.inl (by omega)⟩,⟨.inl ⟨by omega,fun x h'=>(hx x h').2⟩,.inl ⟨by omega,z2⟩,.inl ⟨z3 3,fun x h'=>z1 x h' 3⟩⟩,⟨.inl ⟨by omega,by omega⟩,.inl ⟨by omega,by omega⟩,?_⟩,?_,.inl ⟨by omega,by omega⟩,.inl ⟨by omega,by omega⟩,?_,.inl ⟨⟨by omega,by omega⟩,by omega,by omega⟩⟩
  ·simpa [Array.getD_eq_getD_getElem?] using hb2
  ·simpa [Array.getD_eq_getD_getElem?] using hb1
  ·exact .inl ⟨⟨by omega,fun x h'=>⟨z1 x h' 7,(hx x h').2⟩⟩,z3 7,by omega,y2⟩
 simp[go_sem]
 refine hR _ _ _ (.inl rfl) ⟨.tuple [],rfl,rfl,?_⟩
 refine ok3_done k1 k2 (b:=h1.length+4) (by omega) (List.getElem?_set_self (by omega)) (by rw[List.getElem?_set_ne (by omega)];exact b1) fun j hj h3 hn=>?_
 rw[List.getElem?_set_ne (fun e=>h3 e.symm),b2 _ (by omega),a7 _ (by omega) hn,pl.old _ (by omega),old _ hj]
end Go.VZ

/- term.walk over a closure that gathers terms: walked. -/
namespace TL
mutual
def walkT (f:T→List T):T→List T
 | .mk k n s l=>f (.mk k n s l)++walkTs f l
def walkTs (f:T→List T):List T→List T
 | []=>[]
 | t::l=>walkT f t++walkTs f l
end
theorem walkT_eq (f:T→List T) (t:T):walkT f t=f t++walkTs f t.kids:=by cases t;rfl
theorem walkTs_map (f:T→List T):∀l,walkTs f l=l.flatMap (walkT f)
 | []=>rfl
 | t::l=>by rw[walkTs,walkTs_map f l];rfl
theorem walkTs_append (f:T→List T) (l m:List T):walkTs f (l++m)=walkTs f l++walkTs f m:=by simp[walkTs_map]
mutual
theorem walkT_len (f:T→List T) (hf:∀t,(f t).length≤1):∀t:T,(walkT f t).length≤t.size
 | .mk k n s l=>by
  have:=walkTs_len f hf l
  have:=hf (.mk k n s l)
  rw[walkT,List.length_append,T.size];omega
theorem walkTs_len (f:T→List T) (hf:∀t,(f t).length≤1):∀l:List T,(walkTs f l).length≤sizes l
 | []=>by simp[walkTs]
 | t::l=>by
  have:=walkT_len f hf t
  have:=walkTs_len f hf l
  rw[walkTs,List.length_append,sizes];omega
end
end TL
namespace Go.VZ
open Go Go.V Go.Proofs TL
def Wk (g:FuncId) (caps:List AV) (i3:Nat) (pr0:List (Nat × VObj)) (f:T→List T) (t:T):Prop:=∀(h:H) (l:List T),t.size<4000000→l.length+t.size≤90000000→Ok3 i3 pr0 h l →
 ∃h',Go.V.Call C 152 [enc t,.func g caps] h=some (.tuple [],h')∧∀pr,Ok3 i3 pr h l→Ok3 i3 pr h' (l++walkT f t)
def NI152 (g:FuncId) (caps:List AV) (i3:Nat) (f:T→List T) (t:T) (h0:H) (l:List T) (n:Nat) (st:PT) (h:H):Prop:=∃k:Nat,n=t.kids.length-k∧k≤t.kids.length∧st.get 1=.func g caps∧st.get 10=terms t.kids∧st.get 11=.int .i64 t.kids.length∧st.get 12=.int .i64 k ∧
 ∀pr,Ok3 i3 pr h0 l→Ok3 i3 pr h (l++(f t++walkTs f (t.kids.take k)))
set_option maxRecDepth 8000 in
set_option maxHeartbeats 4000000 in
theorem walk152 (g:FuncId) (caps:List AV) (i3:Nat) (pr0:List (Nat × VObj)) (f:T→List T) (hf:∀t,(f t).length≤1) (hg:Clo g caps i3 pr0 f):∀t,Wk g caps i3 pr0 f t:=by
 refine T.ind fun t ih h0 l hs hl ok=>?_
 suffices hh:∃r h',Go.V.Call C 152 [enc t,.func g caps] h0=some (r,h')∧(r=.tuple []∧∀pr,Ok3 i3 pr h0 l→Ok3 i3 pr h' (l++walkT f t)) by
  obtain ⟨r,h',a,rfl,c⟩:=hh
  exact ⟨h',a,c⟩
 refine Call_WQ rfl Tryz.func152 rfl (by kernel_rfl) (by simp[Tryz.f152]) fun R hR=>?_
 have up:∀(h:H) (m:List T) (o:VObj) pr,Ok3 i3 pr h m→Ok3 i3 pr (h++[o]) m:=fun h m o pr k=>(k.push o).less fun p hp=>List.mem_cons_of_mem _ hp
 have hsk:=size_kids t
 have e1:=ldb25z t h0
 obtain ⟨h1,c1,ok1⟩:=hg t (h0++[.cells (enc t).cells .live]) l hs (by omega) (up _ _ _ _ ok)
 have hb:h1[h0.length]?=some (.cells (enc t).cells .live):=(ok1 _ (ok.push (.cells (enc t).cells .live))).at_ (List.mem_cons_self ..)
 have e2:loadV C.P h1 23 (.ptr h0.length 3)=some (terms t.kids):=by
  rw[enc_cells] at hb
  simp[loadV,hb,cellsAt,a23,s23,terms]
 have hln:=len23t t.kids
 simp[go_sem,box25]
 rw[←enc_cells]
 simp[go_sem,e1,c1,e2,hln]
 refine W_loop (NI152 g caps i3 f t h0 l) t.kids.length ⟨0,rfl,Nat.zero_le _,by simp[go_sem],by simp[go_sem],by simp[go_sem],by simp[go_sem],fun pr k=>by simpa [walkTs] using ok1 _ (up _ _ _ _ k)⟩ ?_
 clear e1 e2 c1 hb ok1
 rintro n st h ⟨k,rfl,hk,g1,g10,g11,g12,okk⟩
 have hlen0:(l++(f t++walkTs f (t.kids.take k))).length≤l.length+1+sizes (t.kids.take k):=by
  have:=hf t
  have:=walkTs_len f hf (t.kids.take k)
  simp only[List.length_append];omega
 by_cases hlt:k<t.kids.length
 ·have hlt':(k:Int)<t.kids.length:=by omega
  have hix:=idx23t t.kids k hlt
  have e4:=st25z t.kids[k] h
  have e5:=ldb25z t.kids[k] h
  have w2:IntKind.i64.wrap ((k:Int)+1)=((k+1:Nat):Int):=by
   have:=len_sizes t.kids
   rw[wrap_in (by omega)];omega
  have hks:=kid_size (List.getElem_mem hlt)
  have hts:=take_sizes hlt
  have htl:=take_sizes_le t.kids (k+1)
  obtain ⟨h2,c2,ok2⟩:=ih t.kids[k] (List.getElem_mem hlt) (h++[.cells (enc t.kids[k]).cells .live]) (l++(f t++walkTs f (t.kids.take k))) (by omega) (by omega) (up _ _ _ _ (okk _ ok))
  have cv:=(callV_open (f:=152) (by kernel_rfl) rfl).trans c2
  simp[go_sem,g1,g10,g11,g12,hlt',hix,ld25,e4,e5,cv,-Int.natCast_add,w2]
  refine ⟨t.kids.length-(k+1),by omega,k+1,rfl,hlt,by simp[go_sem,g1],by simp[go_sem,g10],by simp[go_sem,g11],by simp[go_sem],fun pr kk=>?_⟩
  have:=ok2 _ (up _ _ (.cells (enc t.kids[k]).cells .live) _ (okk _ kk))
  rw[List.take_succ_eq_append_getElem hlt,walkTs_append]
  simpa [walkTs,List.append_assoc] using this
 ·have:k=t.kids.length:=by omega
  subst this
  rw[List.take_length] at okk
  simp[go_sem,g11,g12]
  refine hR _ _ _ (.inl rfl) ⟨.tuple [],rfl,rfl,fun pr kk=>?_⟩
  rw[walkT_eq];exact okk _ kk
end Go.VZ

/- A row in a field that grows; the program's copy of a term. -/
namespace Go.VZ
open Go Go.V Go.Proofs TL
theorem field23 {h:H}{v:AV}{xs:List T}{i o:Nat}{cs:List AV}(y:T) (go:OwnR 25 h v (xs.map enc)) (hi:h[i]?=some (.cells cs .live)) (ho:o<cs.length) (hl:xs.length<10000000) :
  ∃v' h',appendW C.P false h 23 v (.isl [enc y] .full)=some (v',h')∧storeV C.P h' 23 (.ptr i o) v'=some (h'.set i (.cells (cs.set o v') .live))∧OwnR 25 (h'.set i (.cells (cs.set o v') .live)) v' ((xs++[y]).map enc) ∧
   (∀(j:Nat) c st,j≠i→h[j]?=some (.cells c st)→(h'.set i (.cells (cs.set o v') .live))[j]?=some (.cells c st))∧(h'.set i (.cells (cs.set o v') .live))[i]?=some (.cells (cs.set o v') .live):=by
 obtain ⟨v',h',ha,hw,hkp,hid⟩:=append23 (ys:=[y]) (x:=.full) go (by simp;omega)
 have hne:∀(j:Nat) c st,h[j]?=some (.cells c st)→idOf v≠some j:=fun j c st hj=>own_not go hj
 have hi':=hkp.get hi (hne _ _ _ hi)
 have hlt:=(List.getElem?_eq_some_iff.1 hi').1
 refine ⟨v',h',by simpa using ha,?_,?_,?_,List.getElem?_set_self hlt⟩
 ·obtain ⟨x,rfl⟩:=hw.isl
  simp[storeV,hi',s23,ho]
 ·refine hw.keep (Keep.set _ _ _) (fun j hj e=>?_)
  simp only[Option.some.injEq] at e
  subst e
  rcases hid with h1 | ⟨h1,h2⟩
  ·exact hne _ _ _ hi (h1▸hj)
  ·have:=(List.getElem?_eq_some_iff.1 hi).1
   rw[h2] at hj;simp only[Option.some.injEq] at hj;omega
 ·intro j c st hj hc
  rw[List.getElem?_set_ne (fun e=>hj e.symm)]
  exact hkp.get hc (hne _ _ _ hc)
def tcv (t:T) (v:AV):List AV:=[.int .i64 t.kind,.str t.name,.int .i64 t.sort,v]
def NI220 (t:T) (m:Nat) (s:PT) (h:H):Prop:=∃(k:Nat) (v:AV),m=t.kids.length-k∧k≤t.kids.length∧s.get 1=.ptr 0 0∧s.get 2=.ptr 1 0∧s.get 9=terms t.kids∧s.get 10=.int .i64 t.kids.length∧s.get 11=.int .i64 k∧h[0]?=some (.cells (tcv t v) .live)∧h[1]?=some (.cells zc .live) ∧
 OwnR 25 h v ((t.kids.take k).map enc)
set_option maxRecDepth 8000 in
set_option maxHeartbeats 2000000 in
theorem clone220 (t:T) (hv:t.size<4000000) (hc:∀k∈t.kids,CallP C 220 [enc k]=some (enc k)):CallP C 220 [enc t]=some (enc t):=by
 refine CallP_W rfl Tryz.func220 rfl (by kernel_rfl) (by simp[Tryz.f220]) fun R hR=>?_
 have hsz:=size_kids t
 have hlen:=len_sizes t.kids
 have hln:=len23t t.kids
 have q1:∀(y:VObj) (a b c:AV),storeV C.P [.cells [a,b,c,terms t.kids] .live,y] 23 (.ptr 0 3) (.isl [] .full)=some [.cells [a,b,c,.isl [] .full] .live,y]:=fun y a b c=>by simp[storeV,s23]
 have q2:∀(y:VObj) (a b c:AV),loadV C.P [.cells [a,b,c,terms t.kids] .live,y] 23 (.ptr 0 3)=some (terms t.kids):=fun y a b c=>by simp[loadV,cellsAt,a23,s23,terms]
 simp[go_sem,box25,q1,q2,hln]
 refine W_loop (NI220 t) t.kids.length ⟨0,.isl [] .full,rfl,Nat.zero_le _,by simp[go_sem],by simp[go_sem],by simp[go_sem],by simp[go_sem],by simp[go_sem],rfl,rfl,.inl rfl⟩ ?_
 rintro m s h ⟨k,v,rfl,hk,g1,g2,g9,g10,g11,m0,m1,go⟩
 have hvi:=go.isl
 have ntv:notTuple v=true:=by obtain ⟨x,rfl⟩:=hvi;rfl
 by_cases hlt:k<t.kids.length
 ·have hlt':(k:Int)<t.kids.length:=by omega
  have hix:=idx23t t.kids k hlt
  have w2:IntKind.i64.wrap ((k:Int)+1)=((k+1:Nat):Int):=by rw[wrap_in (by omega)];omega
  have ck:∀h,callV C h (.func 220 []) (some [enc t.kids[k]])=some (enc t.kids[k],h):=fun h=>callV_strip (by kernel_rfl) rfl (dat_enc _) (by simp[short_enc]) (by simp) (hc _ (List.getElem_mem hlt))
  have e4:=st25z t.kids[k] h
  have e5:=ldb25z t.kids[k] h
  obtain ⟨h2,eh2⟩:∃g,g=h++[.cells (enc t.kids[k]).cells .live]:=⟨_,rfl⟩
  have n0:h2[0]?=some (.cells (tcv t v) .live):=by rw[eh2];exact ga m0
  have n1:h2[1]?=some (.cells zc .live):=by rw[eh2];exact ga m1
  have go2:OwnR 25 h2 v ((t.kids.take k).map enc):=by rw[eh2];exact go.keep (Keep.append _ _ none) (by simp)
  have nb:h2[h.length]?=some (.cells (enc t.kids[k]).cells .live):=by rw[eh2];simp
  have l0:loadV C.P h2 23 (.ptr 0 3)=some v:=by simp[loadV,n0,tcv,cellsAt,a23,s23]
  rw[←eh2] at e4 e5
  obtain ⟨v',h',ha,hst,hw,hoth,hself⟩:=field23 (i:=0) (o:=3) t.kids[k] go2 n0 (by simp[tcv]) (by simp;omega)
  have etk:t.kids.take k++[t.kids[k]]=t.kids.take (k+1):=List.take_append_getElem hlt
  rw[etk] at hw
  have hn0:=own_not go2 n0
  have hnb:=own_not go2 nb
  simp[go_sem,g9,g10,g11,hlt',hix,ld25,e4]
  refine W_regionS 6 _ (by simp[mixC]) rfl ?_
  simp[go_sem,g1,g11,l0,e5,ck,build23_1,ha,hst,-Int.natCast_add,w2]
  refine ⟨?_,t.kids.length-(k+1),by omega,k+1,v',rfl,hlt,by simp[go_sem,g1],by simp[go_sem,g2],by simp[go_sem,g9],by simp[go_sem,g10],by simp[go_sem],hself,hoth 1 _ _ (by omega) n1,hw⟩
  rcases go2 with rfl | ⟨id,rfl,hd⟩
  ·simp[go_sem,idsOk,ldIds,apIds,ldId,appId,mslId]
  ·simp only[idOf,ne_eq,Option.some.injEq] at hn0 hnb
   simp[go_sem,idsOk,ldIds,apIds,ldId,appId,mslId]
   (try omega)
 ·have:k=t.kids.length:=by omega
  subst this
  rw[List.take_length] at go
  obtain ⟨x,rfl⟩:=go.isl
  have e5:loadV C.P h 25 (.ptr 0 0)=some (.agg [.int .i64 t.kind,.str t.name,.int .i64 t.sort,.isl (t.kids.map enc) x]):=by simp[loadV,m0,cellsAt,a25,s25,tcv]
  have e6:storeV C.P h 25 (.ptr 1 0) (.agg [.int .i64 t.kind,.str t.name,.int .i64 t.sort,.isl (t.kids.map enc) x])=some (h.set 1 (.cells [.int .i64 t.kind,.str t.name,.int .i64 t.sort,.isl (t.kids.map enc) x] .live)):=by simp[storeV,m1,s25,zc]
  have e7:=(List.getElem?_eq_some_iff.1 m1).1
  generalize hzz:AV.agg [.int .i64 t.kind,.str t.name,.int .i64 t.sort,.isl (t.kids.map enc) x]=zz at e5 e6
  simp[go_sem,g1,g2,g10,g11,e5,e6]
  refine hR _ _ _ (.inr rfl) ⟨zz,?_,?_⟩
  ·simp[resultV,resV,Tryz.f220,go_sem,g2,loadV,List.getElem?_set_self e7,cellsAt,a25,s25,←hzz]
  ·rw[enc_eq,←hzz];exact snap_dat rfl rfl
theorem clone220_all (t:T):t.size<4000000→CallP C 220 [enc t]=some (enc t):=by
 induction t using T.ind with
 | _ t ih=>exact fun hv=>clone220 t hv (fun k hk=>ih k hk (by have:=kid_size hk;omega))
theorem call220 (t:T) (hv:t.size<4000000) (h:H):callV C h (.func 220 []) (some [enc t])=some (enc t,h):=callV_strip (by kernel_rfl) rfl (dat_enc _) (by simp[short_enc]) (by simp) (clone220_all t hv)
end Go.VZ

/- Rows of terms with empty cells behind: reading, writing; slices.CompactFunc. -/
namespace TL
def ddj (l:List T):Nat→List T
 | 0=>[]
 | j+1=>if j≠0∧(l.getD j default).cmp (l.getD (j-1) default)=0 then ddj l j else ddj l j++[l.getD j default]
def dd (l:List T):List T:=ddj l l.length
theorem ddj_len (l:List T):∀j,(ddj l j).length≤j
 | 0=>Nat.le_refl _
 | j+1=>by
  have:=ddj_len l j
  rw[ddj];split
  ·omega
  ·simp;omega
theorem ddj_take {l:List T}:∀j,j≤l.length→(∀i,0<i→i<j→(l.getD i default).cmp (l.getD (i-1) default)≠0)→ddj l j=l.take j
 | 0,_,_=>by simp[ddj]
 | j+1,hj,h=>by
  rw[ddj,if_neg (fun e=>h j (by omega) (by omega) e.2),ddj_take j (by omega) (fun i a b=>h i a (by omega)),List.take_succ_eq_append_getElem (by omega)]
  simp[List.getElem?_eq_getElem (show j<l.length by omega)]
theorem mem_ddj {l:List T}{x:T}:∀j,j≤l.length→x∈ddj l j→x∈l
 | 0,_,h=>by simp[ddj] at h
 | j+1,hj,h=>by
  rw[ddj] at h
  split at h
  ·exact mem_ddj j (by omega) h
  ·rcases List.mem_append.1 h with h | h
   ·exact mem_ddj j (by omega) h
   ·simp only[List.mem_singleton] at h
    rw[h,List.getD_eq_getElem?_getD,List.getElem?_eq_getElem (by omega)]
    exact List.getElem_mem _
theorem mem_dd {l:List T}{x:T}(h:x∈dd l):x∈l:=mem_ddj _ (Nat.le_refl _) h
end TL
namespace Go.V
open Go
section
variable {C:Cfg}{cf:FuncId}{ops:Array Oper}{K:PT→H→Prop}{l:List Oper}{s:PT}{h:H}{d:Option Tmp}{ty:TypeId}{p:String}{af:Array Edge}
@[go_sem] theorem opN_lo {P:Program}(t:TypeId) (x lo:Operand) (g:Option (Nat × Bool)):opN P s ⟨d,.slice t x (some lo) none none,ty,p,af,g⟩=bi2 (ev s x) (ev s lo) fun a b=>sliceV P t a (some b) none none:=by
 simp only[opN,bi2,Option.map_some,Option.map_none]
 cases ev s x<;>cases ev s lo<;>rfl
@[go_sem] theorem opN_hi {P:Program}(t:TypeId) (x hi:Operand) (g:Option (Nat × Bool)):opN P s ⟨d,.slice t x none (some hi) none,ty,p,af,g⟩=bi2 (ev s x) (ev s hi) fun a b=>sliceV P t a none (some b) none:=by
 simp only[opN,bi2,Option.map_some,Option.map_none]
 cases ev s x<;>cases ev s hi<;>rfl
@[go_sem] theorem OWclear (t:TypeId) (x:Operand):OW C cf ops (⟨none,.call {callee:=.builtin .clear,args:=#[x],argTypes:=#[t]},ty,p,af,none⟩::l) s h K↔bO (bi1 (ev s x) (clearV C.P h t)) fun h'=>OW C cf ops l s h' K:=by
 rw[OW_act rfl,bO_iff]
 simp only[opA,bi1]
 constructor
 ·rintro ⟨v,h',hv,hk⟩
  split at hv<;>first | (cases hv;done) | skip
  rename_i a ha
  split at hv<;>first | (cases hv;done) | skip
  rename_i h2 hs
  simp only[Option.some.injEq,Prod.mk.injEq] at hv;obtain ⟨rfl,rfl⟩:=hv
  exact ⟨h2,by rw[ha];exact hs,hk⟩
 ·rintro ⟨h',hs,hk⟩
  cases ha:ev s x with
  | none=>rw[ha] at hs;cases hs
  | some a=>
   rw[ha] at hs
   replace hs:clearV C.P h t a=some h':=hs
   exact ⟨AV.undef,h',by simp only[hs],hk⟩
end
end Go.V
namespace Go.VZ
open Go Go.V Go.Proofs TL
def Zs (r:List AV):Prop:=∀x∈r,x=.int .i64 0∨x=.str ⟨#[]⟩∨x=.isl [] .full∨x=.isl [] .unk
def RowZ (N:Nat) (h:H) (v:AV) (l:List T):Prop:=(l=[]∧v=.isl [] .full)∨∃id rest,v=.msl id 0 4 l.length none∧h[id]?=some (.cells (cellsT l++rest) .live)∧Zs rest∧4*l.length+rest.length≤N
theorem Row.z {h:H}{v:AV}{l:List T}(r:Row h v l):RowZ (4*l.length) h v l:=by
 rcases r with e | ⟨id,rfl,hid⟩
 ·exact .inl e
 ·exact .inr ⟨id,[],rfl,by simpa using hid,fun x hx=>by simp at hx,by simp⟩
theorem loadRowZ {h:H}{l:List T}{rest:List AV}{id k:Nat}(hid:h[id]?=some (.cells (cellsT l++rest) .live)) (hk:k<l.length):loadV C.P h 25 (.ptr id (4*k))=some (enc l[k]):=by
 have e1:=cellsT_split hk
 have e2:=cellsT_len (l.take k)
 have e3:(l.take k).length=k:=by simp;omega
 rw[e3] at e2
 have e5:((cellsT l++rest).drop (4*k)).take 4=(enc l[k]).cells:=by
  rw[e1,List.append_assoc,List.append_assoc,List.drop_append_of_le_length (by omega),←e2,List.drop_length,List.nil_append,List.take_append_of_le_length (by simp[enc_cells])]
  simp[enc_cells]
 have e6:=cellsT_len l
 have e7:(cellsT l++rest).length=4*l.length+rest.length:=by rw[List.length_append,e6]
 simp only[loadV,hid,cellsAt,a25,s25]
 simp only[e5,e7]
 rw[if_pos (by omega)]
 simp only[enc_cells];rw[enc_eq]
theorem storeRowZ {h:H}{l:List T}{rest:List AV}{id k:Nat}(x:T) (hid:h[id]?=some (.cells (cellsT l++rest) .live)) (hk:k<l.length):storeV C.P h 25 (.ptr id (4*k)) (enc x)=some (h.set id (.cells (cellsT (l.set k x)++rest) .live)):=by
 have e2:=cellsT_len (l.take k)
 have e3:(l.take k).length=k:=by simp;omega
 rw[e3] at e2
 have e6:=cellsT_len l
 have e7:cellsT (l.set k x)=(cellsT l).take (4*k)++(enc x).cells++(cellsT l).drop (4*k+4):=by
  have e1:=cellsT_split hk
  have e8:=cellsT_split (l:=l.set k x) (k:=k) (by simpa using hk)
  rw[e8]
  have a1:(cellsT l).take (4*k)=cellsT (l.take k):=by rw[e1,List.append_assoc,List.take_append_of_le_length (by omega),List.take_of_length_le (by omega)]
  have a2:(cellsT l).drop (4*k+4)=cellsT (l.drop (k+1)):=by
   rw[e1,List.drop_append]
   have:(cellsT (l.take k)++(enc l[k]).cells).length=4*k+4:=by simp[e2,enc_cells]
   rw[this,List.drop_of_length_le (by omega)];simp
  rw[a1,a2,List.take_set_of_le (by omega),List.drop_set_of_lt (by omega)];simp
 have e9:(cellsT l++rest).length=4*l.length+rest.length:=by rw[List.length_append,e6]
 rw[e7]
 simp only[storeV,hid,s25]
 rw[enc_eq]
 simp only[List.length_cons,List.length_nil,e9]
 rw[if_pos ⟨trivial,by omega⟩,List.take_append_of_le_length (by omega),List.drop_append_of_le_length (by omega)]
 simp[cells_agg,List.append_assoc]
theorem zcells:Zs zc:=fun x hx=>by
 simp only[zc,List.mem_cons,List.not_mem_nil,or_false] at hx
 rcases hx with rfl | rfl | rfl | rfl<;>simp
theorem clearRowZ {h:H}{l:List T}{rest:List AV}{id k:Nat}(hid:h[id]?=some (.cells (cellsT l++rest) .live)) (hk:k≤l.length) (hz:Zs rest) :
  ∃rest',clearV C.P h 23 (.msl id (4*k) 4 (l.length-k) none)=some (h.set id (.cells (cellsT (l.take k)++rest') .live))∧Zs rest'∧4*k+rest'.length=4*l.length+rest.length:=by
 have e6:=cellsT_len l
 have e9:(cellsT l++rest).length=4*l.length+rest.length:=by rw[List.length_append,e6]
 have e1:(cellsT l).take (4*k)=cellsT (l.take k):=by
  have h1:cellsT l=cellsT (l.take k)++cellsT (l.drop k):=by
   unfold cellsT
   rw[←List.flatMap_append,List.take_append_drop]
  have h2:=cellsT_len (l.take k)
  rw[h1,List.take_append_of_le_length (by rw[h2];simp;omega),List.take_of_length_le (by rw[h2];simp;omega)]
 refine ⟨(List.replicate (l.length-k) zc).flatten++rest,?_,?_,by simp[zc];omega⟩
 ·simp only[clearV,u23,hid,zv25,s25,cells_agg,e9]
  rw[if_pos ⟨trivial,by omega⟩,List.take_append_of_le_length (by omega),e1,List.drop_append,List.drop_of_length_le (by omega:(cellsT l).length≤4*k+(l.length-k)*4)]
  rw[show 4*k+(l.length-k)*4-(cellsT l).length=0 by omega]
  simp[zc,List.append_assoc]
 ·intro x hx
  rcases List.mem_append.1 hx with hx | hx
  ·simp only[List.mem_flatten,List.mem_replicate] at hx
   obtain ⟨m,⟨_,rfl⟩,hx⟩:=hx
   exact zcells x hx
  ·exact hz x hx
theorem same219 (a b:T) (hs:a.size<4000000) (hs2:b.size<4000000):CallP C 219 [enc a,enc b]=some (.bool (decide (a.cmp b=0))):=by
 refine CallP_W rfl Tryz.func219 rfl (by kernel_rfl) (by simp[Tryz.f219]) fun R hR=>?_
 have q:=call112 a b hs hs2
 simp[go_sem,box2,two_a,two_b,q]
 refine hR _ _ _ (.inr rfl) ⟨_,rfl,?_⟩
 simp[go_sem];exact snap_dat rfl rfl
theorem call219 (a b:T) (hs:a.size<4000000) (hs2:b.size<4000000) (h:H):callV C h (.func 219 []) (some [enc a,enc b])=some (.bool (decide (a.cmp b=0)),h):=callV_strip (by kernel_rfl) rfl (dat_enc2 _ _) (by simp[short_enc]) (by simp) (same219 a b hs hs2)
theorem same62 (a b:T) (hs:a.size<4000000) (hs2:b.size<4000000):CallP C 62 [enc a,enc b]=some (.bool (decide (a.cmp b=0))):=by
 refine CallP_W rfl Tryz.func62 rfl (by kernel_rfl) (by simp[Tryz.f62]) fun R hR=>?_
 have q:=call112 a b hs hs2
 simp[go_sem,box2,two_a,two_b,q]
 refine hR _ _ _ (.inr rfl) ⟨_,rfl,?_⟩
 simp[go_sem];exact snap_dat rfl rfl
theorem call62 (a b:T) (hs:a.size<4000000) (hs2:b.size<4000000) (h:H):callV C h (.func 62 []) (some [enc a,enc b])=some (.bool (decide (a.cmp b=0)),h):=callV_strip (by kernel_rfl) rfl (dat_enc2 _ _) (by simp[short_enc]) (by simp) (same62 a b hs hs2)
theorem idxRow4 {id o n k:Nat}(hk:k<n):indexAddrV C.P 23 (.msl id (4*o) 4 n none) (.int .i64 k)=some (.ptr id (4*(o+k))):=by
 simp[indexAddrV,u23,s25,hk];omega
theorem bnd_ok {n k:Nat}(hk:k≤n):bndV n (.int .i64 k)=some k:=by
 unfold bndV
 dsimp only
 rw[if_pos ⟨by omega,by omega⟩];simp
theorem sliceLo {id n k:Nat}(hk:k<n):sliceV C.P 23 (.msl id 0 4 n none) (some (.int .i64 k)) none none=some (.msl id (4*k) 4 (n-k) none):=by
 have e:=bnd_ok (Nat.le_of_lt hk)
 by_cases h0:k=0
 ·subst h0;simp only[Int.natCast_zero] at e ⊢;simp[sliceV,u23,s25,bndO,e]
 ·simp[sliceV,u23,s25,bndO,e,h0,hk];omega
theorem sliceHi {id n k:Nat}(hk:k≤n):sliceV C.P 23 (.msl id 0 4 n none) none (some (.int .i64 k)) none=some (.msl id 0 4 k none):=by
 have e:=bnd_ok hk
 simp[sliceV,u23,s25,bndO,e]
end Go.VZ
