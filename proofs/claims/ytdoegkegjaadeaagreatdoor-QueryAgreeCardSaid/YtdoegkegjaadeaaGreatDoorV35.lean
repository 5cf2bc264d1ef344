/- Calls that are given closures over cells of the caller's: the callee sees what the cells hold. -/
import Derived.Test.YtdoegkegjaadeaaGreatDoorV34
import Derived.Test.YtdoegkegjaadeaaGreatDoorV23
namespace Go.V
open Go
def HoldC (h:H) (st:OSt) (id:Nat) (cs:List AV):Prop:=h[id]?=some (.cells cs st)∧dats cs=some cs∧cs.all short=true∧cs.length<90000
theorem snaps_ptrs {h:H}:∀(l:List (Nat × List AV)),(∀p∈l,HoldC h .frozen p.1 p.2)→∀n,991000+l.length≤n→snaps h n (l.map fun p=>AV.ptr p.1 0)=some (l.map fun p=>AV.iptr (.agg p.2) 0)
 | [],_,n,hn=>by obtain ⟨m,rfl⟩:∃m,n=m+1:=⟨n-1,by omega⟩;rfl
 | p::l,hp,n,hn=>by
  simp only[List.length_cons] at hn
  obtain ⟨m,rfl⟩:∃m,n=m+2:=⟨n-2,by omega⟩
  obtain ⟨h1,h2,h3,h4⟩:=hp p (by simp)
  have ih:=snaps_ptrs l (fun q hq=>hp q (by simp[hq])) (m+1) (by omega)
  have e1:=(dats_snap (h:=h) h2 h3 m (by omega)).1
  simp only[List.map_cons,snaps,snap,h1,e1,ih]
theorem reachs_ptrs {h:H}:∀(l:List (Nat × List AV)) (n:Nat),l.length+1≤n→∀p∈l,p.1∈reachs h n (l.map fun p=>AV.ptr p.1 0)
 | [],n,hn,p,hp=>by simp at hp
 | q::l,n,hn,p,hp=>by
  simp only[List.length_cons] at hn
  obtain ⟨m,rfl⟩:∃m,n=m+2:=⟨n-2,by omega⟩
  simp only[List.map_cons,reachs,reach]
  rcases List.mem_cons.1 hp with rfl | hp
  ·simp
  ·exact List.mem_append_right _ (reachs_ptrs l (m+1) (by omega) p hp)
theorem HoldC.freeze {h:H}{id:Nat}{cs:List AV}{l:List Nat}(k:HoldC h .live id cs) (hm:id∈l):HoldC (freeze h l) .frozen id cs:=by
 refine ⟨?_,k.2⟩
 rw[freeze_spec,k.1];simp[hm]
theorem callV_clo {C:Cfg}{f gf:FuncId}{h:H}{a a' v:AV}{l:List (Nat × List AV)}(hb:hasBody C.P f=true) (hm:C.mode f=.strip) (hd:dats [a]=some [a']) (hs:short a=true) (hl:∀p∈l,HoldC h .live p.1 p.2) (hn:l.length<1000)
  (hc:CallP C f [a',.func gf (l.map fun p=>AV.iptr (.agg p.2) 0)]=some v) (hsv:scal v=true):callV C h (.func f []) (some [a,.func gf (l.map fun p=>AV.ptr p.1 0)])=some (v,h):=by
 obtain ⟨m,e0⟩:∃m,deep=m+3:=⟨999997,rfl⟩
 have em:m=999997:=by unfold deep at e0;omega
 have hR:∀p∈l,p.1∈reachs h deep [a,.func gf (l.map fun p=>AV.ptr p.1 0)]:=fun p hp=>by
  rw[e0]
  simp only[reachs,reach]
  exact List.mem_append_right _ (List.mem_append_left _ (reachs_ptrs l _ (by omega) p hp))
 generalize hRR:reachs h deep [a,.func gf (l.map fun p=>AV.ptr p.1 0)]=R at hR
 have hS:snaps (freeze h R) deep [a,.func gf (l.map fun p=>AV.ptr p.1 0)]=some [a',.func gf (l.map fun p=>AV.iptr (.agg p.2) 0)]:=by
  have s1:=snaps_ptrs (h:=freeze h R) l (fun p hp=>(hl p hp).freeze (hR p hp)) m (by omega)
  have s2:=(dats_snap (h:=freeze h R) hd (by simp[hs]) (m+3) (by simp;omega)).1
  rw[e0]
  simp only[snaps] at s2 ⊢
  have s3:snap (freeze h R) (m+2) a=some a':=by
   split at s2<;>first | (cases s2;done) | skip
   rename_i x y hx hy
   simp only[Option.some.injEq,List.cons.injEq] at s2
   rw[hx,s2.1]
  have s4:snap (freeze h R) (m+1) (AV.func gf (l.map fun p=>AV.ptr p.1 0))=some (AV.func gf (l.map fun p=>AV.iptr (.agg p.2) 0)):=by
   simp only[snap,s1]
  rw[s3,s4]
 simp only[callV,hb,if_true,List.append_nil]
 unfold applyCall
 rw[hm]
 dsimp only
 rw[hRR,hS]
 unfold CallP at hc
 dsimp only
 split at hc<;>first | (cases hc;done) | skip
 rename_i r h1 hx
 rw[hx]
 dsimp only
 unfold finishV stripV
 dsimp only
 rw[hc]
 dsimp only
 rw[if_pos hsv]
theorem callV_stripc {C:Cfg}{f:FuncId}{l caps l':List AV}{v:AV}(hb:hasBody C.P f=true) (hm:C.mode f=.strip) (hd:dats (l++caps)=some l') (hs:(l++caps).all short=true) (hl:(l++caps).length<90000) (hc:CallP C f l'=some v) (h:H) :
  callV C h (.func f caps) (some l)=some (v,h):=by
 simp only[callV,hb,if_true]
 rw[applyCall_strip hm hd hs hl,hc]
end Go.V

/- Rules for maps that are turned. -/
namespace Go.V
open Go
section
variable {C:Cfg}{cf:FuncId}{ops:Array Oper}{ty:TypeId}{p:String}{af:Array Edge}{l:List Oper}{s:PT}{h:H}{K:PT→H→Prop}
@[go_sem] theorem OWmapUpdate (t:TypeId) (m k v:Operand):OW C cf ops (⟨none,.mapUpdate t m k v,ty,p,af,none⟩::l) s h K↔bO (bi2 (ev s m) (ev s k) fun a b=>bi1 (ev s v) fun c=>mapUpdateV C.P h t a b c) fun h'=>OW C cf ops l s h' K:=by
 rw[OW_act rfl,bO_iff]
 simp only[opA]
 constructor
 ·rintro ⟨z,h',hv,hk⟩
  split at hv<;>first | (cases hv;done) | skip
  rename_i a b c ha hb hc
  split at hv<;>first | (cases hv;done) | skip
  rename_i h2 hz
  simp only[Option.some.injEq,Prod.mk.injEq] at hv;obtain ⟨rfl,rfl⟩:=hv
  exact ⟨h2,by rw[ha,hb,hc];exact hz,hk⟩
 ·rintro ⟨h2,hz,hk⟩
  cases ha:ev s m with
  | none=>rw[ha] at hz;cases hz
  | some a=>cases hb:ev s k with
   | none=>rw[ha,hb] at hz;cases hz
   | some b=>cases hc:ev s v with
    | none=>rw[ha,hb,hc] at hz;cases hz
    | some c=>rw[ha,hb,hc] at hz;exact ⟨AV.undef,h2,by simp only[show mapUpdateV C.P h t a b c=some h2 from hz],hk⟩
end
end Go.V

/- A rule for zeros that are appended. -/
namespace Go.V
open Go
def appZV (P:Program) (h:H) (t:TypeId) (a b:AV):Option (AV × H):=match b with
 | .int .i64 n=>appendZ P h t a n
 | _=>none
section
variable {C:Cfg}{cf:FuncId}{ops:Array Oper}{d:Tmp}{ty:TypeId}{p:String}{af:Array Edge}{l:List Oper}{s:PT}{h:H}{K:PT→H→Prop}
theorem OWappendZ (t u:TypeId) (x y:Operand) (hne:¬t=u) (hs:isStrT C.P u=false) (hi:isIntT C.P u=true):OW C cf ops (⟨some d,.call {callee:=.builtin .append,args:=#[x,y],argTypes:=#[t,u]},ty,p,af,none⟩::l) s h K↔bO (bi2 (ev s x) (ev s y) (appZV C.P h t)) fun z=>OW C cf ops l (s.set d z.1) z.2 K:=OWa (by simp only[opA,bi2,if_neg hne,hs,hi,Bool.false_eq_true,if_false,if_true];cases ev s x<;>cases ev s y<;>first | rfl | (rename_i a b;cases b<;>first | rfl | (rename_i k n;cases k<;>rfl))) rfl
@[go_sem] theorem OWcap (t:TypeId) (x:Operand):OW C cf ops (⟨some d,.call {callee:=.builtin .cap,args:=#[x],argTypes:=#[t]},ty,p,af,none⟩::l) s h K↔bO (bi1 (ev s x) (capV C.P t)) fun v=>OW C cf ops l (s.set d v) h K:=OWn (by simp only[opN,bi1];cases ev s x<;>rfl) rfl rfl
@[go_sem high] theorem GPfield (o:List Oper) (j:Nat) (want:Bool) (t:TypeId) (x:Operand) (f:Nat):OW C cf o.toArray (⟨some d,.field t x f,ty,p,af,some (j,want)⟩::l) s h K↔gP (dstL o j) s want (bi1 (ev s x) fun a=>fieldV C.P t a f) fun v=>OW C cf o.toArray l (s.set d v) h K:=
 OWpureN (by simp only[opN,bi1];cases ev s x<;>rfl) rfl rfl
end
end Go.V
