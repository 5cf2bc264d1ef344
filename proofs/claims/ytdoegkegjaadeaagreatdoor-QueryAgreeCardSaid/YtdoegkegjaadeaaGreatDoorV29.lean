/- Drawn regions in which each new object has a place of its own: renaming; what an operation's outcome hangs on. -/
import Derived.Test.YtdoegkegjaadeaaGreatDoorV15
namespace Go.V
open Go
theorem mvs_get (i k:Nat):∀(l:List AV) (j:Nat),(AV.mvs i k l)[j]?=(l[j]?).map (AV.mv i k):=by
 intro l
 induction l with
 | nil=>intro j;simp[AV.mvs]
 | cons v l ih=>intro j;cases j with
  | zero=>simp[AV.mvs]
  | succ j=>simp[AV.mvs,ih]
theorem mvs_length (i k:Nat):∀(l:List AV),(AV.mvs i k l).length=l.length:=by
 intro l
 induction l with
 | nil=>rfl
 | cons v l ih=>simp[AV.mvs,ih]
theorem mvs_id {i k:Nat}:∀ {l:List AV},(∀(j:Nat) a,l[j]?=some a→a.mv i k=a)→AV.mvs i k l=l:=by
 intro l h
 apply List.ext_getElem?
 intro j
 rw[mvs_get]
 cases hj:l[j]? with
 | none=>rfl
 | some a=>simp[h j a hj]
theorem mv_one (i k:Nat) (a:AV):(a.mv i k).one=a.one:=by
 cases a with
 | isl es x=>cases x<;>simp[AV.mv,AV.one]
 | _=>simp[AV.mv,AV.one]
theorem mv_notTuple (i k:Nat) (a:AV):notTuple (a.mv i k)=notTuple a:=by
 cases a with
 | isl es x=>cases x<;>simp[AV.mv,notTuple]
 | _=>simp[AV.mv,notTuple]
theorem mv_irel {A:Nat→Nat→Prop}{w:World}{a:AV}{v:Value}(i k:Nat) (r:IRel A w a v):a.mv i k=a:=by
 induction r with
 | func hl _ ih=>rw[AV.mv,mvs_id (fun j a ha=>ih j a _ ha (Array.getElem?_eq_getElem (i:=j) (by rw[hl];exact (List.getElem?_eq_some_iff.1 ha).1)))]
 | iface hn _ ih=>rw[AV.mv,ih]
 | agg h1 hl _ ih=>rw[AV.mv,mvs_id (fun j a ha=>ih j a _ ha (Array.getElem?_eq_getElem (i:=j) (by rw[hl];exact (List.getElem?_eq_some_iff.1 ha).1)))]
 | tuple hl _ ih=>rw[AV.mv,mvs_id (fun j a ha=>ih j a _ ha (Array.getElem?_eq_getElem (i:=j) (by rw[hl];exact (List.getElem?_eq_some_iff.1 ha).1)))]
 | _=>simp[AV.mv]
theorem mv_rel {P:Program}{A:Nat→Nat→Prop}{σ:List (Option Nat)}{h:H}{w:World}{a:AV}{v:Value}{i:Nat}(hi:h[i]?=none∨h[i]?=some .void) (k:Nat) (r:Rel P A σ h w a v):a.mv i k=a:=by
 have ne:∀(j:Nat) x,h[j]?=some x→x≠.void→(if j=i then k else j)=j:=fun j x hj hx=>by
  split
  ·rename_i e;subst e
   rcases hi with e | e<;>rw[hj] at e
   ·cases e
   ·simp only[Option.some.injEq] at e;exact absurd e hx
  ·rfl
 induction r with
 | data hd=>exact mv_irel i k hd
 | yield hs hk=>obtain ⟨L,st,hj⟩:=hk;rw[AV.mv,ne _ _ hj (by simp)]
 | mp hs hk=>obtain ⟨es,hj⟩:=hk;rw[AV.mv,ne _ _ hj (by simp)]
 | ptr hs hk=>obtain ⟨cs,st,hj⟩:=hk;rw[AV.mv,ne _ _ hj (by simp)]
 | msl hs hk=>obtain ⟨cs,st,hj⟩:=hk;rw[AV.mv,ne _ _ hj (by simp)]
 | full hd=>simp[AV.mv]
 | tok hd ht=>obtain ⟨u,ty,hj,_⟩:=ht;rw[AV.mv,ne _ _ hj (by simp)]
 | func hl _ ih=>rw[AV.mv,mvs_id (fun j a ha=>ih j a _ ha (Array.getElem?_eq_getElem (i:=j) (by rw[hl];exact (List.getElem?_eq_some_iff.1 ha).1)))]
 | iface hn _ ih=>rw[AV.mv,ih]
 | agg h1 hl _ ih=>rw[AV.mv,mvs_id (fun j a ha=>ih j a _ ha (Array.getElem?_eq_getElem (i:=j) (by rw[hl];exact (List.getElem?_eq_some_iff.1 ha).1)))]
 | tuple hl _ ih=>rw[AV.mv,mvs_id (fun j a ha=>ih j a _ ha (Array.getElem?_eq_getElem (i:=j) (by rw[hl];exact (List.getElem?_eq_some_iff.1 ha).1)))]
structure Named (σ:List (Option Nat)) (h:H) (σ2:List (Option Nat)) (h2:H) (i k:Nat):Prop where
 to:∀(j:Nat) x,h[j]?=some x→x≠.void→σ2[if j=i then k else j]?=σ[j]?∧h2[if j=i then k else j]?=some (x.mv i k)
 back:∀(j:Nat) y,h2[j]?=some y→y≠.void→∃m x,h[m]?=some x∧x≠.void∧j=(if m=i then k else m)∧y=x.mv i k
 len:σ2.length=h2.length
theorem mv_void {i k:Nat}{x:VObj}:x.mv i k≠.void↔x≠.void:=by
 cases x with
 | cells cs st=>cases st<;>simp[VObj.mv]
 | _=>simp[VObj.mv]
theorem mv_cells {i k:Nat}{x:VObj}{cs:List AV}{st:OSt}(h:x.mv i k=.cells cs st):∃cs0,x=.cells cs0 st∧(st≠.dead→cs=AV.mvs i k cs0):=by
 cases x with
 | cells c0 s0=>cases s0<;>simp only[VObj.mv,VObj.cells.injEq] at h<;>obtain ⟨rfl,rfl⟩:=h<;>exact ⟨_,rfl,fun e=>by first | rfl | exact absurd rfl e⟩
 | _=>simp[VObj.mv] at h
theorem mv_tok {i k:Nat}{x:VObj}{u:Nat}{ty:TypeId}(h:x.mv i k=.tok u ty):x=.tok u ty:=by
 cases x with
 | cells c0 s0=>cases s0<;>simp[VObj.mv] at h
 | _=>simp[VObj.mv] at h ⊢<;>exact h
theorem mv_loop {i k:Nat}{x:VObj}{L:LoopV}{st:LSt}(h:x.mv i k=.loop L st):x=.loop L st:=by
 cases x with
 | cells c0 s0=>cases s0<;>simp[VObj.mv] at h
 | _=>simp[VObj.mv] at h ⊢<;>exact h
theorem mv_map {i k:Nat}{x:VObj}{es:List (AV × AV)}(h:x.mv i k=.map es):∃es0,x=.map es0∧es=es0.map fun e=>(e.1,e.2.mv i k):=by
 cases x with
 | cells c0 s0=>cases s0<;>simp[VObj.mv] at h
 | map e0=>simp only[VObj.mv,VObj.map.injEq] at h;exact ⟨_,rfl,h.symm⟩
 | _=>simp[VObj.mv] at h
theorem mv_gone {i k:Nat}{x:VObj}:(x.mv i k).gone=x.gone:=by
 cases x with
 | cells c0 s0=>cases s0<;>rfl
 | _=>rfl
section
variable {P:Program}{B:Nat}{A0:Nat→Nat→Prop}{σ σ2:List (Option Nat)}{h h2:H}{w:World}{i k:Nat}
theorem Named.alw (nm:Named σ h σ2 h2 i k){b o:Nat}(ha:Alw P B A0 σ h b o):Alw P B A0 σ2 h2 b o:=by
 unfold Alw at *
 split
 ·rename_i hB;simpa [hB] using ha
 ·rename_i hB
  rw[if_neg hB] at ha
  refine ⟨fun j cs hj hs=>?_,fun j u t hj hs=>?_⟩
  ·obtain ⟨m,x,hm,hv,rfl,e⟩:=nm.back j _ hj (by simp)
   obtain ⟨cs0,rfl,_⟩:=mv_cells e.symm
   exact ha.1 m cs0 hm (by rw[←(nm.to m _ hm hv).1];exact hs)
  ·obtain ⟨m,x,hm,hv,rfl,e⟩:=nm.back j _ hj (by simp)
   have:=mv_tok e.symm;subst this
   exact ha.2 m u t hm (by rw[←(nm.to m _ hm hv).1];exact hs)
theorem Named.rel (nm:Named σ h σ2 h2 i k){a:AV}{v:Value}(r:Rel P (Alw P B A0 σ h) σ h w a v):Rel P (Alw P B A0 σ2 h2) σ2 h2 w (a.mv i k) v:=by
 have mono:∀ {a v},IRel (Alw P B A0 σ h) w a v→IRel (Alw P B A0 σ2 h2) w a v:=fun hd=>hd.mono fun b o x ha hc=>⟨nm.alw ha,hc⟩
 induction r with
 | data hd=>rw[mv_irel i k hd];exact .data (mono hd)
 | yield hs hk=>
  obtain ⟨L,st,hj⟩:=hk
  obtain ⟨e1,e2⟩:=nm.to _ _ hj (by simp)
  rw[AV.mv];exact .yield (e1.trans hs) ⟨L,st,e2⟩
 | mp hs hk=>
  obtain ⟨es,hj⟩:=hk
  obtain ⟨e1,e2⟩:=nm.to _ _ hj (by simp)
  rw[AV.mv];exact .mp (e1.trans hs) ⟨_,e2⟩
 | ptr hs hk=>
  obtain ⟨cs,st,hj⟩:=hk
  obtain ⟨e1,e2⟩:=nm.to _ _ hj (by simp)
  rw[AV.mv];exact .ptr (e1.trans hs) (by cases st<;>exact ⟨_,_,e2⟩)
 | msl hs hk h0 hc hm hcap hw=>
  obtain ⟨cs,st,hj⟩:=hk
  obtain ⟨e1,e2⟩:=nm.to _ _ hj (by simp)
  rw[AV.mv];exact .msl (e1.trans hs) (by cases st<;>exact ⟨_,_,e2⟩) h0 hc hm hcap hw
 | full hd=>rw[AV.mv];exact .full (mono hd);all_goals simp
 | tok hd ht=>
  obtain ⟨u,ty,hj,h2',h3⟩:=ht
  obtain ⟨e1,e2⟩:=nm.to _ _ hj (by simp)
  rw[AV.mv]
  refine .tok (mono hd) ⟨u,ty,e2,h2',fun e=>?_⟩
  rcases h3 e with ⟨k1,k2,k3⟩ | ⟨b,cap,vs,sz,k1,k2⟩
  ·exact .inl ⟨k1,e1.trans k2,k3⟩
  ·exact .inr ⟨b,cap,vs,sz,e1.trans k1,k2⟩
 | func hl _ ih=>
  rw[AV.mv]
  refine .func (by rw[mvs_length];exact hl) fun j a v ha hv=>?_
  rw[mvs_get] at ha
  obtain ⟨a0,h0,rfl⟩:=Option.map_eq_some_iff.1 ha
  exact ih j a0 v h0 hv
 | iface hn _ ih=>rw[AV.mv];exact .iface (by rw[mv_notTuple];exact hn) ih
 | agg h1 hl _ ih=>
  rw[AV.mv]
  refine .agg (fun c hc=>?_) (by rw[mvs_length];exact hl) fun j a v ha hv=>?_
  ·obtain ⟨j,hj,rfl⟩:=List.getElem_of_mem hc
   have:=List.getElem?_eq_getElem hj
   rw[mvs_get] at this
   obtain ⟨a0,h0,e⟩:=Option.map_eq_some_iff.1 this
   rw[←e,mv_one];exact h1 a0 (List.mem_of_getElem? h0)
  ·rw[mvs_get] at ha
   obtain ⟨a0,h0,rfl⟩:=Option.map_eq_some_iff.1 ha
   exact ih j a0 v h0 hv
 | tuple hl _ ih=>
  rw[AV.mv]
  refine .tuple (by rw[mvs_length];exact hl) fun j a v ha hv=>?_
  rw[mvs_get] at ha
  obtain ⟨a0,h0,rfl⟩:=Option.map_eq_some_iff.1 ha
  exact ih j a0 v h0 hv
theorem Named.hrel (nm:Named σ h σ2 h2 i k) (hr:HRel P B A0 σ h w) (hl:∀(j:Nat) L st,h[j]?=some (.loop L st)→st≠.over→∀t,(L.s.get t).mv i k=L.s.get t):HRel P B A0 σ2 h2 w:=by
 refine ⟨hr.base,nm.len,fun j cs st hj hd=>?_,fun j u t hj=>?_,fun j L st hj hd=>?_,fun j es hj=>?_,fun j1 j2 b x y h1 h2' s1 s2 d1 d2=>?_,hr.glob,hr.tab⟩
 ·obtain ⟨m,x,hm,hv,rfl,e⟩:=nm.back j _ hj (by simp)
  obtain ⟨cs0,rfl,e2⟩:=mv_cells e.symm
  have e2:=e2 hd;subst e2
  obtain ⟨b,vs,ty,k1,k2,k3,k4,k5,k6⟩:=hr.cells m cs0 st hm hd
  refine ⟨b,vs,ty,(nm.to m _ hm hv).1.trans k1,k2,k3,by rw[mvs_length];exact k4,fun c hc=>?_,fun q c v hc hv'=>?_⟩
  ·obtain ⟨q,hq,rfl⟩:=List.getElem_of_mem hc
   have:=List.getElem?_eq_getElem hq
   rw[mvs_get] at this
   obtain ⟨a0,h0,e⟩:=Option.map_eq_some_iff.1 this
   rw[←e,mv_one];exact k5 a0 (List.mem_of_getElem? h0)
  ·rw[mvs_get] at hc
   obtain ⟨a0,h0,rfl⟩:=Option.map_eq_some_iff.1 hc
   exact nm.rel (k6 q a0 v h0 hv')
 ·obtain ⟨m,x,hm,hv,rfl,e⟩:=nm.back j _ hj (by simp)
  have:=mv_tok e.symm;subst this
  rw[(nm.to m _ hm hv).1]
  exact hr.tok m u t hm
 ·obtain ⟨m,x,hm,hv,rfl,e⟩:=nm.back j _ hj (by simp)
  have:=mv_loop e.symm;subst this
  obtain ⟨l,fn,tm,D,k1,k2,k3,k4,k5⟩:=hr.loop m L st hm hd
  exact ⟨l,fn,tm,D,(nm.to m _ hm hv).1.trans k1,k2,k3,k4,fun t=>by rw[←hl m L st hm hd t];exact nm.rel (k5 t)⟩
 ·obtain ⟨m,x,hm,hv,rfl,e⟩:=nm.back j _ hj (by simp)
  obtain ⟨es0,rfl,rfl⟩:=mv_map e.symm
  obtain ⟨b,mes,clock,k1,k2,k3,k4,k5⟩:=hr.map m es0 hm
  refine ⟨b,mes,clock,(nm.to m _ hm hv).1.trans k1,k2,k3,by simpa using k4,fun q e me he hme=>?_⟩
  rw[List.getElem?_map] at he
  obtain ⟨e0,h0,rfl⟩:=Option.map_eq_some_iff.1 he
  obtain ⟨z1,z2,z3⟩:=k5 q e0 me h0 hme
  exact ⟨z1,by rw[mv_notTuple];exact z2,nm.rel z3⟩
 ·obtain ⟨m1,x1,hm1,hv1,rfl,e1⟩:=nm.back j1 _ h1 (fun e=>by subst e;cases d1)
  obtain ⟨m2,x2,hm2,hv2,rfl,e2⟩:=nm.back j2 _ h2' (fun e=>by subst e;cases d2)
  rw[(nm.to m1 _ hm1 hv1).1] at s1
  rw[(nm.to m2 _ hm2 hv2).1] at s2
  rw[hr.uniq m1 m2 b x1 x2 hm1 hm2 s1 s2 (by rw[←mv_gone (i:=i) (k:=k),←e1];exact d1) (by rw[←mv_gone (i:=i) (k:=k),←e2];exact d2)]
end
end Go.V

/- What an operation's outcome hangs on, and what it leaves alone; a new object laid in a place of its own. -/
namespace Go.V
open Go
theorem fin_get (p:Nat) (T:List Nat) (h h':H) (id:Nat):(fin p T h h')[id]?=(h[id]?).map fun x=>if id=p then (match h'[h.length]? with
  | some y=>y.mv h.length p
  | none=>x)
 else if T.contains id then (match h'[id]? with
  | some y=>y.mv h.length p
  | none=>x)
 else x:=by unfold fin;rw[List.getElem?_mapIdx];rfl
theorem fin_length (p:Nat) (T:List Nat) (h h':H):(fin p T h h').length=h.length:=by simp[fin]
structure Fr (T:List Nat) (h h':H):Prop where
 ge:h.length≤h'.length
 fr:∀id,id<h.length→id∉T→h'[id]?=h[id]?
 loop:∀(j:Nat) L st,h'[j]?=some (.loop L st)→h[j]?=some (.loop L st)
section
variable {P:Program}{B:Nat}{A0:Nat→Nat→Prop}{σ:List (Option Nat)}{h h':H}{w w':World}
theorem mv_obj (hr:HRel P B A0 σ h w){j:Nat}{x:VObj}(hj:h[j]?=some x) (k:Nat):x.mv h.length k=x:=by
 have hn:h[h.length]?=none∨h[h.length]?=some .void:=.inl (List.getElem?_eq_none (Nat.le_refl _))
 cases x with
 | cells cs st=>
  by_cases hd:st=.dead
  ·subst hd;rfl
  ·obtain ⟨b,vs,ty,k1,k2,k3,k4,k5,k6⟩:=hr.cells j cs st hj hd
   have:AV.mvs h.length k cs=cs:=mvs_id fun q a ha=>by
    have hq:q<vs.size:=Nat.lt_of_lt_of_le (List.getElem?_eq_some_iff.1 ha).1 k4
    exact mv_rel hn k (k6 q a _ ha (Array.getElem?_eq_getElem hq))
   cases st<;>first | exact absurd rfl hd | simp only[VObj.mv,this]
 | map es=>
  obtain ⟨b,mes,clock,k1,k2,k3,k4,k5⟩:=hr.map j es hj
  simp only[VObj.mv,VObj.map.injEq]
  apply List.ext_getElem?
  intro q
  rw[List.getElem?_map]
  cases hq:es[q]? with
  | none=>rfl
  | some e=>
   have hlt:q<mes.size:=by rw[k4];exact (List.getElem?_eq_some_iff.1 hq).1
   obtain ⟨_,_,z⟩:=k5 q e _ hq (Array.getElem?_eq_getElem hlt)
   simp[mv_rel hn k z]
 | _=>rfl
theorem place [DFlag] (hr:HRel P B A0 σ h w){p:Nat}{T:List Nat}{r:AV}{v:Value}(hp:h[p]?=some .void) (hT:p∉T) (hlen:h'.length≤h.length+1) (hf:Fr T h h') (L:Leaves P B A0 σ h w r h' v w') :
  Leaves P B A0 σ h w (r.mv h.length p) (fin p T h h') v w':=by
 obtain ⟨σ',k1,k2,k3⟩:=L
 have hge:=hf.ge
 have hpl:p<h.length:=(List.getElem?_eq_some_iff.1 hp).1
 have hpv:h'[p]?=some .void:=(hf.fr p hpl hT).trans hp
 have hσl:σ'.length=h'.length:=k1.len
 have hgone:∀j:Nat,j≠h.length→(if j=h.length then p else j)=j:=fun j hj=>if_neg hj
 have nm:Named σ' h' ((σ'.take h.length).set p ((σ'[h.length]?).getD none)) (fin p T h h') h.length p:=by
  refine ⟨fun j x hj hx=>?_,fun j y hj hy=>?_,by rw[List.length_set,List.length_take,fin_length];omega⟩
  ·have hjl:=(List.getElem?_eq_some_iff.1 hj).1
   by_cases e:j=h.length
   ·subst e
    rw[if_pos rfl]
    refine ⟨?_,?_⟩
    ·rw[List.getElem?_set_self (by rw[List.length_take];omega)]
     rw[List.getElem?_eq_getElem (show h.length<σ'.length by omega)];rfl
    ·rw[fin_get,hp];simp[hj]
   ·rw[hgone j e]
    have hne:j≠p:=fun e=>by subst e;rw[hpv] at hj;simp only[Option.some.injEq] at hj;exact hx hj.symm
    have hjM:j<h.length:=by omega
    refine ⟨by rw[List.getElem?_set_ne (fun k=>hne k.symm),List.getElem?_take,if_pos hjM],?_⟩
    rw[fin_get,List.getElem?_eq_getElem hjM,Option.map_some,if_neg hne]
    by_cases ht:T.contains j=true
    ·rw[if_pos ht,hj]
    ·rw[if_neg ht]
     have:=hf.fr j hjM (by simpa using ht)
     rw[List.getElem?_eq_getElem hjM] at this
     rw[hj] at this
     simp only[Option.some.injEq] at this
     rw[←this,mv_obj hr (by rw[List.getElem?_eq_getElem hjM,←this]) p]
  ·rw[fin_get] at hj
   obtain ⟨x0,h0,e⟩:=Option.map_eq_some_iff.1 hj
   have hjM:=(List.getElem?_eq_some_iff.1 h0).1
   by_cases hjp:j=p
   ·subst hjp
    rw[if_pos rfl] at e
    rw[hp] at h0;simp only[Option.some.injEq] at h0;subst h0
    split at e
    ·rename_i y' hy'
     subst e
     exact ⟨h.length,y',hy',mv_void.1 hy,(if_pos rfl).symm,rfl⟩
    ·exact absurd e.symm hy
   ·rw[if_neg hjp] at e
    have hjM':j≠h.length:=by omega
    have hj':h'[j]?=some (h'[j]'(by omega)):=List.getElem?_eq_getElem _
    by_cases ht:T.contains j=true
    ·rw[if_pos ht,hj'] at e
     dsimp only at e
     subst e
     exact ⟨j,_,hj',mv_void.1 hy,(hgone j hjM').symm,rfl⟩
    ·rw[if_neg ht] at e
     subst e
     have:=hf.fr j hjM (by simpa using ht)
     rw[h0] at this
     exact ⟨j,x0,this,hy,(hgone j hjM').symm,(mv_obj hr h0 p).symm⟩
 have hR:=nm.hrel k1 (fun j L st hj hd t=>by
  obtain ⟨l,fn,tm,D,z1,z2,z3,z4,z5⟩:=hr.loop j L st (hf.loop j L st hj) hd
  exact mv_rel (.inl (List.getElem?_eq_none (Nat.le_refl _))) p (z5 t))
 have up:∀ {j:Nat}{x:VObj},j<h.length→h'[j]?=some x→x≠.void→((σ'.take h.length).set p ((σ'[h.length]?).getD none))[j]?=σ'[j]?∧(fin p T h h')[j]?=some (x.mv h.length p):=fun {j x} hjl hj hx=>by
  have:=nm.to j x hj hx
  rwa [hgone j (by omega)] at this
 refine ⟨_,hR,⟨k2.below,k2.shapes,fun b o x ha hc=>let z:=k2.kept b o x ha hc;⟨nm.alw z.1,z.2⟩,fun j cs st hj=>?_,fun j u ty hj=>?_,fun j L st hj=>?_,fun j es hj=>?_,k2.marks,k2.drawn⟩,nm.rel k3⟩
 ·obtain ⟨e1,cs',st',e2⟩:=k2.cells j cs st hj
  obtain ⟨z1,z2⟩:=up (List.getElem?_eq_some_iff.1 hj).1 e2 (by simp)
  exact ⟨z1.trans e1,by cases st'<;>exact ⟨_,_,z2⟩⟩
 ·obtain ⟨u',e1,e2,e3⟩:=k2.toks j u ty hj
  obtain ⟨z1,z2⟩:=up (List.getElem?_eq_some_iff.1 hj).1 e1 (by simp)
  exact ⟨u',z2,e2,fun e=>z1.trans (e3 e)⟩
 ·obtain ⟨e1,st',e2⟩:=k2.loops j L st hj
  obtain ⟨z1,z2⟩:=up (List.getElem?_eq_some_iff.1 hj).1 e2 (by simp)
  exact ⟨z1.trans e1,st',z2⟩
 ·obtain ⟨e1,es',e2⟩:=k2.maps j es hj
  obtain ⟨z1,z2⟩:=up (List.getElem?_eq_some_iff.1 hj).1 e2 (by simp)
  exact ⟨z1.trans e1,_,z2⟩
end
structure Loc2 (T:List Nat) (h h' h2 h2':H):Prop where
 len:h2'.length=h'.length
 new:∀id,h.length≤id→h2'[id]?=h'[id]?
 same:∀id∈T,h2'[id]?=h'[id]?
section
variable {T:List Nat}{h h1 h2 h21:H}
theorem Fr.refl (h:H):Fr T h h:=⟨Nat.le_refl _,fun _ _ _=>rfl,fun _ _ _ hj=>hj⟩
theorem Fr.push (f:Fr T h h1){x:VObj}(hx:∀L st,x≠.loop L st):Fr T h (h1++[x]):=by
 refine ⟨by simp;have:=f.ge;omega,fun id hl ht=>?_,fun j L st hj=>?_⟩
 ·rw[List.getElem?_append_left (by have:=f.ge;omega)];exact f.fr id hl ht
 ·rcases getElem?_push_cases hj with ⟨_,hj⟩ | ⟨_,e⟩
  ·exact f.loop j L st hj
  ·exact absurd e.symm (hx L st)
theorem Fr.set (f:Fr T h h1){id:Nat}(hid:id∈T){x:VObj}(hx:∀L st,x≠.loop L st):Fr T h (h1.set id x):=by
 refine ⟨by simpa using f.ge,fun j hl ht=>?_,fun j L st hj=>?_⟩
 ·rw[List.getElem?_set_ne (fun e:id=j=>ht (e▸hid))];exact f.fr j hl ht
 ·rcases getElem?_set_cases hj with ⟨_,e,_⟩ | ⟨_,hj⟩
  ·exact absurd e.symm (hx L st)
  ·exact f.loop j L st hj
theorem Fr.freeze (f:Fr T h h1):∀(l:List Nat),(∀i∈l,i∈T)→Fr T h (Go.V.freeze h1 l):=by
 intro l
 induction l generalizing h1 with
 | nil=>intro _;exact f
 | cons i l ih=>
  intro hl
  simp only[Go.V.freeze]
  refine ih ?_ (fun j hj=>hl j (by simp[hj]))
  unfold freeze1
  split
  ·exact f.set (hl i (by simp)) (by simp)
  ·exact f
theorem Loc2.refl (hl:h2.length=h.length) (ha:∀id∈T,h2[id]?=h[id]?):Loc2 T h h h2 h2:=
 ⟨hl,fun id hi=>by rw[List.getElem?_eq_none (by omega),List.getElem?_eq_none (by omega)],ha⟩
theorem Loc2.push (l:Loc2 T h h1 h2 h21) (x:VObj):Loc2 T h (h1++[x]) h2 (h21++[x]):=by
 refine ⟨by simp[l.len],fun id hi=>?_,fun id hi=>?_⟩
 ·rw[List.getElem?_append,List.getElem?_append,l.len,l.new id hi]
 ·rw[List.getElem?_append,List.getElem?_append,l.len,l.same id hi]
theorem Loc2.set (l:Loc2 T h h1 h2 h21) (id:Nat) (x:VObj):Loc2 T h (h1.set id x) h2 (h21.set id x):=by
 refine ⟨by simp[l.len],fun j hj=>?_,fun j hj=>?_⟩
 ·rw[List.getElem?_set,List.getElem?_set,l.len,l.new j hj]
 ·rw[List.getElem?_set,List.getElem?_set,l.len,l.same j hj]
theorem Loc2.freeze (l:Loc2 T h h1 h2 h21):∀(l':List Nat),(∀i∈l',i∈T)→Loc2 T h (Go.V.freeze h1 l') h2 (Go.V.freeze h21 l'):=by
 intro l'
 induction l' generalizing h1 h21 with
 | nil=>intro _;exact l
 | cons i l' ih=>
  intro hl
  simp only[Go.V.freeze]
  refine ih ?_ (fun j hj=>hl j (by simp[hj]))
  unfold freeze1
  rw[l.same i (hl i (by simp))]
  split
  ·exact l.set _ _
  ·exact l
end
mutual
theorem reach_loc {h h2:H}:∀(n:Nat) (v:AV),(∀id∈reach h n v,h2[id]?=h[id]?)→reach h2 n v=reach h n v
 | 0,_=>fun _=>by simp[reach]
 | n+1,v=>fun hh=>by
  cases v with
  | ptr id off=>
   simp only[reach] at hh ⊢
   rw[hh id (by simp)]
   cases hx:h[id]? with
   | none=>rfl
   | some x=>cases x with
    | cells cs st=>simp only[hx] at hh;dsimp only;rw[reachs_loc n cs fun i hi=>hh i (by simp[hi])]
    | _=>rfl
  | msl id off sz len cap=>
   simp only[reach] at hh ⊢
   rw[hh id (by simp)]
   cases hx:h[id]? with
   | none=>rfl
   | some x=>cases x with
    | cells cs st=>simp only[hx] at hh;dsimp only;rw[reachs_loc n cs fun i hi=>hh i (by simp[hi])]
    | _=>rfl
  | func f c=>simp only[reach] at hh ⊢;exact reachs_loc n c hh
  | iface t u=>simp only[reach] at hh ⊢;exact reach_loc n u hh
  | agg cs=>simp only[reach] at hh ⊢;exact reachs_loc n cs hh
  | tuple vs=>simp only[reach] at hh ⊢;exact reachs_loc n vs hh
  | _=>simp[reach]
theorem reachs_loc {h h2:H}:∀(n:Nat) (l:List AV),(∀id∈reachs h n l,h2[id]?=h[id]?)→reachs h2 n l=reachs h n l
 | 0,_=>fun _=>by simp[reachs]
 | _+1,[]=>fun _=>by simp[reachs]
 | n+1,v::r=>fun hh=>by
  simp only[reachs] at hh ⊢
  rw[reach_loc n v fun i hi=>hh i (by simp[hi]),reachs_loc n r fun i hi=>hh i (by simp[hi])]
end
mutual
theorem snap_loc {h k k2:H}:∀(n:Nat) (v:AV),(∀id∈reach h n v,k2[id]?=k[id]?∧∀cs,k[id]?=some (.cells cs .frozen)→∃st,h[id]?=some (.cells cs st))→snap k2 n v=snap k n v
 | 0,_=>fun _=>by simp[snap]
 | n+1,v=>fun hh=>by
  cases v with
  | ptr id off=>
   simp only[reach] at hh
   simp only[snap]
   obtain ⟨e1,e2⟩:=hh id (by simp)
   rw[e1]
   split
   ·rename_i cs hx
    obtain ⟨st,e3⟩:=e2 cs hx
    simp only[e3] at hh
    rw[snaps_loc n cs fun i hi=>hh i (by simp[hi])]
   ·rfl
  | msl id off sz len cap=>
   simp only[reach] at hh
   simp only[snap]
   obtain ⟨e1,e2⟩:=hh id (by simp)
   rw[e1]
   split
   ·rename_i cs hx
    obtain ⟨st,e3⟩:=e2 cs hx
    simp only[e3] at hh
    rw[snaps_loc n cs fun i hi=>hh i (by simp[hi])]
   ·rfl
  | func f c=>simp only[reach] at hh;simp only[snap];rw[snaps_loc n c hh]
  | iface t u=>simp only[reach] at hh;simp only[snap];rw[snap_loc n u hh]
  | agg cs=>simp only[reach] at hh;simp only[snap];rw[snaps_loc n cs hh]
  | tuple vs=>simp only[reach] at hh;simp only[snap];rw[snaps_loc n vs hh]
  | _=>simp[snap]
theorem snaps_loc {h k k2:H}:∀(n:Nat) (l:List AV),(∀id∈reachs h n l,k2[id]?=k[id]?∧∀cs,k[id]?=some (.cells cs .frozen)→∃st,h[id]?=some (.cells cs st))→snaps k2 n l=snaps k n l
 | 0,_=>fun _=>by simp[snaps]
 | _+1,[]=>fun _=>by simp[snaps]
 | n+1,v::r=>fun hh=>by
  simp only[reachs] at hh
  simp only[snaps]
  rw[snap_loc n v fun i hi=>hh i (by simp[hi]),snaps_loc n r fun i hi=>hh i (by simp[hi])]
end
theorem freeze_back {h:H}{l:List Nat}{id:Nat}{cs:List AV}(hx:(freeze h l)[id]?=some (.cells cs .frozen)):∃st,h[id]?=some (.cells cs st):=by
 rcases (freeze_stiller h l).at_ id with e | ⟨cs',e1,e2⟩
 ·exact ⟨_,e.symm.trans hx⟩
 ·rw[hx] at e2;simp only[Option.some.injEq,VObj.cells.injEq] at e2
  obtain ⟨rfl,_⟩:=e2
  exact ⟨_,e1⟩
theorem sent_loc {h h2:H}{l:List AV}(hl:h2.length=h.length) (ha:∀id∈reachs h deep l,h2[id]?=h[id]?) :
  reachs h2 deep l=reachs h deep l∧snaps (freeze h2 (reachs h2 deep l)) deep l=snaps (freeze h (reachs h deep l)) deep l∧Fr (reachs h deep l) h (freeze h (reachs h deep l))∧Loc2 (reachs h deep l) h (freeze h (reachs h deep l)) h2 (freeze h2 (reachs h deep l)):=by
 have e:=reachs_loc deep l ha
 have lc:=(Loc2.refl (T:=reachs h deep l) hl ha).freeze (reachs h deep l) (fun _ h=>h)
 refine ⟨e,?_,(Fr.refl h).freeze _ (fun _ h=>h),lc⟩
 rw[e]
 exact snaps_loc (h:=h) deep l fun id hid=>⟨lc.same id hid,fun cs hx=>freeze_back hx⟩
end Go.V

/- Each operation's outcome hangs on its footprint alone. -/
namespace Go.V
open Go
def Same (T:List Nat) (h:H) (F:H→Option (AV × H)) (r:AV) (h':H):Prop:=
 Fr T h h'∧∀h2,h2.length=h.length→(∀id∈T,h2[id]?=h[id]?)→∃h2',F h2=some (r,h2')∧Loc2 T h h' h2 h2'
theorem Same.here {T:List Nat}{h:H}{F:H→Option (AV × H)}{r:AV}(hF:∀h2,h2.length=h.length→(∀id∈T,h2[id]?=h[id]?)→F h2=some (r,h2)):Same T h F r h:=
 ⟨.refl h,fun h2 hl ha=>⟨h2,hF h2 hl ha,.refl hl ha⟩⟩
theorem Same.push {T:List Nat}{h:H}{F:H→Option (AV × H)}{r:AV}{x:VObj}(hx:∀L st,x≠.loop L st) (hF:∀h2,h2.length=h.length→(∀id∈T,h2[id]?=h[id]?)→F h2=some (r,h2++[x])):Same T h F r (h++[x]):=
 ⟨(Fr.refl h).push hx,fun h2 hl ha=>⟨_,hF h2 hl ha,(Loc2.refl hl ha).push x⟩⟩
theorem Same.set {T:List Nat}{h:H}{F:H→Option (AV × H)}{r:AV}{id:Nat}{x:VObj}(hid:id∈T) (hx:∀L st,x≠.loop L st) (hF:∀h2,h2.length=h.length→(∀id∈T,h2[id]?=h[id]?)→F h2=some (r,h2.set id x)):Same T h F r (h.set id x):=
 ⟨(Fr.refl h).set hid hx,fun h2 hl ha=>⟨_,hF h2 hl ha,(Loc2.refl hl ha).set id x⟩⟩
theorem Same.setPush {T:List Nat}{h:H}{F:H→Option (AV × H)}{r:AV}{id:Nat}{x y:VObj}(hid:id∈T) (hx:∀L st,x≠.loop L st) (hy:∀L st,y≠.loop L st) (hF:∀h2,h2.length=h.length→(∀id∈T,h2[id]?=h[id]?)→F h2=some (r,h2.set id x++[y])):Same T h F r (h.set id x++[y]):=
 ⟨((Fr.refl h).set hid hx).push hy,fun h2 hl ha=>⟨_,hF h2 hl ha,((Loc2.refl hl ha).set id x).push y⟩⟩
theorem elemsV_loc {T:List Nat}{h h2:H}{x:AV}(ha:∀id∈T,h2[id]?=h[id]?) (hx:∀i∈mslId x,i∈T):elemsV h2 x=elemsV h x:=by
 cases x with
 | msl id off sz len cap=>simp only[elemsV];rw[ha id (hx id (by simp[mslId]))]
 | _=>rfl
theorem srcV_loc {T:List Nat}{h h2:H}{x:AV}{sz:Nat}(ha:∀id∈T,h2[id]?=h[id]?) (hx:∀i∈mslId x,i∈T):srcV h2 sz x=srcV h sz x:=by
 cases x with
 | msl id off sz' len cap=>simp only[srcV];rw[ha id (hx id (by simp[mslId]))]
 | _=>rfl
theorem appendV_loc {P:Program}{T:List Nat}{h h':H}{t:TypeId}{s x r:AV}(hs:∀i∈mslId s++tokId s++mslId x,i∈T) (hh:appendV P h t s x=some (r,h')):Same T h (fun h=>appendV P h t s x) r h':=by
 have hx:∀i∈mslId x,i∈T:=fun i hi=>hs i (by simp[hi])
 unfold appendV at hh
 split at hh<;>first | (cases hh;done) | skip
 rename_i e ht
 split at hh<;>first | (cases hh;done) | skip
 rename_i sz by_ ys hsz hby hys
 split at hh<;>first | (cases hh;done) | skip
 rename_i hg
 have F:∀h2:H,(∀id∈T,h2[id]?=h[id]?)→elemsV h2 x=some ys:=fun h2 ha=>(elemsV_loc ha hx).trans hys
 split at hh<;>first | (cases hh;done) | skip
 ·rename_i xs ext
  split at hh<;>first | (cases hh;done) | skip
  rename_i hzx
  split at hh<;>first | (cases hh;done) | skip
  rename_i hfit
  split at hh
  ·split at hh
   ·simp only[Option.some.injEq,Prod.mk.injEq] at hh;obtain ⟨rfl,rfl⟩:=hh
    exact .here fun h2 hl ha=>by simp only[appendV,ht,hsz,hby,F h2 ha];rw[if_neg hg,if_neg hzx,if_neg hfit]
   ·rename_i hne
    simp only[Option.some.injEq,Prod.mk.injEq] at hh;obtain ⟨rfl,rfl⟩:=hh
    refine .push (by simp) fun h2 hl ha=>?_
    simp only[appendV,ht,hsz,hby,F h2 ha];rw[if_neg hg,if_neg hzx,if_neg hfit,hl]
  ·rename_i tk
   split at hh<;>first | (cases hh;done) | skip
   rename_i used ty htk
   split at hh<;>first | (cases hh;done) | skip
   rename_i hc
   simp only[Option.some.injEq,Prod.mk.injEq] at hh;obtain ⟨rfl,rfl⟩:=hh
   have hin:tk∈T:=hs tk (by simp[tokId])
   refine .set hin (by simp) fun h2 hl ha=>?_
   simp only[appendV,ht,hsz,hby,F h2 ha,ha tk hin,htk];rw[if_neg hg,if_neg hzx,if_neg hfit,if_pos hc]
  ·split at hh<;>first | (cases hh;done) | skip
   simp only[Option.some.injEq,Prod.mk.injEq] at hh;obtain ⟨rfl,rfl⟩:=hh
   exact .here fun h2 hl ha=>by simp only[appendV,ht,hsz,hby,F h2 ha];rw[if_neg hg,if_neg hzx,if_neg hfit]
 ·rename_i id off sz' len c
  split at hh<;>first | (cases hh;done) | skip
  rename_i cs hid
  split at hh<;>first | (cases hh;done) | skip
  rename_i hc
  simp only[Option.some.injEq,Prod.mk.injEq] at hh;obtain ⟨rfl,rfl⟩:=hh
  have hin:id∈T:=hs id (by simp[mslId])
  refine .set hin (by simp) fun h2 hl ha=>?_
  simp only[appendV,ht,hsz,hby,F h2 ha,ha id hin,hid];rw[if_neg hg,if_pos hc]
theorem appendN_loc {P:Program}{T:List Nat}{h h':H}{t:TypeId}{s x r:AV}(hs:∀i∈mslId s++tokId s++mslId x,i∈T) (hh:appendN P h t s x=some (r,h')):Same T h (fun h=>appendN P h t s x) r h':=by
 have hx:∀i∈mslId x,i∈T:=fun i hi=>hs i (by simp[hi])
 unfold appendN at hh
 split at hh<;>first | (cases hh;done) | skip
 rename_i e ht
 split at hh<;>first | (cases hh;done) | skip
 rename_i sz by_ hsz hby
 split at hh<;>first | (cases hh;done) | skip
 rename_i hg
 split at hh<;>first | (cases hh;done) | skip
 rename_i ys m hys
 have F:∀h2:H,(∀id∈T,h2[id]?=h[id]?)→srcV h2 sz x=some (ys,m):=fun h2 ha=>(srcV_loc ha hx).trans hys
 split at hh<;>first | (cases hh;done) | skip
 ·rename_i xs
  split at hh
  ·rename_i hm
   simp only[Option.some.injEq,Prod.mk.injEq] at hh;obtain ⟨rfl,rfl⟩:=hh
   exact .here fun h2 hl ha=>by simp only[appendN,ht,hsz,hby,F h2 ha];rw[if_neg hg,if_pos hm]
  ·rename_i hm
   split at hh<;>first | (cases hh;done) | skip
   rename_i hc
   simp only[Option.some.injEq,Prod.mk.injEq] at hh;obtain ⟨rfl,rfl⟩:=hh
   refine .push (by simp) fun h2 hl ha=>?_
   simp only[appendN,ht,hsz,hby,F h2 ha];rw[if_neg hg,if_neg hm,if_pos hc,hl]
 ·rename_i id off sz' n c
  split at hh
  ·rename_i hm
   simp only[Option.some.injEq,Prod.mk.injEq] at hh;obtain ⟨rfl,rfl⟩:=hh
   exact .here fun h2 hl ha=>by simp only[appendN,ht,hsz,hby,F h2 ha];rw[if_neg hg,if_pos hm]
  ·rename_i hm
   split at hh<;>first | (cases hh;done) | skip
   rename_i cs hid
   split at hh<;>first | (cases hh;done) | skip
   rename_i hc
   simp only[Option.some.injEq,Prod.mk.injEq] at hh;obtain ⟨rfl,rfl⟩:=hh
   have hin:id∈T:=hs id (by simp[mslId])
   refine .setPush hin (by simp) (by simp) fun h2 hl ha=>?_
   simp only[appendN,ht,hsz,hby,F h2 ha,ha id hin,hid];rw[if_neg hg,if_neg hm,if_pos hc,hl]
theorem appendN_none {P:Program}{T:List Nat}{h h2:H}{t:TypeId}{s x:AV}(hs:∀i∈mslId s++tokId s++mslId x,i∈T) (hl:h2.length=h.length) (ha:∀id∈T,h2[id]?=h[id]?) (hh:appendN P h t s x=none):appendN P h2 t s x=none:=by
 cases hx:appendN P h2 t s x with
 | none=>rfl
 | some z=>
  obtain ⟨r,h'⟩:=z
  obtain ⟨h3,e,_⟩:=(appendN_loc hs hx).2 h hl.symm (fun id hid=>(ha id hid).symm)
  dsimp only at e
  rw[hh] at e;cases e
theorem appendV_none {P:Program}{T:List Nat}{h h2:H}{t:TypeId}{s x:AV}(hs:∀i∈mslId s++tokId s++mslId x,i∈T) (hl:h2.length=h.length) (ha:∀id∈T,h2[id]?=h[id]?) (hh:appendV P h t s x=none):appendV P h2 t s x=none:=by
 cases hx:appendV P h2 t s x with
 | none=>rfl
 | some z=>
  obtain ⟨r,h'⟩:=z
  obtain ⟨h3,e,_⟩:=(appendV_loc hs hx).2 h hl.symm (fun id hid=>(ha id hid).symm)
  dsimp only at e
  rw[hh] at e;cases e
theorem appendW_loc {P:Program}{T:List Nat}{wr:Bool}{h h':H}{t:TypeId}{s x r:AV}(hs:∀i∈mslId s++tokId s++mslId x,i∈T) (hh:appendW P wr h t s x=some (r,h')):Same T h (fun h=>appendW P wr h t s x) r h':=by
 unfold appendW at hh
 split at hh
 ·rename_i hw
  obtain ⟨f,k⟩:=appendV_loc hs hh
  exact ⟨f,fun h2 hl ha=>let ⟨h3,e,l⟩:=k h2 hl ha;⟨h3,by simp only[appendW];rw[if_pos hw];exact e,l⟩⟩
 ·rename_i hw
  split at hh
  ·rename_i hk
   split at hh
   ·rename_i z hz
    simp only[Option.some.injEq] at hh;subst hh
    obtain ⟨f,k⟩:=appendV_loc hs hz
    exact ⟨f,fun h2 hl ha=>let ⟨h3,e,l⟩:=k h2 hl ha;⟨h3,by dsimp only at e;simp only[appendW];rw[if_neg hw,if_pos hk,e],l⟩⟩
   ·rename_i hn
    obtain ⟨f,k⟩:=appendN_loc hs hh
    exact ⟨f,fun h2 hl ha=>let ⟨h3,e,l⟩:=k h2 hl ha;⟨h3,by dsimp only at e;simp only[appendW];rw[if_neg hw,if_pos hk,appendV_none hs hl ha hn];exact e,l⟩⟩
  ·rename_i hk
   split at hh
   ·rename_i z hz
    simp only[Option.some.injEq] at hh;subst hh
    obtain ⟨f,k⟩:=appendN_loc hs hz
    exact ⟨f,fun h2 hl ha=>let ⟨h3,e,l⟩:=k h2 hl ha;⟨h3,by dsimp only at e;simp only[appendW];rw[if_neg hw,if_neg hk,e],l⟩⟩
   ·rename_i hn
    obtain ⟨f,k⟩:=appendV_loc hs hh
    exact ⟨f,fun h2 hl ha=>let ⟨h3,e,l⟩:=k h2 hl ha;⟨h3,by dsimp only at e;simp only[appendW];rw[if_neg hw,if_neg hk,appendN_none hs hl ha hn];exact e,l⟩⟩
def Both (T:List Nat) (h:H) (hz:H) (h2 hz2:H):Prop:=Fr T h hz∧Loc2 T h hz h2 hz2
theorem Both.push {T:List Nat}{h hz h2 hz2:H}(b:Both T h hz h2 hz2){x:VObj}(hx:∀L st,x≠.loop L st):Both T h (hz++[x]) h2 (hz2++[x]):=⟨b.1.push hx,b.2.push x⟩
theorem adopt_loc {P:Program}{m:Mode}{T:List Nat}{h1 h h' h2:H}{r r':AV}(b:Both T h h h2 h2) (hl:h2.length=h.length) (hh:adopt P m h1 h r=some (r',h')):∃h2',adopt P m h1 h2 r=some (r',h2')∧Both T h h' h2 h2':=by
 unfold adopt at hh
 split at hh
 ·split at hh<;>first | (cases hh;done) | skip
  rename_i used ty ht
  split at hh<;>first | (cases hh;done) | skip
  rename_i hc
  split at hh<;>first | (cases hh;done) | skip
  ·simp only[Option.some.injEq,Prod.mk.injEq] at hh;obtain ⟨rfl,rfl⟩:=hh
   exact ⟨_,by simp only[adopt,ht];rw[if_pos hc,hl],b.push (by simp)⟩
  ·split at hh
   ·simp only[Option.some.injEq,Prod.mk.injEq] at hh;obtain ⟨rfl,rfl⟩:=hh
    exact ⟨_,by simp only[adopt,ht];rw[if_pos hc],b⟩
   ·rename_i hne
    simp only[Option.some.injEq,Prod.mk.injEq] at hh;obtain ⟨rfl,rfl⟩:=hh
    refine ⟨_,?_,b.push (by simp)⟩
    simp only[adopt,ht];rw[if_pos hc,hl]
 ·simp only[Option.some.injEq,Prod.mk.injEq] at hh;obtain ⟨rfl,rfl⟩:=hh
  exact ⟨_,rfl,b⟩
 ·split at hh<;>first | (cases hh;done) | skip
  rename_i cs hid
  split at hh<;>first | (cases hh;done) | skip
  rename_i hc
  split at hh<;>first | (cases hh;done) | skip
  ·simp only[Option.some.injEq,Prod.mk.injEq] at hh;obtain ⟨rfl,rfl⟩:=hh
   exact ⟨_,by simp only[adopt,hid];rw[if_pos hc,hl],b.push (by simp)⟩
  ·simp only[Option.some.injEq,Prod.mk.injEq] at hh;obtain ⟨rfl,rfl⟩:=hh
   exact ⟨_,by simp only[adopt,hid];rw[if_pos hc],b⟩
 ·cases hh
theorem adoptM_loc {T:List Nat}{h1 h hz h' h2 hz2:H}{r r':AV}(b:Both T h hz h2 hz2) (hh:adoptM h1 hz r=some (r',h')):∃h2',adoptM h1 hz2 r=some (r',h2')∧Both T h h' h2 h2':=by
 unfold adoptM at hh
 split at hh<;>first | (cases hh;done) | skip
 split at hh<;>first | (cases hh;done) | skip
 rename_i cs hid
 split at hh<;>first | (cases hh;done) | skip
 rename_i cs' hs
 split at hh<;>first | (cases hh;done) | skip
 rename_i hc
 simp only[Option.some.injEq,Prod.mk.injEq] at hh;obtain ⟨rfl,rfl⟩:=hh
 exact ⟨_,by simp only[adoptM,hid,hs];rw[if_pos hc,b.2.len],b.push (by simp)⟩
theorem adoptM_none {T:List Nat}{h1 h hz h2 hz2:H}{r:AV}(_b:Both T h hz h2 hz2) (hh:adoptM h1 hz r=none):adoptM h1 hz2 r=none:=by
 unfold adoptM at hh ⊢
 split
 ·dsimp only at hh ⊢
  split<;>first | rfl | skip
  rename_i cs hid
  rw[hid] at hh
  dsimp only at hh
  split<;>first | rfl | skip
  rename_i cs' hs
  rw[hs] at hh
  dsimp only at hh
  split
  ·rename_i hc;rw[if_pos hc] at hh;cases hh
  ·rfl
 ·rfl
theorem adoptR_loc {P:Program}{m:Mode}{T:List Nat}{h1 h h' h2:H}{r r':AV}(b:Both T h h h2 h2) (hl:h2.length=h.length) (hh:adoptR P m h1 h r=some (r',h')):∃h2',adoptR P m h1 h2 r=some (r',h2')∧Both T h h' h2 h2':=by
 unfold adoptR at hh
 split at hh
 ·split at hh<;>first | (cases hh;done) | skip
  rename_i x' hx ha
  split at hh<;>first | (cases hh;done) | skip
  rename_i hc
  simp only[Option.some.injEq,Prod.mk.injEq] at hh;obtain ⟨rfl,rfl⟩:=hh
  obtain ⟨h3,e,l⟩:=adopt_loc b hl ha
  exact ⟨h3,by simp only[adoptR,e];rw[if_pos hc],l⟩
 ·rename_i hno
  obtain ⟨h3,e,l⟩:=adopt_loc b hl hh
  refine ⟨h3,?_,l⟩
  unfold adoptR
  split
  ·exact absurd rfl (hno _ _)
  ·exact e
theorem adoptR_none {P:Program}{m:Mode}{T:List Nat}{h1 h h2:H}{r:AV}(b':Both T h2 h2 h h) (hl:h2.length=h.length) (hh:adoptR P m h1 h r=none):adoptR P m h1 h2 r=none:=by
 cases hx:adoptR P m h1 h2 r with
 | none=>rfl
 | some z=>
  obtain ⟨r',h'⟩:=z
  obtain ⟨_,e,_⟩:=adoptR_loc b' hl.symm hx
  rw[hh] at e;cases e
theorem adoptD_ownM {h1 hz:H}{r:AV}(hno:∀x y,r=.tuple [x,y]→False):adoptD .ownM h1 hz r=adoptM h1 hz r:=by
 unfold adoptD
 split
 ·exact (hno _ _ rfl).elim
 ·rfl
 ·simp_all
theorem adoptD_loc {m:Mode}{T:List Nat}{h1 h hz h' h2 hz2:H}{r r':AV}(b:Both T h hz h2 hz2) (hh:adoptD m h1 hz r=some (r',h')):∃h2',adoptD m h1 hz2 r=some (r',h2')∧Both T h h' h2 h2':=by
 unfold adoptD at hh
 split at hh<;>first | (cases hh;done) | skip
 ·split at hh<;>first | (cases hh;done) | skip
  rename_i hy
  split at hh<;>first | (cases hh;done) | skip
  rename_i x' h3 hx
  simp only[Option.some.injEq,Prod.mk.injEq] at hh;obtain ⟨rfl,rfl⟩:=hh
  obtain ⟨h4,e,l⟩:=adoptM_loc b hx
  exact ⟨h4,by simp only[adoptD,e];rw[if_pos hy],l⟩
 ·rename_i hno
  obtain ⟨h4,e,l⟩:=adoptM_loc b hh
  exact ⟨h4,by rw[adoptD_ownM hno];exact e,l⟩
theorem adoptD_none {m:Mode}{T:List Nat}{h1 h hz h2 hz2:H}{r:AV}(b:Both T h hz h2 hz2) (hh:adoptD m h1 hz r=none):adoptD m h1 hz2 r=none:=by
 cases m with
 | ownM=>
  by_cases hr:∃x y,r=.tuple [x,y]
  ·obtain ⟨x,y,rfl⟩:=hr
   simp only[adoptD] at hh ⊢
   split
   ·rename_i hy
    rw[if_pos hy] at hh
    cases ha:adoptM h1 hz x with
    | none=>rw[adoptM_none b ha]
    | some z=>rw[ha] at hh;cases hh
   ·rfl
  ·have hno:∀x y,r=.tuple [x,y]→False:=fun x y e=>hr ⟨x,y,e⟩
   rw[adoptD_ownM hno] at hh ⊢
   exact adoptM_none b hh
 | _=>simp only[adoptD]
theorem stripV_loc {T:List Nat}{h1 h hz h' h2 hz2:H}{r r':AV}(b0:Both T h h h2 h2) (b:Both T h hz h2 hz2) (hh:stripV r h1 h hz=some (r',h')):∃h2',stripV r h1 h2 hz2=some (r',h2')∧Both T h h' h2 h2':=by
 unfold stripV at hh
 split at hh<;>first | (cases hh;done) | skip
 rename_i r2 hs
 simp only[Option.some.injEq,Prod.mk.injEq] at hh;obtain ⟨rfl,rfl⟩:=hh
 refine ⟨if scal r2=true then h2 else hz2,by simp only[stripV,hs],?_⟩
 split
 ·exact b0
 ·exact b
theorem finishV_loc {P:Program}{m:Mode}{T:List Nat}{h1 h hz h' h2 hz2:H}{r r':AV}(b0:Both T h h h2 h2) (b0':Both T h2 h2 h h) (hl:h2.length=h.length) (b:Both T h hz h2 hz2) (hh:finishV P m r h1 h hz=some (r',h')) :
  ∃h2',finishV P m r h1 h2 hz2=some (r',h2')∧Both T h h' h2 h2':=by
 have own:∀m,(match adoptR P m h1 h r with
   | some z=>some z
   | none=>match adoptD m h1 hz r with
    | some z=>some z
    | none=>stripV r h1 h hz)=some (r',h')→∃h2',(match adoptR P m h1 h2 r with
   | some z=>some z
   | none=>match adoptD m h1 hz2 r with
    | some z=>some z
    | none=>stripV r h1 h2 hz2)=some (r',h2')∧Both T h h' h2 h2':=fun m hh=>by
  cases ha:adoptR P m h1 h r with
  | some z=>
   rw[ha] at hh
   simp only[Option.some.injEq] at hh;subst hh
   obtain ⟨h3,e,l⟩:=adoptR_loc b0 hl ha
   exact ⟨h3,by rw[e],l⟩
  | none=>
   rw[ha] at hh
   rw[adoptR_none b0' hl ha]
   dsimp only at hh ⊢
   cases hd:adoptD m h1 hz r with
   | some z=>
    rw[hd] at hh
    simp only[Option.some.injEq] at hh;subst hh
    obtain ⟨h3,e,l⟩:=adoptD_loc b hd
    exact ⟨h3,by rw[e],l⟩
   | none=>
    rw[hd] at hh
    rw[adoptD_none b hd]
    exact stripV_loc b0 b hh
 unfold finishV at hh ⊢
 split at hh
 ·exact own _ hh
 ·exact own _ hh
 ·exact stripV_loc b0 b hh
theorem applyCall_loc {C:Cfg}{run:FuncId→List AV→H→Option (AV × H)}{f:FuncId}{args:List AV}{h h':H}{r:AV}(hm:C.mode f≠.openH) (hq:C.mode f≠.openQ) (hf0:C.mode f≠.openF) (hh:applyCall C run f args h=some (r,h')):Same (reachs h deep args) h (fun h=>applyCall C run f args h) r h':=by
 have key:∀h2:H,h2.length=h.length→(∀id∈reachs h deep args,h2[id]?=h[id]?)→∃h2',applyCall C run f args h2=some (r,h2')∧Both (reachs h deep args) h h' h2 h2':=by
  intro h2 hl ha
  obtain ⟨e1,e2,fr,lc⟩:=sent_loc hl ha
  unfold applyCall at hh ⊢
  split at hh
  ·exact absurd ‹_› hm
  ·exact absurd ‹_› hq
  ·exact absurd ‹_› hf0
  ·rename_i m hmm
   split at hh<;>first | (cases hh;done) | skip
   rename_i as hsn
   split at hh<;>first | (cases hh;done) | skip
   rename_i r1 h1 hf
   ·rw[e2,hsn]
    dsimp only
    rw[hf]
    dsimp only
    rw[e1]
    exact finishV_loc ⟨.refl h,.refl hl ha⟩ ⟨.refl h2,.refl hl.symm fun id hid=>(ha id hid).symm⟩ hl ⟨fr,lc⟩ hh
 refine ⟨?_,fun h2 hl ha=>let ⟨h3,e,b⟩:=key h2 hl ha;⟨h3,e,b.2⟩⟩
 obtain ⟨_,_,b⟩:=key h rfl (fun _ _=>rfl)
 exact b.1
end Go.V

/- A region whose order is drawn, with a place of its own for each new object: whatever the order, it comes to what the text's order comes to. -/
namespace Go.V
open Go
theorem foot_congr {C:Cfg}{s s':PT}{h:H}{o:Oper}(hh:∀x∈o.op.operands.toList,ev s x=ev s' x):foot C s h o=foot C s' h o:=by
 unfold foot
 cases ho:o.op<;>rw[ho] at hh<;>simp only[Op.operands,Call.operands] at hh ⊢
 case call c=>
  obtain ⟨callee,args,argTypes⟩:=c
  cases callee with
  | builtin b=>
   have h':∀x∈args.toList,ev s x=ev s' x:=fun x hx=>hh x (by simpa using hx)
   cases b<;>simp only
   split
   ·split
    ·rename_i x y hargs
     rw[h' x (by rw[hargs];simp),h' y (by rw[hargs];simp)]
    ·rfl
   ·rfl
  | value f=>
   have h1:ev s f=ev s' f:=hh f (by simp)
   have h2:evs s args.toList=evs s' args.toList:=evs_congr (fun x hx=>hh x (by simp at hx ⊢;exact .inr hx))
   simp only[h1,h2]
  | _=>rfl
 case buildSlice t len parts=>rw[partsV_congr (fun x hx=>hh x (by simpa using hx))]
 all_goals first
  | rfl
  | (simp only[List.mem_cons,List.not_mem_nil,or_false,forall_eq_or_imp,forall_eq] at hh;first | rw[hh] | rw[hh.1,hh.2] | rw[hh.1,hh.2.1,hh.2.2] | rw[hh.1])
theorem foot_loc {C:Cfg}{s:PT}{h h2:H}{o:Oper}{T:List Nat}{wr:Bool}(hf:foot C s h o=some (T,wr)) (ha:∀id∈T,h2[id]?=h[id]?):foot C s h2 o=some (T,wr):=by
 unfold foot at hf
 split at hf
 ·rename_i hact
  split at hf<;>rename_i ho
  case h_10=>
   split at hf<;>first | (cases hf;done) | skip
   rename_i l hl
   simp only[Option.some.injEq,Prod.mk.injEq] at hf;obtain ⟨rfl,rfl⟩:=hf
   unfold foot
   rw[if_pos hact,ho];dsimp only;rw[hl];dsimp only;rw[reachs_loc _ _ ha]
  case h_12=>
   split at hf<;>first | (cases hf;done) | skip
   rename_i g captured l hg hl
   split at hf
   ·rename_i hb
    split at hf<;>first | (cases hf;done) | skip
    rename_i hm hmq hmf
    simp only[Option.some.injEq,Prod.mk.injEq] at hf;obtain ⟨rfl,rfl⟩:=hf
    unfold foot
    rw[if_pos hact,ho];dsimp only;rw[hg,hl];dsimp only;rw[if_pos hb]
    split
    ·exact absurd ‹_› hm
    ·exact absurd ‹_› hmq
    ·exact absurd ‹_› hmf
    ·rw[reachs_loc _ _ ha]
   ·rename_i hb
    unfold foot
    rw[if_pos hact,ho];dsimp only;rw[hg,hl];dsimp only;rw[if_neg hb];exact hf
  all_goals first
   | (cases hf;done)
   | (unfold foot;rw[if_pos hact,ho];exact hf)
 ·rename_i hact
  unfold foot
  rw[if_neg hact]
  exact hf
theorem mapUpdateV_loc {P:Program}{h h':H}{t:TypeId}{m k v:AV}(hm:mapUpdateV P h t m k v=some h'):∃id,id∈mpId m∧∃es,h'=h.set id (.map es)∧∀h2:H,(∀i∈mpId m,h2[i]?=h[i]?)→mapUpdateV P h2 t m k v=some (h2.set id (.map es)):=by
 unfold mapUpdateV at hm
 split at hm<;>first | (cases hm;done) | skip
 rename_i kt et id hu
 split at hm<;>first | (cases hm;done) | skip
 rename_i es hid
 split at hm<;>first | (cases hm;done) | skip
 rename_i hn
 have hmem:id∈mpId (.mp id):=by simp[mpId]
 split at hm
 ·rename_i i hf
  split at hm<;>first | (cases hm;done) | skip
  rename_i e kv he hk
  split at hm<;>first | (cases hm;done) | skip
  rename_i ov ho
  split at hm<;>first | (cases hm;done) | skip
  rename_i hc
  simp only[Option.some.injEq] at hm;subst hm
  exact ⟨id,hmem,_,rfl,fun h2 ha=>by simp only[mapUpdateV,hu,ha id hmem,hid,hf,he,hk,ho];rw[if_neg hn,if_pos hc]⟩
 ·rename_i hf
  split at hm<;>first | (cases hm;done) | skip
  rename_i hc
  simp only[Option.some.injEq] at hm;subst hm
  exact ⟨id,hmem,_,rfl,fun h2 ha=>by simp only[mapUpdateV,hu,ha id hmem,hid,hf];rw[if_neg hn,if_pos hc]⟩
 ·cases hm
theorem opA_loc {C:Cfg}{run:FuncId→List AV→H→Option (AV × H)}{cf:FuncId}{s:PT}{o:Oper}{h h':H}{r:AV}{T:List Nat}{wr:Bool}(hact:active o=true) (hf:foot C s h o=some (T,wr)) (hv:opA C run cf s h o=some (r,h')) :
  wr=true∧Same T h (fun h=>opA C run cf s h o) r h':=by
 unfold foot at hf
 rw[if_pos hact] at hf
 unfold opA at hv
 split at hv
 ·rename_i x ho
  rw[ho] at hf
  simp only[Option.some.injEq,Prod.mk.injEq] at hf;obtain ⟨rfl,rfl⟩:=hf
  refine ⟨rfl,?_⟩
  split at hv
  ·rename_i hw
   simp only[Option.some.injEq,Prod.mk.injEq] at hv;obtain ⟨rfl,rfl⟩:=hv
   exact .here fun h2 hl ha=>by simp only[opA,ho];rw[if_pos hw]
  ·rename_i hw
   split at hv<;>first | (cases hv;done) | skip
   rename_i e he
   simp only[Option.some.injEq,Prod.mk.injEq] at hv;obtain ⟨rfl,rfl⟩:=hv
   exact .push (by simp) fun h2 hl ha=>by simp only[opA,ho];rw[if_neg hw,he,hl]
 ·rename_i t x ho
  rw[ho] at hf
  simp only[Option.some.injEq,Prod.mk.injEq] at hf;obtain ⟨rfl,rfl⟩:=hf
  refine ⟨rfl,?_⟩
  split at hv<;>first | (cases hv;done) | skip
  rename_i c m hx hm
  split at hv<;>first | (cases hv;done) | skip
  rename_i hc
  simp only[Option.some.injEq,Prod.mk.injEq] at hv;obtain ⟨rfl,rfl⟩:=hv
  exact .push (by simp) fun h2 hl ha=>by simp only[opA,ho,hx,hm];rw[if_pos hc,hl]
 ·rename_i t ho
  rw[ho] at hf
  simp only[Option.some.injEq,Prod.mk.injEq] at hf;obtain ⟨rfl,rfl⟩:=hf
  refine ⟨rfl,?_⟩
  split at hv<;>first | (cases hv;done) | skip
  rename_i c hz
  simp only[Option.some.injEq,Prod.mk.injEq] at hv;obtain ⟨rfl,rfl⟩:=hv
  exact .push (by simp) fun h2 hl ha=>by simp only[opA,ho,hz,hl]
 ·rename_i t len parts ho
  rw[ho] at hf
  split at hv<;>first | (cases hv;done) | skip
  rename_i l hl0
  simp only[hl0,Option.some.injEq,Prod.mk.injEq] at hf;obtain ⟨rfl,rfl⟩:=hf
  refine ⟨rfl,?_⟩
  have key:∀h2:H,h2.length=h.length→(∀id∈reachs h deep (l.map (·.2)),h2[id]?=h[id]?)→∃h2',opA C run cf s h2 o=some (r,h2')∧Both (reachs h deep (l.map (·.2))) h h' h2 h2':=by
   intro h2 hl ha
   obtain ⟨e1,e2,fr,lc⟩:=sent_loc hl ha
   unfold buildSliceV at hv
   split at hv<;>first | (cases hv;done) | skip
   rename_i elem ht
   split at hv<;>first | (cases hv;done) | skip
   rename_i sz hsz
   split at hv<;>first | (cases hv;done) | skip
   rename_i hc
   split at hv<;>first | (cases hv;done) | skip
   rename_i es hes
   split at hv<;>first | (cases hv;done) | skip
   rename_i hk
   simp only[Option.some.injEq,Prod.mk.injEq] at hv;obtain ⟨rfl,rfl⟩:=hv
   refine ⟨_,?_,fr,lc⟩
   simp only[opA,ho,hl0,buildSliceV,ht,hsz]
   rw[if_neg hc,e2,hes]
   dsimp only
   rw[if_pos hk,e1]
  refine ⟨?_,fun h2 hl ha=>let ⟨h3,e,b⟩:=key h2 hl ha;⟨h3,e,b.2⟩⟩
  obtain ⟨_,_,b⟩:=key h rfl (fun _ _=>rfl)
  exact b.1
 ·rename_i t x y ho
  rw[ho] at hf
  simp only[Option.some.injEq,Prod.mk.injEq] at hf;obtain ⟨rfl,rfl⟩:=hf
  refine ⟨rfl,?_⟩
  split at hv<;>first | (cases hv;done) | skip
  rename_i a b hx hy
  unfold makeSliceV at hv
  split at hv<;>first | (cases hv;done) | skip
  rename_i elem l c ht
  split at hv<;>first | (cases hv;done) | skip
  rename_i sz by_ z hsz hby hz
  split at hv<;>first | (cases hv;done) | skip
  rename_i hc
  split at hv
  ·rename_i hl0
   simp only[Option.some.injEq,Prod.mk.injEq] at hv;obtain ⟨rfl,rfl⟩:=hv
   exact .push (by simp) fun h2 hl ha=>by simp only[opA,ho,hx,hy,makeSliceV,ht,hsz,hby,hz];rw[if_neg hc,if_pos hl0,hl]
  ·rename_i hl0
   simp only[Option.some.injEq,Prod.mk.injEq] at hv;obtain ⟨rfl,rfl⟩:=hv
   exact .push (by simp) fun h2 hl ha=>by simp only[opA,ho,hx,hy,makeSliceV,ht,hsz,hby,hz];rw[if_neg hc,if_neg hl0,hl]
 ·rename_i t a x ho
  rw[ho] at hf
  split at hv<;>first | (cases hv;done) | skip
  rename_i p v hp hx
  split at hv<;>first | (cases hv;done) | skip
  rename_i h3 hst
  simp only[Option.some.injEq,Prod.mk.injEq] at hv;obtain ⟨rfl,rfl⟩:=hv
  have hst0:=hst
  unfold storeV at hst
  split at hst<;>first | (cases hst;done) | skip
  rename_i id off
  simp only[hp,Option.some.injEq,Prod.mk.injEq] at hf;obtain ⟨rfl,rfl⟩:=hf
  refine ⟨rfl,?_⟩
  split at hst<;>first | (cases hst;done) | skip
  rename_i cs n hid hn
  split at hst<;>first | (cases hst;done) | skip
  ·split at hst<;>first | (cases hst;done) | skip
   rename_i hc
   simp only[Option.some.injEq] at hst;subst hst
   exact .set (by simp) (by simp) fun h2 hl ha=>by simp only[opA,ho,hp,hx,storeV,ha id (by simp),hid,hn];rw[if_pos hc]
  ·rename_i nt na
   split at hst<;>first | (cases hst;done) | skip
   rename_i hc
   simp only[Option.some.injEq] at hst;subst hst
   refine .set (by simp) (by simp) fun h2 hl ha=>?_
   have e:storeV C.P h2 t (.ptr id off) v=some (h2.set id (.cells (cs.set off v) .live)):=by
    cases v with
    | tuple vs=>exact (nt _ rfl).elim
    | agg vs=>exact (na _ rfl).elim
    | _=>simp only[storeV,ha id (by simp),hid,hn];rw[if_pos hc]
   simp only[opA,ho,hp,hx,e]
 ·rename_i args argTypes ho
  rw[ho] at hf
  split at hv<;>first | (cases hv;done) | skip
  rename_i x y t u hargs htypes
  simp only[hargs] at hf
  split at hv
  ·rename_i htu
   split at hv<;>first | (cases hv;done) | skip
   rename_i c d hx hy
   simp only[hx,hy,Option.some.injEq,Prod.mk.injEq] at hf;obtain ⟨rfl,rfl⟩:=hf
   refine ⟨rfl,?_⟩
   obtain ⟨f,k⟩:=appendW_loc (T:=mslId c++tokId c++mslId d) (fun i hi=>hi) hv
   exact ⟨f,fun h2 hl ha=>let ⟨h3,e,l⟩:=k h2 hl ha;⟨h3,by simp only[opA,ho,hargs,htypes,hx,hy];rw[if_pos htu];exact e,l⟩⟩
  ·rename_i htu
   split at hv
   rotate_left 1
   ·rename_i hns
    split at hv<;>first | (cases hv;done) | skip
    rename_i hint
    split at hv<;>first | (cases hv;done) | skip
    rename_i c n hx hy
    simp only[hx,hy,Option.some.injEq,Prod.mk.injEq] at hf;obtain ⟨rfl,rfl⟩:=hf
    refine ⟨rfl,?_⟩
    have e:∀h2,opA C run cf s h2 o=appendZ C.P h2 t c n:=fun h2=>by simp only[opA,ho,hargs,htypes,hx,hy];rw[if_neg htu,if_neg hns,if_pos hint]
    simp only[e]
    unfold appendZ at hv
    split at hv<;>first | (cases hv;done) | skip
    rename_i elem xs ht
    split at hv<;>first | (cases hv;done) | skip
    rename_i sz by_ z hsz hby hz
    split at hv<;>first | (cases hv;done) | skip
    rename_i hc
    split at hv
    ·rename_i hn0
     simp only[Option.some.injEq,Prod.mk.injEq] at hv;obtain ⟨rfl,rfl⟩:=hv
     exact .here fun h2 hl ha=>by simp only[appendZ,ht,hsz,hby,hz];rw[if_pos hc,if_pos hn0]
    ·rename_i hn0
     simp only[Option.some.injEq,Prod.mk.injEq] at hv;obtain ⟨rfl,rfl⟩:=hv
     exact .push (by simp) fun h2 hl ha=>by simp only[appendZ,ht,hsz,hby,hz];rw[if_pos hc,if_neg hn0,hl]
   rename_i hstr
   split at hv<;>first | (cases hv;done) | skip
   rename_i c d hx hy
   simp only[hx,hy,Option.some.injEq,Prod.mk.injEq] at hf;obtain ⟨rfl,rfl⟩:=hf
   refine ⟨rfl,?_⟩
   obtain ⟨f,k⟩:=appendN_loc (T:=mslId c++tokId c++mslId d) (fun i hi=>hi) hv
   exact ⟨f,fun h2 hl ha=>let ⟨h3,e,l⟩:=k h2 hl ha;⟨h3,by simp only[opA,ho,hargs,htypes,hx,hy];rw[if_neg htu,if_pos hstr];exact e,l⟩⟩
 ·rename_i f args argTypes ho
  rw[ho] at hf
  split at hv<;>first | (cases hv;done) | skip
  ·rename_i g captured l hx hl
   simp only[hx,hl] at hf
   split at hv
   ·rename_i hb
    rw[if_pos hb] at hf
    split at hf<;>first | (cases hf;done) | skip
    rename_i hm hq hf0
    simp only[Option.some.injEq,Prod.mk.injEq] at hf;obtain ⟨rfl,rfl⟩:=hf
    refine ⟨rfl,?_⟩
    obtain ⟨f',k⟩:=applyCall_loc (fun e=>hm e) (fun e=>hq e) (fun e=>hf0 e) hv
    exact ⟨f',fun h2 hl2 ha=>let ⟨h3,e,lc⟩:=k h2 hl2 ha;⟨h3,by simp only[opA,ho,hx,hl];rw[if_pos hb];exact e,lc⟩⟩
   ·rename_i hb
    rw[if_neg hb] at hf
    simp only[Option.some.injEq,Prod.mk.injEq] at hf;obtain ⟨rfl,rfl⟩:=hf
    refine ⟨rfl,?_⟩
    unfold extV at hv
    split at hv<;>first | (cases hv;done) | skip
    rename_i vs hvs
    split at hv<;>first | (cases hv;done) | skip
    rename_i v hv2
    split at hv<;>first | (cases hv;done) | skip
    rename_i a ha2
    simp only[Option.some.injEq,Prod.mk.injEq] at hv;obtain ⟨rfl,rfl⟩:=hv
    exact .here fun h2 hl2 ha=>by simp only[opA,ho,hx,hl];rw[if_neg hb];simp only[extV,hvs,hv2,ha2]
  ·rename_i i l hx hl
   simp only[hx,hl] at hf
   cases hf
 ·rename_i t ho
  rw[ho] at hf
  simp only[Option.some.injEq,Prod.mk.injEq] at hf;obtain ⟨rfl,rfl⟩:=hf
  refine ⟨rfl,?_⟩
  simp only[Option.some.injEq,Prod.mk.injEq] at hv;obtain ⟨rfl,rfl⟩:=hv
  exact .push (by simp) fun h2 hl ha=>by simp only[opA,ho,hl]
 ·rename_i t x i ok ho
  rw[ho] at hf
  split at hv<;>first | (cases hv;done) | skip
  rename_i a b ha hb
  simp only[ha,Option.some.injEq,Prod.mk.injEq] at hf;obtain ⟨rfl,rfl⟩:=hf
  refine ⟨rfl,?_⟩
  split at hv<;>first | (cases hv;done) | skip
  rename_i v hlv
  simp only[Option.some.injEq,Prod.mk.injEq] at hv;obtain ⟨rfl,rfl⟩:=hv
  refine .here fun h2 hl hag=>?_
  have:lookupV C.P h2 t a b ok=lookupV C.P h t a b ok:=by
   cases a with
   | mp id=>simp only[lookupV];rw[hag id (by simp[mpId])]
   | _=>rfl
  simp only[opA,ho,ha,hb,this,hlv]
 ·rename_i t m k x ho
  rw[ho] at hf
  split at hv<;>first | (cases hv;done) | skip
  rename_i a b c ha hb hc
  simp only[ha,Option.some.injEq,Prod.mk.injEq] at hf;obtain ⟨rfl,rfl⟩:=hf
  refine ⟨rfl,?_⟩
  split at hv<;>first | (cases hv;done) | skip
  rename_i h3 hm
  simp only[Option.some.injEq,Prod.mk.injEq] at hv;obtain ⟨rfl,rfl⟩:=hv
  obtain ⟨id,hid,es,rfl,hF⟩:=mapUpdateV_loc hm
  exact .set hid (by intro L st e;cases e) fun h2 hl hag=>by simp only[opA,ho,ha,hb,hc,hF h2 hag]
 ·rename_i t m k x ho
  rw[ho] at hf
  split at hv<;>first | (cases hv;done) | skip
  rename_i a b c ha hb hc
  simp only[ha,Option.some.injEq,Prod.mk.injEq] at hf;obtain ⟨rfl,rfl⟩:=hf
  refine ⟨rfl,?_⟩
  split at hv<;>first | (cases hv;done) | skip
  rename_i h3 hm
  simp only[Option.some.injEq,Prod.mk.injEq] at hv;obtain ⟨rfl,rfl⟩:=hv
  obtain ⟨id,hid,es,rfl,hF⟩:=mapUpdateV_loc hm
  exact .set hid (by intro L st e;cases e) fun h2 hl hag=>by simp only[opA,ho,ha,hb,hc,hF h2 hag]
 ·rename_i ho;rw[ho] at hf;cases hf
 ·rename_i ho;rw[ho] at hf;cases hf
 ·cases hv
theorem opV_loc {C:Cfg}{run:FuncId→List AV→H→Option (AV × H)}{cf:FuncId}{s:PT}{o:Oper}{h h':H}{r:AV}{T:List Nat}{wr:Bool}(hf:foot C s h o=some (T,wr)) (hv:opV C run cf s h o=some (r,h')) :
  (wr=false→h'=h)∧Same T h (fun h=>opV C run cf s h o) r h':=by
 cases hact:active o with
 | true=>
  have e:∀h,opV C run cf s h o=opA C run cf s h o:=fun h=>by unfold opV;rw[if_pos hact]
  rw[e] at hv
  obtain ⟨k1,k2⟩:=opA_loc hact hf hv
  exact ⟨fun e=>(by rw[k1] at e;cases e),by simp only[e];exact k2⟩
 | false=>
  have hidle:=opV_idle hv hact
  subst hidle
  refine ⟨fun _=>rfl,.here fun h2 hl ha=>?_⟩
  unfold opV at hv ⊢
  rw[hact] at hv ⊢
  simp only[Bool.false_eq_true,if_false] at hv ⊢
  split at hv
  ·rename_i t x ho
   unfold foot at hf
   rw[hact,ho] at hf
   simp only[Bool.false_eq_true,if_false] at hf
   split at hv<;>first | (cases hv;done) | skip
   rename_i a hx
   split at hv<;>first | (cases hv;done) | skip
   rename_i v hlv
   simp only[Option.some.injEq,Prod.mk.injEq] at hv
   have:loadV C.P h2 t a=loadV C.P h' t a:=by
    cases a with
    | ptr id off=>
     simp only[hx,Option.some.injEq,Prod.mk.injEq] at hf;obtain ⟨rfl,rfl⟩:=hf
     simp only[loadV];rw[ha id (by simp)]
    | _=>rfl
   rw[this,hlv];dsimp only;rw[hv.1]
  ·split at hv<;>first | (cases hv;done) | skip
   rename_i v hopn
   simp only[Option.some.injEq,Prod.mk.injEq] at hv
   rw[←hv.1]
end Go.V

/- A region whose order is drawn, with a place of its own for each new object: the law. -/
namespace Go.V
open Go
theorem tmpOk_spec {ops:Array Oper}(h:tmpOk ops=true){j:Nat}{y:Oper}(hy:ops[j]?=some y) :
  (∀e∈y.after,Region.binds .any e=true→e.on<j)∧∀i x,i<j→ops[i]?=some x→tmpClash ops x y=true→((Region.before ops).getD j 0).testBit i=true:=by
 simp only[tmpOk,List.all_eq_true,List.mem_range] at h
 have hj:j<ops.size:=(Array.getElem?_eq_some_iff.1 hy).1
 have:=h j hj
 rw[hy] at this
 simp only[Bool.and_eq_true,List.all_eq_true,List.mem_range] at this
 refine ⟨fun e he hb=>?_,fun i x hi hx hc=>?_⟩
 ·have:=this.1
  simp only[edgesLow,Array.all_eq_true_iff_forall_mem,Bool.or_eq_true,Bool.not_eq_true',decide_eq_true_eq] at this
  rcases this e he with h | h
  ·rw[hb] at h;cases h
  ·exact h
 ·have:=this.2 i hi
  rw[hx] at this
  simp only[Bool.or_eq_true,Bool.not_eq_true'] at this
  rcases this with h | h
  ·rw[hc] at h;cases h
  ·exact h
theorem meet_of {a b:List Nat}{id:Nat}(ha:id∈a) (hb:id∈b):meet a b=true:=by
 unfold meet
 rw[List.any_eq_true]
 exact ⟨id,ha,by simpa using hb⟩
theorem fpOk_spec {ops:Array Oper}{F:List FP}(h:fpOk ops F=true){i j:Nat}{x y:FP}(hx:F[i]?=some x) (hy:F[j]?=some y) (hi:i<j) (hm:meet x.2 y.1=true∨meet y.2 x.1=true):((Region.before ops).getD j 0).testBit i=true:=by
 simp only[fpOk,List.all_eq_true,List.mem_range] at h
 have:=h j (List.getElem?_eq_some_iff.1 hy).1
 rw[hy] at this
 simp only[List.all_eq_true,List.mem_range] at this
 have:=this i hi
 rw[hx] at this
 simp only[Bool.or_eq_true,Bool.not_eq_true',Bool.or_eq_false_iff] at this
 rcases this with ⟨h1,h2⟩ | h
 ·rcases hm with e | e
  ·rw[e] at h1;cases h1
  ·rw[e] at h2;cases h2
 ·exact h
def upd (h:H) (l:List Nat) (g:H):H:=h.mapIdx fun id x=>if l.contains id then (g[id]?).getD x else x
def selH (ws:Nat→List Nat) (hs:Nat→H) (W:Nat→Bool):Nat→H
 | 0=>hs 0
 | m+1=>if W m then upd (selH ws hs W m) (ws m) (hs (m+1)) else selH ws hs W m
theorem upd_get (h:H) (l:List Nat) (g:H) (id:Nat):(upd h l g)[id]?=(h[id]?).map fun x=>if l.contains id then (g[id]?).getD x else x:=by
 unfold upd;rw[List.getElem?_mapIdx]
theorem upd_out {h:H}{l:List Nat}{g:H}{id:Nat}(hid:id∉l):(upd h l g)[id]?=h[id]?:=by
 have hc:l.contains id=false:=by simpa using hid
 rw[upd_get];simp only[hc,Bool.false_eq_true,if_false];simp
theorem upd_in {h:H}{l:List Nat}{g:H}{id:Nat}(hid:id∈l):(upd h l g)[id]?=(h[id]?).map fun x=>(g[id]?).getD x:=by
 have hc:l.contains id=true:=by simpa using hid
 rw[upd_get];simp only[hc,if_true]
theorem fin_out {p:Nat}{T:List Nat}{h h':H}{id:Nat}(hp:id≠p) (hT:id∉T):(fin p T h h')[id]?=h[id]?:=by
 have hc:T.contains id=false:=by simpa using hT
 rw[fin_get];simp only[hc,Bool.false_eq_true,if_false,if_neg hp];simp
theorem upd_length (h:H) (l:List Nat) (g:H):(upd h l g).length=h.length:=by simp[upd]
section
variable {ws:Nat→List Nat}{hs:Nat→H}
theorem selH_length (W:Nat→Bool):∀m,(selH ws hs W m).length=(hs 0).length:=by
 intro m
 induction m with
 | zero=>rfl
 | succ m ih=>simp only[selH];split<;>simp[upd_length,ih]
theorem selH_out {W:Nat→Bool}{id m:Nat}(h:id∉ws m):(selH ws hs W (m+1))[id]?=(selH ws hs W m)[id]?:=by
 simp only[selH]
 split
 ·exact upd_out h
 ·rfl
theorem selH_congr {W W':Nat→Bool}{id:Nat}:∀m,(∀i,i<m→id∈ws i→W i=W' i)→(selH ws hs W m)[id]?=(selH ws hs W' m)[id]?:=by
 intro m
 induction m with
 | zero=>intro _;rfl
 | succ m ih=>
  intro h
  have:=ih (fun i hi=>h i (by omega))
  by_cases hm:id∈ws m
  ·simp only[selH]
   rw[h m (by omega) hm]
   split
   ·rw[upd_get,upd_get,this]
   ·exact this
  ·rw[selH_out hm,selH_out hm];exact this
theorem selH_stop {W:Nat→Bool}{id m:Nat}:∀M,m≤M→(∀i,m≤i→i<M→id∈ws i→W i=false)→(selH ws hs W M)[id]?=(selH ws hs W m)[id]?:=by
 intro M
 induction M with
 | zero=>
  intro h _;have:m=0:=by omega
  subst this;rfl
 | succ M ih=>
  intro h hz
  by_cases e:m=M+1
  ·subst e;rfl
  ·rw[←ih (by omega) (fun i h1 h2=>hz i h1 (by omega))]
   by_cases hM:id∈ws M
   ·simp only[selH]
    rw[hz M (by omega) (by omega) hM];rfl
   ·exact selH_out hM
end
structure MTrace (C:Cfg) (run:FuncId→List AV→H→Option (AV × H)) (cf:FuncId) (ops:Array Oper) (base:Nat) (s0:PT) (h0:H) (val:Nat→AV) (hs:Nat→H) (fp:Nat→FP):Prop where
 zero:hs 0=h0
 step:∀i o,ops[i]?=some o→mixStep C run cf ops base i o (sel ops val s0 (fun _=>true) i) (hs i)=some (val i,hs (i+1),fp i)
theorem mtrace_of {C:Cfg}{run:FuncId→List AV→H→Option (AV × H)}{cf:FuncId}{ops:Array Oper}{base:Nat}{s0:PT}{h0:H}{s':PT}{h':H}{F:List FP}(hh:mixTo C run cf ops base ops.size s0 h0=some (s',h',F)) :
  ∃val hs fp,MTrace C run cf ops base s0 h0 val hs fp∧sel ops val s0 (fun _=>true) ops.size=s'∧hs ops.size=h'∧∀i,i<ops.size→F[i]?=some (fp i):=by
 have key:∀n,n≤ops.size→∀s1 h1 F1,mixTo C run cf ops base n s0 h0=some (s1,h1,F1)→∃(val:Nat→AV) (hs:Nat→H) (fp:Nat→FP),hs 0=h0∧(∀i o,i<n→ops[i]?=some o→mixStep C run cf ops base i o (sel ops val s0 (fun _=>true) i) (hs i)=some (val i,hs (i+1),fp i)) ∧
   sel ops val s0 (fun _=>true) n=s1∧hs n=h1∧F1.length=n∧∀i,i<n→F1[i]?=some (fp i):=by
  intro n
  induction n with
  | zero=>
   intro _ s1 h1 F1 h
   simp only[mixTo,Option.some.injEq,Prod.mk.injEq] at h
   obtain ⟨rfl,rfl,rfl⟩:=h
   exact ⟨fun _=>AV.undef,fun _=>h0,fun _=>([],[]),rfl,fun i o hi=>by omega,rfl,rfl,rfl,fun i hi=>by omega⟩
  | succ n ih=>
   intro hn s1 h1 F1 h
   simp only[mixTo] at h
   split at h<;>first | (cases h;done) | skip
   rename_i s2 h2 F2 o hm ho
   split at h<;>first | (cases h;done) | skip
   rename_i v h3 f hst
   simp only[Option.some.injEq,Prod.mk.injEq] at h
   obtain ⟨rfl,rfl,rfl⟩:=h
   obtain ⟨val,hs,fp,k1,k2,k3,k4,k5,k6⟩:=ih (by omega) s2 h2 F2 hm
   let val':Nat→AV:=fun i=>if i=n then v else val i
   let hs':Nat→H:=fun i=>if i=n+1 then h3 else hs i
   let fp':Nat→FP:=fun i=>if i=n then f else fp i
   have selv:∀m,m≤n→sel ops val' s0 (fun _=>true) m=sel ops val s0 (fun _=>true) m:=by
    intro m
    induction m with
    | zero=>intro _;rfl
    | succ m ihm=>
     intro hm
     simp only[sel,if_true]
     rw[ihm (by omega)]
     simp only[val'];rw[if_neg (by omega)]
   refine ⟨val',hs',fp',by simp only[hs'];rw[if_neg (by omega)];exact k1,fun i o' hi ho'=>?_,?_,by simp[hs'],by simp[k5],fun i hi=>?_⟩
   ·by_cases e:i=n
    ·subst e
     rw[ho] at ho';simp only[Option.some.injEq] at ho';subst ho'
     rw[selv i (Nat.le_refl _),k3]
     have e1:hs' i=h2:=by simp only[hs'];rw[if_neg (by omega)];exact k4
     rw[e1,hst];simp[val',hs',fp']
    ·rw[selv i (by omega)]
     have e1:hs' i=hs i:=by simp only[hs'];rw[if_neg (by omega)]
     have e2:hs' (i+1)=hs (i+1):=by simp only[hs'];rw[if_neg (by omega)]
     have e3:val' i=val i:=by simp only[val'];rw[if_neg e]
     have e4:fp' i=fp i:=by simp only[fp'];rw[if_neg e]
     rw[e1,e2,e3,e4]
     exact k2 i o' (by omega) ho'
   ·simp only[sel,if_true,ho,Option.bind_some]
    rw[selv n (Nat.le_refl _),k3];simp[val']
   ·by_cases e:i=n
    ·subst e;rw[List.getElem?_append_right (by omega),k5];simp[fp']
    ·rw[List.getElem?_append_left (by omega)]
     simp only[fp'];rw[if_neg e];exact k6 i (by omega)
 obtain ⟨val,hs,fp,k1,k2,k3,k4,_,k6⟩:=key ops.size (Nat.le_refl _) s' h' F hh
 exact ⟨val,hs,fp,⟨k1,fun i o ho=>k2 i o (Array.getElem?_eq_some_iff.1 ho).1 ho⟩,k3,k4,k6⟩
theorem mixStep_spec {C:Cfg}{run:FuncId→List AV→H→Option (AV × H)}{cf:FuncId}{ops:Array Oper}{base i:Nat}{o:Oper}{s:PT}{h h2:H}{v:AV}{f:FP}(hh:mixStep C run cf ops base i o s h=some (v,h2,f)) :
  (Region.wanted o (yieldedV ops s)=true∧∃T wr r h',foot C s h o=some (T,wr)∧opV C run cf s h o=some (r,h')∧h'.length≤h.length+1∧base+i∉T∧h[base+i]?=some .void∧v=r.mv h.length (base+i) ∧
   h2=(if wr then fin (base+i) T h h' else h)∧f=(if wr then ((base+i)::T,(base+i)::T) else (T,[]))) ∨
  (Region.wanted o (yieldedV ops s)=false∧v=AV.undef∧h2=h∧f=([],[])):=by
 unfold mixStep at hh
 split at hh
 ·rename_i hw
  split at hh<;>first | (cases hh;done) | skip
  rename_i T wr r h' hf hv
  split at hh<;>first | (cases hh;done) | skip
  rename_i hc
  simp only[Option.some.injEq,Prod.mk.injEq] at hh
  obtain ⟨rfl,rfl,rfl⟩:=hh
  refine .inl ⟨hw,T,wr,r,h',hf,hv,hc.1,by simpa using hc.2.1,?_,rfl,rfl,rfl⟩
  have:=hc.2.2
  unfold isVoid at this
  split at this
  ·assumption
  ·cases this
 ·rename_i hw
  simp only[Option.some.injEq,Prod.mk.injEq] at hh
  obtain ⟨rfl,rfl,rfl⟩:=hh
  exact .inr ⟨by simpa using hw,rfl,rfl,rfl⟩
section
variable {C:Cfg}{run:FuncId→List AV→H→Option (AV × H)}{cf:FuncId}{ops:Array Oper}{base:Nat}{s0:PT}{h0:H}{val:Nat→AV}{hs:Nat→H}{fp:Nat→FP}
theorem MTrace.len (tr:MTrace C run cf ops base s0 h0 val hs fp):∀i,i≤ops.size→(hs i).length=(hs 0).length:=by
 intro i
 induction i with
 | zero=>intro _;rfl
 | succ i ih=>
  intro hi
  have ho:ops[i]?=some (ops[i]'(by omega)):=Array.getElem?_eq_getElem _
  rcases mixStep_spec (tr.step i _ ho) with ⟨_,T,wr,r,h',_,_,_,_,_,_,e,_⟩ | ⟨_,_,e,_⟩
  ·rw[e];split
   ·rw[fin_length];exact ih (by omega)
   ·exact ih (by omega)
  ·rw[e];exact ih (by omega)
theorem MTrace.out (tr:MTrace C run cf ops base s0 h0 val hs fp){i:Nat}{o:Oper}(ho:ops[i]?=some o){id:Nat}(hid:id∉(fp i).2):(hs (i+1))[id]?=(hs i)[id]?:=by
 rcases mixStep_spec (tr.step i o ho) with ⟨_,T,wr,r,h',_,_,_,_,_,_,e,ef⟩ | ⟨_,_,e,_⟩
 ·rw[e]
  cases wr with
  | false=>rfl
  | true=>
   rw[ef] at hid
   simp only[if_true,List.mem_cons,not_or] at hid
   simp only[if_true]
   exact fin_out hid.1 hid.2
 ·rw[e]
theorem MTrace.all (tr:MTrace C run cf ops base s0 h0 val hs fp):∀i,i≤ops.size→selH (fun i=>(fp i).2) hs (fun _=>true) i=hs i:=by
 intro i
 induction i with
 | zero=>intro _;rfl
 | succ i ih=>
  intro hi
  have ho:ops[i]?=some (ops[i]'(by omega)):=Array.getElem?_eq_getElem _
  simp only[selH,if_true]
  rw[ih (by omega)]
  apply List.ext_getElem?
  intro id
  rw[upd_get]
  by_cases hid:id∈(fp i).2
  ·have hc:(fp i).2.contains id=true:=by simpa using hid
   simp only[hc,if_true]
   have e1:=tr.len i (by omega)
   have e2:=tr.len (i+1) hi
   by_cases hl:id<(hs i).length
   ·rw[List.getElem?_eq_getElem hl,List.getElem?_eq_getElem (l:=hs (i+1)) (by omega)];rfl
   ·rw[List.getElem?_eq_none (by omega),List.getElem?_eq_none (by omega)];rfl
  ·have hc:(fp i).2.contains id=false:=by simpa using hid
   simp only[hc,Bool.false_eq_true,if_false]
   rw[tr.out ho hid];simp
end
section
variable {B:Nat}{A0:Nat→Nat→Prop}{n:Nat}{ro:Option Nat}{nd:Nat}
set_option maxHeartbeats 1000000 in
theorem mix_wp [DFlag] {C:Cfg}(hP:Good C.P){run:FuncId→List AV→H→Option (AV × H)}(hrun:Ok C.P run){cf:FuncId}{ops:Array Oper}{Q:Exit→Act→World→Prop}(hok:tmpOk ops=true)
  (hd:∀(i:Nat) o,ops[i]?=some o→∀t,o.dst=some t→t<n){σ0:List (Option Nat)}{h0 h00:H}{w0:World}{s0:PT}{a0:Act}{base:Nat}{val:Nat→AV}{hs:Nat→H}{fp:Nat→FP}(tr:MTrace C run cf ops base s0 h00 val hs fp)
  (hfp:∀i j,i<j→j<ops.size→(meet (fp i).2 (fp j).1=true∨meet (fp j).2 (fp i).1=true)→((Region.before ops).getD j 0).testBit i=true)
  (hQ:∀σ' w' a',HRel C.P B A0 σ' (hs ops.size) w'→Step C.P B A0 σ0 h0 w0 σ' (hs ops.size) w'→SRel C.P (Alw C.P B A0 σ' (hs ops.size)) σ' (hs ops.size) w' n (sel ops val s0 (fun _=>true) ops.size) a'.tmps→a'.defers=a0.defers→Q .normal a' w') :
  ∀(fuel:Nat) (L:Array Bool) (a:Act) (w:World) (σ:List (Option Nat)),L.size=ops.size→HRel C.P B A0 σ (selH (fun i=>(fp i).2) hs (fun i=>L.getD i false) ops.size) w →
   Step C.P B A0 σ0 h0 w0 σ (selH (fun i=>(fp i).2) hs (fun i=>L.getD i false) ops.size) w →
   SRel C.P (Alw C.P B A0 σ (selH (fun i=>(fp i).2) hs (fun i=>L.getD i false) ops.size)) σ (selH (fun i=>(fp i).2) hs (fun i=>L.getD i false) ops.size) w n (sel ops val s0 (fun i=>L.getD i false) ops.size) a.tmps→a.defers=a0.defers →
   (∀j o,ops[j]?=some o→L.getD j false=true→∀e∈o.after,Region.binds .any e=true→L.getD e.on false=true) →
   unl (fun i=>L.getD i false) ops.size≤fuel→wpAnyIn (FR ro) nd C.P .any ops Q fuel L a w:=by
 have final:∀(L:Array Bool) (a:Act) (w:World) (σ:List (Option Nat)),L.size=ops.size→HRel C.P B A0 σ (selH (fun i=>(fp i).2) hs (fun i=>L.getD i false) ops.size) w →
   Step C.P B A0 σ0 h0 w0 σ (selH (fun i=>(fp i).2) hs (fun i=>L.getD i false) ops.size) w →
   SRel C.P (Alw C.P B A0 σ (selH (fun i=>(fp i).2) hs (fun i=>L.getD i false) ops.size)) σ (selH (fun i=>(fp i).2) hs (fun i=>L.getD i false) ops.size) w n (sel ops val s0 (fun i=>L.getD i false) ops.size) a.tmps→a.defers=a0.defers →
   (∀i,i<ops.size→L.getD i false=true)→Q .normal a w:=by
  intro L a w σ hL hr hst hs' hdf hall
  have e1:selH (fun i=>(fp i).2) hs (fun i=>L.getD i false) ops.size=hs ops.size:=by
   rw[←tr.all ops.size (Nat.le_refl _)]
   apply List.ext_getElem?
   intro id
   exact selH_congr ops.size fun i hi _=>hall i hi
  rw[e1] at hr hst hs'
  refine hQ σ w a hr hst ⟨hs'.1,fun t=>?_⟩ hdf
  have:=hs'.2 t
  rwa [sel_congr (W':=fun _=>true) ops.size (fun i hi _=>hall i hi)] at this
 intro fuel
 induction fuel with
 | zero=>
  intro L a w σ hL hr hst hs' hdf hcl hu
  have hall:=unl_zero (W:=fun i=>L.getD i false) ops.size (by omega)
  refine ⟨?_,final L a w σ hL hr hst hs' hdf hall⟩
  cases hrd:Region.ready .any ops L with
  | nil=>rfl
  | cons j js=>
   have hj:j∈Region.ready .any ops L:=by rw[hrd];simp
   obtain ⟨h1,o,ho,_⟩:=mem_ready.1 hj
   have hlt:j<ops.size:=(Array.getElem?_eq_some_iff.1 ho).1
   have h2:=hall j hlt
   rw[getD_any (by omega)] at h1
   rw[h1] at h2;cases h2
 | succ fuel ih=>
  intro L a w σ hL hr hst hs' hdf hcl hu
  refine ⟨fun hrd=>?_,fun j hj=>?_⟩
  ·refine final L a w σ hL hr hst hs' hdf ?_
   intro i
   induction i using Nat.strongRecOn with
   | ind i ihi=>
    intro hi
    cases hw:L.getD i false with
    | true=>rfl
    | false=>
     exfalso
     have ho:ops[i]?=some (ops[i]'hi):=Array.getElem?_eq_getElem hi
     have:i∈Region.ready .any ops L:=mem_ready.2 ⟨by rw[getD_any (by omega)];exact hw,_,ho,fun e he hb=>by
      have hlt:=(tmpOk_spec hok ho).1 e he hb
      exact ihi e.on hlt (by omega)⟩
     rw[hrd] at this;cases this
  ·obtain ⟨hju,o,ho,hedge⟩:=mem_ready.1 hj
   have hjl:j<ops.size:=(Array.getElem?_eq_some_iff.1 ho).1
   have hjf:L.getD j false=false:=by rw[←getD_any (by omega)];exact hju
   have hbj:∀i,((Region.before ops).getD j 0).testBit i=true→L.getD i false=true:=before_closed (W:=fun i=>L.getD i false) hcl j o ho hedge
   have haft:∀i x,ops[i]?=some x→((Region.before ops).getD i 0).testBit j=true→L.getD i false=false:=fun i x hx hb=>by
    cases hw:L.getD i false with
    | false=>rfl
    | true=>
     have:=before_closed (W:=fun i=>L.getD i false) hcl i x hx (hcl i x hx hw) j hb
     rw[hjf] at this;cases this
   have early:∀i x,i<j→ops[i]?=some x→tmpClash ops x o=true→L.getD i false=true:=fun i x hi hx hc=>hbj i ((tmpOk_spec hok ho).2 i x hi hx hc)
   have late:∀i x,j<i→ops[i]?=some x→tmpClash ops o x=true→L.getD i false=false:=fun i x hi hx hc=>haft i x hx ((tmpOk_spec hok hx).2 j o hi ho hc)
   have earlyH:∀i,i<j→(∃id,id∈(fp i).2∧id∈(fp j).1)→L.getD i false=true:=fun i hi ⟨id,h1,h2⟩=>hbj i (hfp i j hi hjl (.inl (meet_of h1 h2)))
   have lateH:∀i,j<i→i<ops.size→(∃id,id∈(fp i).2∧id∈(fp j).1)→L.getD i false=false:=fun i hi hil ⟨id,h1,h2⟩=>haft i _ (Array.getElem?_eq_getElem hil) (hfp j i hi hil (.inr (meet_of h1 h2)))
   have lateW:∀i,j<i→i<ops.size→(∃id,id∈(fp j).2∧id∈(fp i).1)→L.getD i false=false:=fun i hi hil ⟨id,h1,h2⟩=>haft i _ (Array.getElem?_eq_getElem hil) (hfp j i hi hil (.inl (meet_of h1 h2)))
   have dstOf:∀(i:Nat) t,(ops[i]?).bind (·.dst)=some t→∃x,ops[i]?=some x∧x.dst=some t:=fun i t h=>by
    cases hx:ops[i]? with
    | none=>rw[hx] at h;cases h
    | some x=>rw[hx] at h;exact ⟨x,rfl,h⟩
   have agree:∀t∈reads ops o,(sel ops val s0 (fun i=>L.getD i false) ops.size).get t=(sel ops val s0 (fun _=>true) j).get t:=fun t ht=>by
    rw[sel_stop (m:=j) ops.size (by omega) (fun i h1 h2 hdi=>?_)]
    ·refine sel_congr j (fun i hi hdi=>?_)
     obtain ⟨x,hx,hxd⟩:=dstOf i t hdi
     exact early i x hi hx (by simp[tmpClash,hxd,ht])
    ·obtain ⟨x,hx,hxd⟩:=dstOf i t hdi
     by_cases e:i=j
     ·subst e;exact hjf
     ·exact late i x (by omega) hx (by simp[tmpClash,hxd,ht])
   have agreeH:∀id∈(fp j).1,(selH (fun i=>(fp i).2) hs (fun i=>L.getD i false) ops.size)[id]?=(hs j)[id]?:=fun id hid=>by
    rw[selH_stop (m:=j) ops.size (by omega) (fun i h1 h2 hi=>?_),←tr.all j (by omega)]
    ·exact selH_congr j fun i hi hw=>earlyH i hi ⟨id,hw,hid⟩
    ·by_cases e:i=j
     ·subst e;exact hjf
     ·exact lateH i (by omega) h2 ⟨id,hi,hid⟩
   have hwant:=wanted_congr agree
   have hcong:∀x∈o.op.operands.toList,ev (sel ops val s0 (fun i=>L.getD i false) ops.size) x=ev (sel ops val s0 (fun _=>true) j) x:=fun x hx=>
    ev_congr (fun t ht=>agree t (by simp[reads,ht])) hx
   have hW':∀i,i≠j→(L.setIfInBounds j true).getD i false=L.getD i false:=fun i hi=>getD_set_ne false (fun e=>hi e.symm)
   have hWj:(L.setIfInBounds j true).getD j false=true:=by simp[Array.getD_eq_getD_getElem?,hL,hjl]
   have after:∀ {A:Nat→Nat→Prop}{σ':List (Option Nat)}{h':H}{w':World}{v:Value},SRel C.P A σ' h' w' n (sel ops val s0 (fun i=>L.getD i false) ops.size) a.tmps→Rel C.P A σ' h' w' (val j) v →
     SRel C.P A σ' h' w' n (sel ops val s0 (fun i=>(L.setIfInBounds j true).getD i false) ops.size) (a.put o.dst v).tmps:=by
    intro A σ' h' w' v hs' hv
    have hp:=SRel.put (d:=o.dst) hs' (hd j o ho) hv
    refine ⟨hp.1,fun t=>?_⟩
    have:=hp.2 t
    rw[putV_get] at this
    by_cases e:o.dst=some t
    ·rw[if_pos e] at this
     have e2:(sel ops val s0 (fun i=>(L.setIfInBounds j true).getD i false) ops.size).get t=val j:=by
      rw[sel_stop (m:=j+1) ops.size (by omega) (fun i h1 h2 hdi=>?_)]
      ·simp only[sel];rw[if_pos hWj,putV_get,if_pos (by rw[ho];exact e)]
      ·obtain ⟨x,hx,hxd⟩:=dstOf i t hdi
       rw[hW' i (by omega)]
       exact late i x (by omega) hx (by simp[tmpClash,e,hxd])
     rw[e2];exact this
    ·rw[if_neg e] at this
     rw[sel_congr (W':=fun i=>L.getD i false) ops.size (fun i hi hdi=>?_)]
     ·exact this
     ·by_cases ei:i=j
      ·subst ei;rw[ho] at hdi;exact absurd hdi e
      ·exact hW' i ei
   have hcl':∀j' o',ops[j']?=some o'→(L.setIfInBounds j true).getD j' false=true→∀e∈o'.after,Region.binds .any e=true→(L.setIfInBounds j true).getD e.on false=true:=fun j' o' ho' hw e he hb=>by
    refine getD_set_true ?_
    by_cases ej:j'=j
    ·subst ej;rw[ho] at ho';simp only[Option.some.injEq] at ho';subst ho';exact hedge e he hb
    ·rw[hW' j' ej] at hw;exact hcl j' o' ho' hw e he hb
   have hu':unl (fun i=>(L.setIfInBounds j true).getD i false) ops.size≤fuel:=by
    have:=(unl_set (W:=fun i=>L.getD i false) (W':=fun i=>(L.setIfInBounds j true).getD i false) hjf hWj hW' ops.size).1 hjl
    omega
   have hL':(L.setIfInBounds j true).size=ops.size:=by simpa using hL
   have keep:∀id,id∉(fp j).2→(selH (fun i=>(fp i).2) hs (fun i=>(L.setIfInBounds j true).getD i false) ops.size)[id]?=(selH (fun i=>(fp i).2) hs (fun i=>L.getD i false) ops.size)[id]?:=fun id hid=>
    selH_congr ops.size fun i hi hw=>by
     by_cases ei:i=j
     ·subst ei;exact absurd hw hid
     ·exact hW' i ei
   have turn:∀id,id∈(fp j).2→id∈(fp j).1→(selH (fun i=>(fp i).2) hs (fun i=>(L.setIfInBounds j true).getD i false) ops.size)[id]?=(hs (j+1))[id]?:=fun id hid hid1=>by
    rw[selH_stop (m:=j+1) ops.size (by omega) (fun i h1 h2 hi=>by rw[hW' i (by omega)];exact lateH i (by omega) h2 ⟨id,hi,hid1⟩)]
    simp only[selH]
    rw[if_pos hWj,upd_in hid]
    have e1:=selH_length (ws:=fun i=>(fp i).2) (hs:=hs) (fun i=>(L.setIfInBounds j true).getD i false) j
    have e2:=tr.len (j+1) (by omega)
    by_cases hl:id<(hs 0).length
    ·rw[List.getElem?_eq_getElem (l:=selH _ _ _ _) (by rw[e1];exact hl),List.getElem?_eq_getElem (l:=hs (j+1)) (by rw[e2];exact hl)];rfl
    ·rw[List.getElem?_eq_none (l:=selH _ _ _ _) (by rw[e1];omega),List.getElem?_eq_none (l:=hs (j+1)) (by rw[e2];omega)];rfl
   have hlen:=selH_length (ws:=fun i=>(fp i).2) (hs:=hs) (fun i=>L.getD i false) ops.size
   have hlenj:=tr.len j (by omega)
   unfold wpOpIn
   simp only[ho]
   rw[yielded_eq hs',hwant]
   rcases mixStep_spec (tr.step j o ho) with ⟨hw,T,wr,r,h',hf,hv,hle,hpT,hpv,hval,hh2,hff⟩ | ⟨hw,hval,hh2,hff⟩
   ·rw[if_pos hw]
    rw[←foot_congr hcong] at hf
    rw[←opV_congr hcong] at hv
    obtain ⟨l1,l2,l3⟩:=opV_loc hf hv
    have hT1:∀id∈T,id∈(fp j).1:=fun id hid=>by rw[hff];cases wr<;>simp[hid]
    have hagT:∀id∈T,(selH (fun i=>(fp i).2) hs (fun i=>L.getD i false) ops.size)[id]?=(hs j)[id]?:=fun id hid=>agreeH id (hT1 id hid)
    obtain ⟨h3,e3,lc⟩:=l3 (selH (fun i=>(fp i).2) hs (fun i=>L.getD i false) ops.size) (by omega) hagT
    dsimp only at e3
    have hf3:=foot_loc hf hagT
    obtain ⟨m1,m2,m3⟩:=opV_loc hf3 e3
    refine opV_wp hP rfl hrun hr hs' e3 fun u w1 hlv=>?_
    cases wr with
    | false=>
     have e4:=m1 rfl
     subst e4
     obtain ⟨σ1,k1,k2,k3⟩:=hlv
     have e5:(fp j).2=[]:=by rw[hff];rfl
     have e6:selH (fun i=>(fp i).2) hs (fun i=>(L.setIfInBounds j true).getD i false) ops.size=selH (fun i=>(fp i).2) hs (fun i=>L.getD i false) ops.size:=by
      apply List.ext_getElem?
      intro id
      exact keep id (by rw[e5];simp)
     have e7:val j=r:=by
      rw[hval]
      exact mv_rel (.inl (List.getElem?_eq_none (by omega))) _ k3
     refine ih (L.setIfInBounds j true) (a.put o.dst u) w1 σ1 hL' (by rw[e6];exact k1) (by rw[e6];exact hst.trans k2) (by rw[e6];exact after (hs'.step k2) (by rw[e7];exact k3)) (by rw[put_defers];exact hdf) hcl' hu'
    | true=>
     have hpj:base+j∈(fp j).1∧base+j∈(fp j).2:=by rw[hff];simp
     have hpv':(selH (fun i=>(fp i).2) hs (fun i=>L.getD i false) ops.size)[base+j]?=some .void:=by rw[agreeH _ hpj.1];exact hpv
     have hL3:h3.length=h'.length:=lc.len
     have pl:=place hr hpv' hpT (by omega) m2 hlv
     have e6:selH (fun i=>(fp i).2) hs (fun i=>(L.setIfInBounds j true).getD i false) ops.size=fin (base+j) T (selH (fun i=>(fp i).2) hs (fun i=>L.getD i false) ops.size) h3:=by
      apply List.ext_getElem?
      intro id
      by_cases hid:id∈(fp j).2
      ·have hid1:id∈(fp j).1:=by rw[hff] at hid ⊢;simpa using hid
       rw[turn id hid hid1,hh2]
       simp only[if_true]
       rw[fin_get,fin_get,agreeH id hid1]
       have e8:(selH (fun i=>(fp i).2) hs (fun i=>L.getD i false) ops.size).length=(hs j).length:=by omega
       rw[e8,lc.new _ (Nat.le_refl _)]
       by_cases e9:id=base+j
       ·simp only[e9,if_true]
       ·have hT:id∈T:=by
         rw[hff] at hid
         simp only[if_true,List.mem_cons] at hid
         rcases hid with h | h
         ·exact absurd h e9
         ·exact h
        simp only[if_neg e9]
        rw[lc.same id hT]
      ·rw[keep id hid]
       have hid':id≠base+j∧id∉T:=by
        rw[hff] at hid
        simpa [not_or] using hid
       rw[fin_out hid'.1 hid'.2]
     rw[←e6] at pl
     obtain ⟨σ1,k1,k2,k3⟩:=pl
     have e7:val j=r.mv (selH (fun i=>(fp i).2) hs (fun i=>L.getD i false) ops.size).length (base+j):=by
      rw[hval,hlenj,hlen]
     exact ih (L.setIfInBounds j true) (a.put o.dst u) w1 σ1 hL' k1 (hst.trans k2) (after (hs'.step k2) (by rw[e7];exact k3)) (by rw[put_defers];exact hdf) hcl' hu'
   ·rw[if_neg (by rw[hw];simp)]
    have hsr:=after (v:=undef) hs' (by rw[hval];exact undef_rel)
    refine ⟨fun _ _=>trivial,?_⟩
    have e6:selH (fun i=>(fp i).2) hs (fun i=>(L.setIfInBounds j true).getD i false) ops.size=selH (fun i=>(fp i).2) hs (fun i=>L.getD i false) ops.size:=by
     apply List.ext_getElem?
     intro id
     exact keep id (by rw[hff];simp)
    exact ih (L.setIfInBounds j true) (a.put o.dst undef) w σ hL' (by rw[e6];exact hr) (by rw[e6];exact hst) (by rw[e6];exact hsr) (by rw[put_defers];exact hdf) hcl' hu'
theorem voids [DFlag] {P:Program}{σ:List (Option Nat)}{h:H}{w:World}(hr:HRel P B A0 σ h w):∀m,HRel P B A0 (σ++List.replicate m none) (h++List.replicate m .void) w∧Step P B A0 σ h w (σ++List.replicate m none) (h++List.replicate m .void) w:=by
 intro m
 induction m with
 | zero=>simpa using ⟨hr,Step.refl _ _ _⟩
 | succ m ih=>
  obtain ⟨k1,k2⟩:=ih
  have hy:∀b,(none:Option Nat)=some b→w.heap.size≤b:=fun b hb=>by cases hb
  have e1:=HRel.push k1 (.refl w) .void none hy (fun cs st e=>by cases e) (fun u ty e=>by cases e) (fun L st e=>by cases e) (fun es e=>by cases e)
  have e2:=Step.push k1 (.refl w) .void none hy
  rw[List.replicate_succ',List.replicate_succ',←List.append_assoc,←List.append_assoc]
  exact ⟨e1,k2.trans e2⟩
end
end Go.V
