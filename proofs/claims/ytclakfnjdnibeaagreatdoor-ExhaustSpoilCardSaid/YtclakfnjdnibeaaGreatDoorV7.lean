/- A part of the proof. -/
import Derived.Test.YtclakfnjdnibeaaGreatDoorV6
import Derived.Laws.BytesString
import Derived.Laws.Cells
set_option maxHeartbeats 1000000
namespace Go.V
open Go
structure Good (P:Program):Prop where
 names:∀(f:Nat) fn,P.funcs[f]?=some fn->(fn.name == "runtime.NumGoroutine")=false
 mixed:P.follows .mixedOrders=true
section
variable {P:Program}{A:Nat->Nat->Prop}{σ:List (Option Nat)}{h:H}{w:World}{n:Nat}{s:PT}{a:Act}
theorem nC{e:Sem Value}{v:Value}(he:e.run P w=.ok v w):(do pure (.value (<-e)):Sem Next).run P w=.ok (.value v) w:=by simp only[Sem.run_bind,he,Result.andThen_ok,Sem.run_pure]
theorem IA:∀ {es:LA}{ns:List Int},Fs es=some ns->es=ns.map (AV.int .u8):=by
 intro es;induction es with
 |nil=>intro ns h;simp only[Fs,aA]at h;subst h;rfl
 |cons e es b=>
  intro ns h;unfold Fs at h;split at h
  ·rename_i a;cases a
  ·rename_i n r a;simp only[bw]at a;obtain⟨rfl,rfl⟩:=a;split at h<;>try(cases h;done)
   rename_i l c;simp only[aA]at h;subst h;rw[b c];rfl
  cases h
theorem FK{P:Program}{A:Nat->Nat->Prop}{σ:List (Option Nat)}{h:H}{w:World}{src dst:TypeId}{es:LA}{x:Ext}{r:AV}{u:Value}(hh:wa P src dst es=some r) (ra:Rel P A σ h w (.isl es x) u):∃z,(convert src dst u).run P w=.ok z w/\Rel P A σ h w r z:=by
 unfold wa at hh;split at hh<;>try(cases hh;done)
 rename_i e p q;split at hh<;>try(cases hh;done)
 rename_i c s E;simp only[aA]at hh;subst hh;have k:=IA E;subst k;rcases nw (mT ra)with⟨d,g,i,rfl,L,t⟩|⟨F,b,o,i,f,rfl,M,N,O,G,Q,I,J⟩
 ·have:c=[]:=by simpa using d
  subst this;refine⟨.string ByteArray.empty,?_,.data (.str _)⟩;rw[run_convert_bytes_string w src dst e _ _ _ p s q];cases g with
  |none=>simp[Conv.bytesToString]
  |some a=>simp[Conv.bytesToString,loadCells,loadCellsFrom]
 refine⟨.string (TB c),?_,.data (.str _)⟩;rw[run_convert_bytes_string w src dst e _ _ _ p s q];have K:(c.map (Value.int .u8)).length=c.length:=s_;have:=run_loadCells_list (P:=P) w ⟨b,o,none⟩ (c.map (Value.int .u8)) (λj v y=>by
  rw[ba]at y;obtain⟨n,t,rfl⟩:=cV.1 y;have l:(c.map (AV.int .u8))[j]?=some (.int .u8 n):=by rw[ba,t];rfl
  have m:F=1:=by have:=(G _ (ai l)).1;simpa[AV.cells]using this.symm
  subst m;have B:=(I j 0 _ _ l rfl).2;have D:=J j 0 _ _ l rfl;generalize f j 0=z at B D;cases D;rw[fV];simpa using B)
 rw[K]at this;rw[aU];exact run_bytesToString w _ c.length i c this
theorem KN(_hP:Good P) (hg:lS A w) (hs:SRel P A σ h w n s a.tmps){o:Oper}{r:AV}(hh:opN P s o=some r):∃v,(execOp a.eval o).run P w=.ok (.value v) w/\Rel P A σ h w r v:=by
 unfold opN at hh;split at hh
 ·rename_i x ho;exact⟨_,by simp only[execOp,ho,Sem.run_pure],bz hg hs hh⟩
 ·rename_i x ho;exact⟨_,by simp only[execOp,ho,Sem.run_pure],bz hg hs hh⟩
 ·rename_i c x y ho;split at hh<;>try(cases hh;done)
  ·rename_i hc;exact⟨_,by simp only[execOp,ho,Sem.run_bind,pA (bz hg hs hc),asBool,Sem.run_pure,Result.andThen_ok,if_true],bz hg hs hh⟩
  rename_i hc;exact⟨_,by simp only[execOp,ho,Sem.run_bind,pA (bz hg hs hc),asBool,Sem.run_pure,Result.andThen_ok,aw,if_false],bz hg hs hh⟩
 ·rename_i t parts ho;split at hh<;>try(cases hh;done)
  rename_i l hl;obtain⟨e1,e2⟩:=wC hg hs _ _ hl;obtain⟨z,g1,g2⟩:=Dv (us:=parts.map λ(i,x)=>(i,a.eval x)) hh (by simpa using e1.symm) (λk i c j u hc hu=>by
   rw[iR]at hu;cases hp:parts[k]? with
   |none=>simp[hp]at hu
   |some q=>have⟨j',x⟩:=q;simp[hp]at hu;obtain⟨rfl,rfl⟩:=hu;exact e2 k i c _ x hc (by simpa using hp))
  exact⟨z,by simp only[execOp,ho];exact nC g1,g2⟩
 ·rename_i x ho;split at hh<;>try(cases hh;done)
  all_goals (rename_i hx;simp only[aA]at hh;subst hh;have hr:=bz hg hs hx)
  ·have⟨b,e1,e2,e3⟩:=pv hr;exact⟨a.eval x,by simp only[execOp,ho,e1,Sem.run_pure],hr⟩
  ·have⟨b,o',f,e1,_⟩:=sx hr;exact⟨a.eval x,by simp only[execOp,ho,e1,Sem.run_pure],hr⟩
  have:∃g vs,a.eval x=.func (.func g) #[] vs:=by
   generalize a.eval x=z at hr;cases hr with
   |data hr=>cases hr;exact⟨_,_,rfl⟩
   |func=>exact⟨_,_,rfl⟩
  have⟨g,vs,e1⟩:=this;exact⟨a.eval x,by simp only[execOp,ho,e1,Sem.run_pure],hr⟩
 ·rename_i op t x y yt ho;split at hh<;>try(cases hh;done)
  rename_i c d hx hy;have⟨z,g1,g2⟩:=ID hh (bz hg hs hx) (bz hg hs hy) (λe=>by subst e;rfl);exact⟨z,by simp only[execOp,ho];exact nC g1,g2⟩
 ·rename_i op t x ho;split at hh<;>try(cases hh;done)
  rename_i c hx;have⟨z,g1,g2⟩:=Jl hh (bz hg hs hx);exact⟨z,by simp only[execOp,ho];exact nC g1,g2⟩
 ·rename_i src dst x ho;split at hh<;>try(cases hh;done)
  ·rename_i es ext hx;have⟨z,g1,g2⟩:=FK hh (bz hg hs hx);exact⟨z,by simp only[execOp,ho];exact nC g1,g2⟩
  rename_i c hx;have⟨z,g1,g2⟩:=FJ hh (bz hg hs hx);exact⟨z,by simp only[execOp,ho];exact nC g1,g2⟩
 ·rename_i t x ho;split at hh<;>try(cases hh;done)
  rename_i d c hni hu hx;split at hh<;>try(cases hh;done)
  rename_i hn;simp only[aA]at hh;subst hh;refine⟨_,?_,.iface hn (bz hg hs hx)⟩;simp only[execOp,ho];refine nC ?_;simp only[Instr.makeInterface,Sem.run_bind,bd hu,Result.andThen_ok];cases d<;>first|rfl|exact absurd rfl (hni _)
 ·rename_i f first captured ho
  split at hh<;>try(cases hh;done)
  rename_i hf;split at hh<;>try(cases hh;done)
  rename_i l hl;simp only[aA]at hh;subst hh;have hfe:first = #[]:=by simpa using hf
  subst hfe;have⟨e1,e2⟩:=uX hg hs _ _ hl;refine⟨_,by simp only[execOp,ho];exact nC (v:=.func (.func f) #[] (captured.map a.eval)) (by simp[Instr.makeFunc]),.func (vs:=captured.map a.eval) (by simpa using e1.symm) (λi c v hc hv=>?_)⟩;rw[iR]at hv;cases hp:captured[i]? with
  |none=>simp[hp]at hv
  |some x=>simp[hp]at hv;subst hv;exact e2 i c x hc (by simpa using hp)
 ·rename_i t x lo hi mx ho;split at hh<;>try(cases hh;done)
  rename_i c hx;split at hh<;>try(cases hh;done)
  rename_i q1 q2 q3;have⟨z,g1,g2⟩:=Cm hh (bz hg hs hx) (AJ hg hs (λe=>q1 e)) (AJ hg hs (λe=>q2 e)) (AJ hg hs (λe=>q3 e));exact⟨z,by simp only[execOp,ho];exact nC g1,g2⟩
 ·rename_i t x f ho;split at hh<;>try(cases hh;done)
  rename_i c hx;have⟨z,g1,g2⟩:=xh hh (bz hg hs hx);exact⟨z,by simp only[execOp,ho];exact nC g1,g2⟩
 ·rename_i t x f ho;split at hh<;>try(cases hh;done)
  rename_i c hx;have⟨z,g1,g2⟩:=DS hh (bz hg hs hx);exact⟨z,by simp only[execOp,ho];exact nC g1,g2⟩
 ·rename_i t x i ho;split at hh<;>try(cases hh;done)
  rename_i c d hx hy;have⟨z,g1,g2⟩:=xa hh (bz hg hs hx) (bz hg hs hy);exact⟨z,by simp only[execOp,ho];exact nC g1,g2⟩
 ·rename_i t x i ho;split at hh<;>try(cases hh;done)
  rename_i c d hx hy;have⟨z,g1,g2⟩:=DI hh (bz hg hs hx) (bz hg hs hy);exact⟨z,by simp only[execOp,ho];exact nC g1,g2⟩
 ·rename_i x i ho;split at hh<;>try(cases hh;done)
  rename_i l hx;have⟨vs,e1,e2,e3⟩:=uG (bz hg hs hx);have hi:i<l.length:=by
   rcases iv i l.length with hi|hi
   ·exact hi
   rw[cK hi]at hh;cases hh
  have hv:vs[i]?=some (vs[i]' o_):=aT _;exact⟨_,by simp only[execOp,ho,e1];exact nC (by simp only[Instr.extract,hv,Sem.run_pure]),e3 i r _ hh hv⟩
 ·rename_i args argTypes ho;split at hh<;>try(cases hh;done)
  rename_i x t hargs htypes;split at hh<;>try(cases hh;done)
  rename_i c hx;have e1:args = #[x]:=by apply Array.ext';simpa using hargs
  have e2:argTypes = #[t]:=by apply Array.ext';simpa using htypes
  subst e1 e2;have⟨z,g1,g2⟩:=G3 (ty:=o.type) hh (bz hg hs hx);refine⟨z,?_,g2⟩;simp only[execOp,ho,resolve,invoke,builtin,Sem.run_bind,Sem.run_pure,Result.andThen_ok,iG,aS,bD,g1]
 ·rename_i args argTypes ho;split at hh<;>try(cases hh;done)
  rename_i x t hargs htypes;split at hh<;>try(cases hh;done)
  rename_i c hx;have e1:args = #[x]:=by apply Array.ext';simpa using hargs
  have e2:argTypes = #[t]:=by apply Array.ext';simpa using htypes
  subst e1 e2;have⟨z,g1,g2⟩:=Hq (ty:=o.type) hh (bz hg hs hx);refine⟨z,?_,g2⟩;simp only[execOp,ho,resolve,invoke,builtin,Sem.run_bind,Sem.run_pure,Result.andThen_ok,iG,aS,bD,g1]
 ·rename_i args argTypes ho;split at hh<;>try(cases hh;done)
  rename_i l hl;obtain⟨e1,e2⟩:=uX hg hs _ _ hl;obtain⟨z,g1,g2⟩:=ur (us:=args.map a.eval) (at_:=argTypes) (ty:=o.type) hh (by simpa using e1.symm) (λi c u hc hu=>by
   rw[iR]at hu;cases hp:args[i]? with
   |none=>simp[hp]at hu
   |some x=>simp[hp]at hu;subst hu;exact e2 i c x hc (by simpa using hp))
  refine⟨z,?_,g2⟩
  simp only[aw,if_false]at g1
  simp only[execOp,ho,resolve,invoke,builtin,Sem.run_bind,Sem.run_pure,Result.andThen_ok,g1]
 ·rename_i args argTypes ho;split at hh<;>try(cases hh;done)
  rename_i l hl;obtain⟨e1,e2⟩:=uX hg hs _ _ hl;obtain⟨z,g1,g2⟩:=ur (us:=args.map a.eval) (at_:=argTypes) (ty:=o.type) hh (by simpa using e1.symm) (λi c u hc hu=>by
   rw[iR]at hu;cases hp:args[i]? with
   |none=>simp[hp]at hu
   |some x=>simp[hp]at hu;subst hu;exact e2 i c x hc (by simpa using hp))
  refine⟨z,?_,g2⟩
  simp only[if_true]at g1
  simp only[execOp,ho,resolve,invoke,builtin,Sem.run_bind,Sem.run_pure,Result.andThen_ok,g1]
 cases hh
theorem wh{t:TypeId}{cs:LA}{off:Nat}{r:AV}{b o:Nat}(hh:aZ P t cs off=some r) (h1:∀c∈cs,c.one=true)
  (hr:∀(i:Nat) c,cs[i]?=some c->∃v,w.cell? ⟨b,o+i,none⟩=some v/\Rel P A σ h w c v):∃v,(loadVar t ⟨b,o+off,none⟩).run P w=.ok v w/\Rel P A σ h w r v:=by
 unfold aZ at hh;split at hh<;>try(cases hh;done)
 ·rename_i n l m;split at hh<;>try(cases hh;done)
  rename_i z;simp only[aA]at hh;subst hh;have p:∀j,j<n->∃v c,w.cell? ⟨b,o+off+j,none⟩=some v/\cs[off+j]?=some c/\Rel P A σ h w c v:=λj q=>by have k:cs[off+j]?=some (cs[off+j]' o_):=aC _;have⟨v,a,g⟩:=hr _ _ k;exact⟨v,_,by rw[fe];exact a,k,g⟩
  have x:∃f:Nat->Value,∀j,j<n->w.cell? ((⟨b,o+off,none⟩:Addr).add j)=some (f j):=⟨λj=>(w.cell? ⟨b,o+off+j,none⟩).getD undef,λj q=>by have⟨v,c,a,_⟩:=p j q;rw[fV,a];simp[a]⟩
  have⟨f,s⟩:=x;refine⟨_,?_,.agg (vs:=((List.range n).map f).toArray) (λc k=>h1 c (dE (bW k))) (by simp;omega) (λi c v e u=>?_)⟩
  ·simp only[loadVar,Sem.run_bind,uE l,Result.andThen_ok,if_true,fQ m,run_loadCells w _ n f s,Sem.run_pure]
  rw[jo]at e;split at e<;>try(cases e;done)
  rename_i d;have⟨B,D,a,g,y⟩:=p i d;have:=s i d;rw[fV,a]at this;simp only[dB,ba,eO d,bq,aA]at u;simp only[aA]at this;rw[g]at e;simp only[aA]at e;rw[<-e,<-u,<-this];exact y
 rename_i n l m;have⟨v,a,g⟩:=hr _ _ hh;refine⟨v,?_,g⟩;simp only[loadVar,Sem.run_bind,uE l,Result.andThen_ok,aw,if_false];simp[a]
end
section
variable {P:Program}{B:Nat}{A0:Nat->Nat->Prop}{σ:List (Option Nat)}{h:H}{w:World}{n:Nat}{s:PT}{a:Act}
theorem yL(hr:HRel P B A0 σ h w){t:TypeId}{x r:AV}{u:Value}(hh:aW P h t x=some r) (rx:Rel P (Alw P B A0 σ h) σ h w x u) :
  ∃v,(Instr.loadAt t u).run P w=.ok v w/\Rel P (Alw P B A0 σ h) σ h w r v:=by
 unfold aW at hh;have key:∀(id off:Nat) cs st,h[id]?=some (.cells cs st)->st≠.dead->x=.ptr id off->aZ P t cs off=some r->∃v,(Instr.loadAt t u).run P w=.ok v w/\Rel P (Alw P B A0 σ h) σ h w r v:=by
  intro id off cs st hid hst hx hc;subst hx;obtain⟨b,rfl,g1,_⟩:=pv rx;obtain⟨b',vs,ty,k1,k2,k3,k4,k5,k6⟩:=hr.cells id cs st hid hst;rw[g1]at k1;simp only[aA]at k1;subst k1;obtain⟨v,e1,e2⟩:=wh (b:=b) (o:=0) hc k5 (λi c hi=>by have hl:i<cs.length:=(aB.1 hi).1;have hv:vs[i]?=some (vs[i]' o_):=aT _;exact⟨_,by rw[cH,cell_of_row w b i vs ty _ k3,hv],k6 i c _ hi hv⟩)
  rw[cH]at e1
  exact⟨v,by simp only[Instr.loadAt,Instr.sureAddr,Sem.run_bind,Sem.run_pure,Result.andThen_ok,e1],e2⟩
 split at hh<;>try(cases hh;done)
 ·rename_i id off;split at hh<;>try(cases hh;done)
  ·rename_i cs hid;exact key id off cs _ hid s_ rfl hh
  rename_i cs hid;exact key id off cs _ hid s_ rfl hh
 rename_i e off;obtain⟨b,o,f,rfl,g1,g2,g3⟩:=sx rx;have⟨v,e1,e2⟩:=wh (A:=Alw P B A0 σ h) (σ:=σ) (h:=h) (b:=b) (o:=o) hh g1 (λi c hi=>⟨f i,(g2 i c hi).2,.data (g3 i c hi)⟩);exact⟨v,by simp only[Instr.loadAt,Instr.sureAddr,Sem.run_bind,Sem.run_pure,Result.andThen_ok,e1],e2⟩
end
end Go.V
