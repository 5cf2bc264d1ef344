/- A part of the proof. -/
import Derived.Test.YtclakfnjdnibeaaGreatDoorV5
import Derived.Laws.Tables
namespace Go.V
open Go
section
variable {P:Program}{A:Nat->Nat->Prop}{σ:List (Option Nat)}{h:H}{w:World}
theorem Ct:∀(fs:List Field),px P fs=true->∃pl:List (Nat × Nat),fs.mapM (λf=>(P.info? f.type).map λi=>(f.offset,i.size))=some pl /\
  ∀(i:Nat),pl[i]?=(match fs[i]? with|some f=>(match cr P f.type with|some n=>some (f.offset,n)|none=>none)|none=>none):=by
 intro fs;induction fs with
 |nil=>intro _;exact⟨[],s_,λi=>s_⟩
 |cons f fs c=>
  intro a;simp only[px,am]at a;have⟨pl,d,e⟩:=c a.2;have⟨i,b⟩:=dC.1 a.1;refine⟨(f.offset,i.size)::pl,by simp[List.mapM_cons,b,d],λj=>?_⟩;cases j with
  |zero=>simp[cr,b]
  |succ j=>simp[e]
theorem yT{pl:Nat->Option (Nat × Nat)}:∀(parts:List (Nat × AV)) (z r:LA) (us:List (Nat × Value)) (vs:Array Value),CO pl z parts=some r ->
  us.length=parts.length->(∀(k i:Nat) a j u,parts[k]?=some (i,a)->us[k]?=some (j,u)->i=j/\Rel P A σ h w a u/\bf a=true) ->
  vs.size=z.length->(∀c∈z,c.one=true)->(∀(i:Nat) a v,z[i]?=some a->vs[i]?=some v->Rel P A σ h w a v) ->
  ∃vs':Array Value,Instr.fill pl vs us=some vs'/\vs'.size=r.length/\(∀c∈r,c.one=true)/\∀(i:Nat) a v,r[i]?=some a->vs'[i]?=some v->Rel P A σ h w a v:=by
 intro parts;induction parts with
 |nil=>intro z r us vs f F _ J s K;simp only[CO,aA]at f;subst f;have:us=[]:=bt (by simpa using F);subst this;exact⟨vs,rfl,J,s,K⟩
 |cons p parts O=>
  intro z r us vs f F N J s K;have⟨i,a⟩:=p;cases us with
  |nil=>simp at F
  |cons q us=>
   have⟨j,u⟩:=q;obtain⟨rfl,Q,S⟩:=N 0 i a j u rfl rfl;simp only[CO]at f;split at f<;>try(cases f;done)
   rename_i b size L;split at f<;>try(cases f;done)
   rename_i hb;have⟨U,V,X⟩:=oh Q S;have t:∀(l:List Value) (k:Nat) (d:Array Value),b+k+l.length<=d.size ->
     ((l.zipIdx k).foldl (λd (c,j)=>d.setIfInBounds (b+j) c) d).size=d.size /\
     ∀m:Nat,((l.zipIdx k).foldl (λd (c,j)=>d.setIfInBounds (b+j) c) d)[m]?=if b+k<=m/\m<b+k+l.length then l[m-(b+k)]? else d[m]?:=by
    intro l;induction l with
    |nil=>intro k d _;simp;intro m s h2;omega
    |cons c l M=>
     intro k d Y;simp only[aG]at Y;simp only[nU,gG];have⟨G,I⟩:=M (k+1) (d.setIfInBounds (b+k) c) (by simp;omega);refine⟨by simp[G],λm=>?_⟩;rw[I];by_cases y:m=b+k
     ·subst y;rw[if_neg o_,if_pos (by simp only[aG];omega),kO o_];simp
     by_cases B:b+(k+1)<=m/\m<b+(k+1)+l.length
     ·rw[if_pos B,if_pos (by simp only[aG];omega)];rw[show m-(b+k)=(m-(b+(k+1)))+1 by omega];rfl
     rw[if_neg B,if_neg (by simp only[aG];omega)];rw[jJ o_]
   have⟨G,I⟩:=t u.cells.toList 0 vs (by simp;omega);simp only[df,dR]at G I;have e:(u.cells.zipIdx.foldl (λd (c,j)=>d.setIfInBounds (b+j) c) vs)=((u.cells.toList.zipIdx 0).foldl (λd (c,j)=>d.setIfInBounds (b+j) c) vs):=by rw[<-jy];simp
   have D:(z.take b++a.cells++z.drop (b+size)).length=z.length:=by simp;omega
   have E:∀m:Nat,(z.take b++a.cells++z.drop (b+size))[m]?=if b<=m/\m<b+a.cells.length then a.cells[m-b]? else z[m]?:=by
    intro m;by_cases Z:m<b
    ·rw[if_neg o_,List.append_assoc,aP (by simp;omega),cS,if_pos Z]
    by_cases c2:m<b+a.cells.length
    ·rw[if_pos ⟨o_,c2⟩,aP (by simp;omega),aj (by simp;omega)];simp;congr 1;omega
    rw[if_neg o_,aj (by simp;omega),cE];congr 1;simp;omega
   have⟨vs',k1,k2,k3,k4⟩:=O (z.take b++a.cells++z.drop (b+size)) r us (u.cells.zipIdx.foldl (λd (c,j)=>d.setIfInBounds (b+j) c) vs) f (by simpa using F)
    (λk i' a' j' u' n hy=>N (k+1) i' a' j' u' (by simpa using n) (by simpa using hy)) (by rw[e,G,D,J])
    (λc g=>by
     simp only[ac]at g;rcases g with(g|g)|g
     ·exact s c (bW g)
     ·exact V c g
     exact s c (dE g))
    (λm x v n o=>by
     rw[E]at n;rw[e,I]at o;rw[U]at o;split at n
     ·rename_i y;rw[if_pos y]at o;exact X (m-b) x v n (by simpa using o)
     rename_i y;rw[if_neg y]at o;exact K m x v n o)
   refine⟨vs',?_,k2,k3,k4⟩;simp only[Instr.fill,L];rw[if_neg (by simp;omega)];exact k1
theorem lf{t:TypeId}{a:AV}(hh:iH P t=some a):∃v,(zeroValue t).run P w=.ok v w/\Rel P A σ h w a v/\∃i,P.info? t=some i/\a.cells.length=i.size:=by
 unfold iH at hh;split at hh<;>try(cases hh;done)
 rename_i i b;split at hh<;>try(cases hh;done)
 rename_i v c;split at hh<;>try(cases hh;done)
 rename_i f d;split at hh<;>try(cases hh;done)
 rename_i e;simp only[aA]at hh;subst hh;exact⟨v,by simp[zeroValue,typeInfo,b,c],jg d,i,b,e⟩
variable {n:Nat}{s:PT}{a:Act}
theorem wC(hg:lS A w) (hs:SRel P A σ h w n s a.tmps):∀(l:List (Nat × Operand)) (r:List (Nat × AV)),gJ s l=some r ->
  r.length=l.length/\∀(k i:Nat) c j x,r[k]?=some (i,c)->l[k]?=some (j,x)->i=j/\Rel P A σ h w c (a.eval x)/\bf c=true:=by
 intro l;induction l with
 |nil=>intro r b;simp[gJ]at b;subst b;simp
 |cons p l f=>
  intro r b;have⟨i,x⟩:=p;simp only[gJ]at b;split at b<;>try(cases b;done)
  rename_i c u g m;split at b<;>try(cases b;done)
  rename_i o;simp only[aA]at b;subst b;have⟨q,t⟩:=f _ m;refine⟨by simp[q],λk v y z B d e=>?_⟩;cases k with
  |zero=>simp at d e;obtain⟨rfl,rfl⟩:=d;obtain⟨rfl,rfl⟩:=e;exact⟨rfl,bz hg hs g,o⟩
  |succ k=>simp at d e;exact t k _ _ _ _ d e
theorem Dv{t:TypeId}{parts:List (Nat × AV)}{us:Array (Nat × Value)}{r:AV}(hh:fK P t parts=some r) (hl:us.size=parts.length)
  (hp:∀(k i:Nat) c j u,parts[k]?=some (i,c)->us[k]?=some (j,u)->i=j/\Rel P A σ h w c u/\bf c=true) :
  ∃z,(Instr.build t us).run P w=.ok z w/\Rel P A σ h w r z:=by
 unfold fK at hh;split at hh<;>try(cases hh;done)
 ·rename_i a d;split at hh<;>try(cases hh;done)
  rename_i M;split at hh<;>try(cases hh;done)
  rename_i z l;split at hh<;>try(cases hh;done)
  rename_i m e;simp only[aA]at hh;subst hh;have⟨v,n,o,i,N,O⟩:=lf (A:=A) (σ:=σ) (h:=h) (w:=w) l;obtain⟨g,rfl,p,q,s⟩:=uH o;have⟨K,Q,S⟩:=Ct _ M;have y:mK P t=λi=>(K.toArray)[i]?:=by
   funext i
   simp only[mK,d,dB,S,bM];cases a[i]? with
   |none=>rfl
   |some f=>cases cr P f.type<;>rfl
  rw[y]at e;have⟨b,B,D,E,F⟩:=yT parts z m us.toList g e (by simpa using hl) (λk i c j u G d=>hp k i c j u G (by simpa using d)) p q s;refine⟨.agg b,?_,.agg E D F⟩;simp only[Instr.build,Sem.run_bind,n,Result.andThen_ok,Value.cells,bd d,Array.mapM_eq_mapM_toList];have I:Instr.fill (λx=>K[x]?) g us.toList=some b:=by simpa using B
  simp[run_places w _ _ Q,I]
 rename_i len L d;split at hh<;>try(cases hh;done)
 rename_i z U l J;split at hh<;>try(cases hh;done)
 rename_i m e;simp only[aA]at hh;subst hh;have⟨v,n,o,i,N,O⟩:=lf (A:=A) (σ:=σ) (h:=h) (w:=w) l;obtain⟨g,rfl,p,q,s⟩:=uH o;have⟨b,B,D,E,F⟩:=yT parts z m us.toList g e (by simpa using hl) (λk i c j u G d=>hp k i c j u G (by simpa using d)) p q s;refine⟨.agg b,?_,.agg E D F⟩;simp only[Instr.build,Sem.run_bind,n,Result.andThen_ok,Value.cells,bd d,fQ J,B,Sem.run_pure]
theorem ur{mx:Bool}{l:LA}{us:Array Value}{r:AV}{at_:Array TypeId}{ty:TypeId}(hh:rV P mx l=some r) (hl:us.size=l.length)
  (hr:∀(i:Nat) c u,l[i]?=some c->us[i]?=some u->Rel P A σ h w c u) :
  ∃z,(if mx then Builtin.max_ at_ ty us else Builtin.min_ at_ ty us).run P w=.ok z w/\Rel P A σ h w r z:=by
 unfold rV at hh;split at hh<;>try(cases hh;done)
 rename_i d b;split at hh<;>try(cases hh;done)
 rename_i z f;have e:us=d.toArray:=oH b hl (λi a v g b u j=>el j (hr i a v g b));subst e;refine⟨z,?_,jg hh⟩;have:=jf (w:=w) _ _ f;cases mx<;>exact this
theorem AJ(hg:lS A w) (hs:SRel P A σ h w n s a.tmps){x:Option Operand}(hx:x.map (ev s)≠some none):tx P A σ h w ((x.map (ev s)).bind id) (x.map a.eval):=by
 cases x with
 |none=>trivial
 |some x=>
  simp only[bq]at hx ⊢;cases b:ev s x with
  |none=>simp[b]at hx
  |some c=>exact bz hg hs b
end
end Go.V
