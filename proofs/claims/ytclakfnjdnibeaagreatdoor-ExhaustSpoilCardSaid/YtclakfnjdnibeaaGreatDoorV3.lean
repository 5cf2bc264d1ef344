/- A part of the proof. -/
import Derived.Test.YtclakfnjdnibeaaGreatDoorV2
namespace Go.V
open Go
section
variable {P:Program}{A:Nat->Nat->Prop}{σ:List (Option Nat)}{h:H}{w:World}
theorem jf{α:Type}:∀(e:Sem α) (r:α),dI P e=some r->e.run P w=.ok r w:=by
 intro e;induction e with
 |pure a=>intro r h;simp[dI]at h;simp[Sem.run,h]
 |program k b=>intro r h;simp only[dI]at h;simp only[Sem.run];exact b _ _ h
 |_=>intro r h;simp[dI]at h
theorem Cx{v:Value}{a:AV}(h:db v=some a):(∃n,a=.isl [] .full/\v=.slice none n n/\n=0)\/IRel A w a v:=by
 unfold db at h;split at h<;>try(cases h;done)
 all_goals (simp only[aA]at h;subst h)
 all_goals first|(left;exact⟨0,rfl,rfl,rfl⟩)|(right;constructor)
theorem wH{v:Value}{a:AV}(hh:db v=some a):Rel P A σ h w a v:=by
 rcases Cx (A:=A) (w:=w) hh with⟨n,rfl,rfl,rfl⟩|b
 ·exact .full .islNil
 exact .data b
theorem wG{v:Value}{a:AV}(hh:db v=some a):a.one=true:=by unfold db at hh;split at hh<;>first|(cases hh;done)|(simp only[aA]at hh;subst hh;rfl)
theorem EY:∀(l:List Value) (r:LA),AL l=some r->r.length=l.length/\∀(i:Nat) a v,r[i]?=some a->l[i]?=some v->db v=some a:=by
 intro l;induction l with
 |nil=>intro r h;simp[AL]at h;subst h;simp
 |cons v l d=>
  intro r h;simp only[AL]at h;split at h<;>try(cases h;done)
  rename_i a k e f;simp only[aA]at h;subst h;have⟨g,j⟩:=d _ f;refine⟨by simp[g],λi m n b c=>?_⟩;cases i with
  |zero=>simp at b c;subst b c;exact e
  |succ i=>simp at b c;exact j i _ _ b c
theorem jg{v:Value}{a:AV}(hh:eC v=some a):Rel P A σ h w a v:=by
 unfold eC at hh;split at hh
 ·rename_i d;split at hh<;>try(cases hh;done)
  rename_i l e;simp only[aA]at hh;subst hh;have⟨f,b⟩:=EY _ _ e;refine .agg (λc g=>?_) (by simpa using f.symm) (λi a v j k=>?_)
  ·obtain⟨i,m,rfl⟩:=bg g;exact wG (b i l[i] (d.toList[i]' o_) (by simp[m]) (by rw[aC]))
  exact wH (b i a v j (by simpa using k))
 exact wH hh
theorem lJ{a:AV}{u v:Value}(hh:cw a=some u) (r:IRel A w a v):v=u:=by cases r<;>simp_all [cw]
theorem el{a:AV}{u v:Value}(hh:cw a=some u) (r:Rel P A σ h w a v):v=u:=by cases r<;>first|exact lJ hh ‹_› | simp_all [cw]
theorem pi:∀(l:LA) (r:List Value),toList l=some r->r.length=l.length/\∀(i:Nat) a v,l[i]?=some a->r[i]?=some v->cw a=some v:=by
 intro l;induction l with
 |nil=>intro r h;simp[toList]at h;subst h;simp
 |cons v l d=>
  intro r h;simp only[toList]at h;split at h<;>try(cases h;done)
  rename_i a k e f;simp only[aA]at h;subst h;have⟨g,j⟩:=d _ f;refine⟨by simp[g],λi m n b c=>?_⟩;cases i with
  |zero=>simp at b c;subst b c;exact e
  |succ i=>simp at b c;exact j i _ _ b c
theorem oH{l:LA}{r:List Value}{vs:Array Value}(hl:toList l=some r) (hs:vs.size=l.length)
  (hv:∀(i:Nat) a v,l[i]?=some a->vs[i]?=some v->∀u,cw a=some u->v=u):vs=r.toArray:=by
 have⟨c,d⟩:=pi _ _ hl;apply Array.ext (by simp[hs,c]);intro i e f;have b:l[i]?=some (l[i]' o_):=aC _;have g:r[i]?=some (r[i]' o_):=aC _;have:=hv i _ _ b (aT e) _ (d i _ _ b g);simpa using this
theorem km{a:AV}{u v:Value}(hh:fH a=some u) (r:Rel P A σ h w a v):v=u:=by
 unfold fH at hh;split at hh
 ·rename_i k;split at hh<;>try(cases hh;done)
  rename_i l g;simp only[aA]at hh;subst hh;cases r with
  |data r=>cases r with|agg j b c=>rw[oH g b (λi a v d e u f=>lJ f (c i a v d e))]
  |agg j b c=>rw[oH g b (λi a v d e u f=>el f (c i a v d e))]
 exact el hh r
variable {n:Nat}{s:PT}{a:Act}
theorem bz(hg:lS A w) (hs:SRel P A σ h w n s a.tmps){x:Operand}{c:AV}(hx:ev s x=some c):Rel P A σ h w c (a.eval x):=by
 cases x with
 |tmp t=>simp only[ev,aA]at hx;subst hx;exact hs.2 t
 |const v=>exact jg hx
 |global g=>obtain⟨d,b,rfl⟩:=cV.1 hx;exact .data (hg.1 g d b)
 |func f=>simp only[ev,aA]at hx;subst hx;exact .func s_ s_
theorem uX(hg:lS A w) (hs:SRel P A σ h w n s a.tmps):∀(l:List Operand) (cs:LA),evs s l=some cs ->
  cs.length=l.length/\∀(i:Nat) c x,cs[i]?=some c->l[i]?=some x->Rel P A σ h w c (a.eval x):=by
 intro l;induction l with
 |nil=>intro cs h;simp[evs]at h;subst h;simp
 |cons x l e=>
  intro cs h;simp only[evs]at h;split at h<;>try(cases h;done)
  rename_i c r f g;simp only[aA]at h;subst h;have⟨j,k⟩:=e _ g;refine⟨by simp[j],λi m o b d=>?_⟩;cases i with
  |zero=>simp at b d;subst b d;exact bz hg hs f
  |succ i=>simp at b d;exact k i _ _ b d
theorem uH{cs:LA}{v:Value}(r:Rel P A σ h w (.agg cs) v):∃vs:Array Value,v=.agg vs/\vs.size=cs.length/\(∀c∈cs,c.one=true) /\
  ∀(i:Nat) a v,cs[i]?=some a->vs[i]?=some v->Rel P A σ h w a v:=by
 cases r with
 |data r=>cases r with|agg b d e=>exact⟨_,rfl,d,b,λi a v f g=>.data (e i a v f g)⟩
 |agg b d e=>exact⟨_,rfl,d,b,e⟩
theorem uG{cs:LA}{v:Value}(r:Rel P A σ h w (.tuple cs) v):∃vs:Array Value,v=.tuple vs/\vs.size=cs.length /\
  ∀(i:Nat) a v,cs[i]?=some a->vs[i]?=some v->Rel P A σ h w a v:=by
 cases r with
 |data r=>cases r with|tuple b c=>exact⟨_,rfl,b,λi a v d e=>.data (c i a v d e)⟩
 |tuple b c=>exact⟨_,rfl,b,c⟩
theorem nW{k:IntKind}{m:Int}{v:Value}(r:Rel P A σ h w (.int k m) v):v=.int k m:=el rfl r
theorem pA{b:Bool}{v:Value}(r:Rel P A σ h w (.bool b) v):v=.bool b:=el rfl r
theorem zE{b:ByteArray}{v:Value}(r:Rel P A σ h w (.str b) v):v=.string b:=el rfl r
theorem oh{c:AV}{v:Value}(r:Rel P A σ h w c v) (hn:bf c=true):v.cells.size=c.cells.length/\(∀x∈c.cells,x.one=true) /\
  ∀(i:Nat) x u,c.cells[i]?=some x->v.cells[i]?=some u->Rel P A σ h w x u:=by
 by_cases g:∃e,c=.agg e
 ·obtain⟨e,rfl⟩:=g;obtain⟨o,rfl,j,k,l⟩:=uH r;exact⟨j,k,l⟩
 have d:c.one=true:=by cases c<;>simp_all [AV.one,bf]
 have a:c.cells=[c]:=by cases c<;>simp_all [AV.cells,AV.one]
 have m:v.cells = #[v]:=by
  cases r with
  |data r=>cases r<;>simp_all [Value.cells,AV.one]
  |agg=>simp_all
  |tuple=>simp_all [AV.one]
  |tok n p=>cases n<;>rfl
  |_=>rfl
 rw[a,m];refine⟨rfl,λx b=>by simp at b;subst b;exact d,λi x u b f=>?_⟩;cases i with
 |zero=>simp at b f;subst b f;exact r
 |succ i=>simp at b
end
end Go.V
