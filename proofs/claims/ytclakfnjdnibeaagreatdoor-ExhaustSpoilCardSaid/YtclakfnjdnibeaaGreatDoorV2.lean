/- A part of the proof. -/
import Derived.Test.YtclakfnjdnibeaaGreatDoorV1
namespace Go.V
open Go
inductive IRel (A:Nat->Nat->Prop) (w:World):AV->Value->Prop
 |bool (b:Bool):IRel A w (.bool b) (.bool b)
 |int (k:IntKind) (n:Int):IRel A w (.int k n) (.int k n)
 |str (s:ByteArray):IRel A w (.str s) (.string s)
 |nilptr:IRel A w .nilptr (.pointer none)
 |nilmap:IRel A w .nilmap (.map none)
 |nilFunc:IRel A w .nilFunc .nilFunc
 |nilIface:IRel A w .nilIface .nilIface
 |iptr {e:AV}{off b o:Nat}(f:Nat->Value) (h1:∀c∈e.cells,c.one=true)
   (h2:∀(j:Nat) c,e.cells[j]?=some c->A b (o+j)/\w.cell? ⟨b,o+j,none⟩=some (f j))
   (h3:∀(j:Nat) c,e.cells[j]?=some c->IRel A w c (f j)):IRel A w (.iptr e off) (.pointer (some ⟨b,o+off,none⟩))
 |islNil:IRel A w (.isl [] .unk) (.slice none 0 0)
 |islEmpty (a:Addr) (cap:Nat) (hm:cap<=maxLen):IRel A w (.isl [] .unk) (.slice (some a) 0 cap)
 |isl {es:LA}{sz b o cap:Nat}(f:Nat->Nat->Value) (hz:0<sz) (hc:es.length<=cap) (hm:cap<=maxLen)
   (h0:∀e∈es,e.cells.length=sz/\bf e=true) (h1:∀e∈es,∀c∈e.cells,c.one=true)
   (h2:∀(i j:Nat) e c,es[i]?=some e->e.cells[j]?=some c->A b (o+i*sz+j)/\w.cell? ⟨b,o+i*sz+j,none⟩=some (f i j))
   (h3:∀(i j:Nat) e c,es[i]?=some e->e.cells[j]?=some c->IRel A w c (f i j)) :
   IRel A w (.isl es .unk) (.slice (some ⟨b,o,none⟩) es.length cap)
 |func {f:FuncId}{cs:LA}{vs:Array Value}(hl:vs.size=cs.length)
   (h:∀(i:Nat) (a:AV) (v:Value),cs[i]?=some a->vs[i]?=some v->IRel A w a v):IRel A w (.func f cs) (.func (.func f) #[] vs)
 |iface {t:TypeId}{a:AV}{v:Value}(hn:bf a=true) (h:IRel A w a v):IRel A w (.iface t a) (.iface t v)
 |agg {cs:LA}{vs:Array Value}(h1:∀c∈cs,c.one=true) (hl:vs.size=cs.length)
   (h:∀(i:Nat) (a:AV) (v:Value),cs[i]?=some a->vs[i]?=some v->IRel A w a v):IRel A w (.agg cs) (.agg vs)
 |tuple {cs:LA}{vs:Array Value}(hl:vs.size=cs.length)
   (h:∀(i:Nat) (a:AV) (v:Value),cs[i]?=some a->vs[i]?=some v->IRel A w a v):IRel A w (.tuple cs) (.tuple vs)
theorem IRel.mono{A A':Nat->Nat->Prop}{w w':World}(hA:∀b o x,A b o->w.cell? ⟨b,o,none⟩=some x->A' b o/\w'.cell? ⟨b,o,none⟩=some x)
  {a:AV}{v:Value}(h:IRel A w a v):IRel A' w' a v:=by
 induction h with
 |bool b=>exact .bool b
 |int k n=>exact .int k n
 |str s=>exact .str s
 |nilptr=>exact .nilptr
 |nilmap=>exact .nilmap
 |nilFunc=>exact .nilFunc
 |nilIface=>exact .nilIface
 |iptr f g l y d=>exact .iptr f g (λj c p=>hA _ _ _ (l j c p).1 (l j c p).2) d
 |islNil=>exact .islNil
 |islEmpty a q r=>exact .islEmpty a q r
 |isl f z p r B g l y d=>exact .isl f z p r B g (λi j e c t u=>hA _ _ _ (l i j e c t u).1 (l i j e c t u).2) d
 |func m _ d=>exact .func m d
 |iface D _ d=>exact .iface D d
 |agg g m _ d=>exact .agg g m d
 |tuple m _ d=>exact .tuple m d
def Yo(P:Program) (σ:List (Option Nat)) (w:World) (t:Nat) (v:Value) (n:Nat) (ty:TypeId):Prop:=
 (v=.slice none 0 0/\σ[t]?=some none/\n=0) \/
 ∃b cap vs sz,σ[t]?=some (some b)/\v=.slice (some ⟨b,0,none⟩) n cap/\(∃fr,w.heap[b]?=some (.cells vs ty fr)) /\
  cr P ty=some sz/\vs.size=cap*sz/\n<=cap/\cap<=maxLen
inductive Rel (P:Program) (A:Nat->Nat->Prop) (σ:List (Option Nat)) (h:H) (w:World):AV->Value->Prop
 |data {a:AV}{v:Value}(hd:IRel A w a v):Rel P A σ h w a v
 |yield {i l:Nat}(hs:σ[i]?=some (some l)) (hk:∃L st,h[i]?=some (.loop L st)):Rel P A σ h w (.yield i) (.func (.yield l) #[] #[])
 |mp {id b:Nat}(hs:σ[id]?=some (some b)) (hk:∃es,h[id]?=some (.map es)):Rel P A σ h w (.mp id) (.map (some b))
 |ptr {id off b:Nat}(hs:σ[id]?=some (some b)) (hk:∃cs st,h[id]?=some (.cells cs st)):Rel P A σ h w (.ptr id off) (.pointer (some ⟨b,off,none⟩))
 |msl {id off sz len c b:Nat}{cap:Option Nat}(hs:σ[id]?=some (some b)) (hk:∃cs st,h[id]?=some (.cells cs st)) (h0:0<sz) (hc:len<=c) (hm:c<=maxLen) (hcap:∀n,cap=some n->c=n) (hw:∃vs ty fr,w.heap[b]?=some (.cells vs ty fr)/\off+c*sz<=vs.size) :
   Rel P A σ h w (.msl id off sz len cap) (.slice (some ⟨b,off,none⟩) len c)
 |full {es:LA}{base:Option Addr}{n:Nat}(hd:IRel A w (.isl es .unk) (.slice base n n)):Rel P A σ h w (.isl es .full) (.slice base n n)
 |tok {es:LA}{t:Nat}{v:Value}(hd:IRel A w (.isl es .unk) v)
   (ht:∃u ty,h[t]?=some (.tok u ty)/\es.length<=u/\(es.length=u->Yo P σ w t v u ty)):Rel P A σ h w (.isl es (.tok t)) v
 |func {f:FuncId}{cs:LA}{vs:Array Value}(hl:vs.size=cs.length)
   (hr:∀(i:Nat) (a:AV) (v:Value),cs[i]?=some a->vs[i]?=some v->Rel P A σ h w a v):Rel P A σ h w (.func f cs) (.func (.func f) #[] vs)
 |iface {t:TypeId}{a:AV}{v:Value}(hn:bf a=true) (hr:Rel P A σ h w a v):Rel P A σ h w (.iface t a) (.iface t v)
 |agg {cs:LA}{vs:Array Value}(h1:∀c∈cs,c.one=true) (hl:vs.size=cs.length)
   (hr:∀(i:Nat) (a:AV) (v:Value),cs[i]?=some a->vs[i]?=some v->Rel P A σ h w a v):Rel P A σ h w (.agg cs) (.agg vs)
 |tuple {cs:LA}{vs:Array Value}(hl:vs.size=cs.length)
   (hr:∀(i:Nat) (a:AV) (v:Value),cs[i]?=some a->vs[i]?=some v->Rel P A σ h w a v):Rel P A σ h w (.tuple cs) (.tuple vs)
def Alw(P:Program) (B:Nat) (A0:Nat->Nat->Prop) (σ:List (Option Nat)) (h:H) (b o:Nat):Prop:=
 if b<B then A0 b o else
  (∀(i:Nat) cs,h[i]?=some (.cells cs .live)->σ[i]?≠some (some b)) /\
  (∀(i:Nat) u ty,h[i]?=some (.tok u ty)->σ[i]?=some (some b)->∃sz,cr P ty=some sz/\o<u*sz)
def Shapes(w w':World):Prop:=∀(b:Nat) (vs:Array Value) ty fr,w.heap[b]?=some (Obj.cells vs ty fr)->∃(vs':Array Value) (fr':Nat × Nat),w'.heap[b]?=some (Obj.cells vs' ty fr')/\vs'.size=vs.size
class DFlag where
 D:Prop
instance (priority:=low) noD:DFlag:=⟨False⟩
structure Step [DFlag] (P:Program) (B:Nat) (A0:Nat->Nat->Prop) (σ:List (Option Nat)) (h:H) (w:World) (σ':List (Option Nat)) (h':H) (w':World):Prop where
 below:RowKit.Below B w w'
 shapes:Shapes w w'
 kept:∀b o x,Alw P B A0 σ h b o->w.cell? ⟨b,o,none⟩=some x->Alw P B A0 σ' h' b o/\w'.cell? ⟨b,o,none⟩=some x
 cells:∀(i:Nat) cs st,h[i]?=some (.cells cs st)->σ'[i]?=σ[i]?/\∃cs' st',h'[i]?=some (.cells cs' st')
 toks:∀(i:Nat) u ty,h[i]?=some (.tok u ty)->∃u',h'[i]?=some (.tok u' ty)/\u<=u'/\(u'=u->σ'[i]?=σ[i]?)
 loops:∀(i:Nat) L st,h[i]?=some (.loop L st)->σ'[i]?=σ[i]?/\∃st',h'[i]?=some (.loop L st')
 maps:∀(i:Nat) es,h[i]?=some (.map es)->σ'[i]?=σ[i]?/\∃es',h'[i]?=some (.map es')
 marks:∀k:Nat,w.heap[k]?=some (.deferred (some []))->w'.heap[k]?=some (.deferred (some []))
 drawn:DFlag.D->w.drawn<=w'.drawn
section
variable {P:Program}{B:Nat}{A0:Nat->Nat->Prop}
theorem Shapes.refl(w:World):Shapes w w:=λ_ a _ b h=>⟨a,b,h,rfl⟩
theorem Shapes.trans{a b c:World}(h:Shapes a b) (k:Shapes b c):Shapes a c:=λi l j m n=>by have⟨f,g,o,p⟩:=h i l j m n;have⟨d,e,q,r⟩:=k i f j g o;exact⟨d,e,q,r.trans p⟩
theorem Step.refl [DFlag] (σ:List (Option Nat)) (h:H) (w:World):Step P B A0 σ h w σ h w:=
 ⟨.refl _ _,.refl _,λ_ _ _ a c=>⟨a,c⟩,λ_ e d b=>⟨rfl,e,d,b⟩,λ_ u _ b=>⟨u,b,aR _,λ_=>rfl⟩,λ_ _ d b=>⟨rfl,d,b⟩,λ_ f b=>⟨rfl,f,b⟩,λ_ g=>g,λ_=>aR _⟩
theorem Step.trans [DFlag] {σ σ1 σ2:List (Option Nat)}{h h1 h2:H}{w w1 w2:World}(a:Step P B A0 σ h w σ1 h1 w1) (b:Step P B A0 σ1 h1 w1 σ2 h2 w2):Step P B A0 σ h w σ2 h2 w2 where
 below:=a.below.trans b.below
 shapes:=a.shapes.trans b.shapes
 kept:=λx o v t y=>let r:=a.kept x o v t y;b.kept x o v r.1 r.2
 cells:=λi z m f=>by have⟨g,n,j,c⟩:=a.cells i z m f;have⟨l,r⟩:=b.cells i n j c;exact⟨l.trans g,r⟩
 toks:=λi u s f=>by have⟨A,c,D,g⟩:=a.toks i u s f;have⟨E,p,F,l⟩:=b.toks i A s c;exact⟨E,p,cW D F,λe=>by rw[l o_,g o_]⟩
 loops:=λi L m f=>by have⟨g,j,c⟩:=a.loops i L m f;have⟨l,r⟩:=b.loops i L j c;exact⟨l.trans g,r⟩
 maps:=λi G f=>by have⟨g,q,c⟩:=a.maps i G f;have⟨l,r⟩:=b.maps i q c;exact⟨l.trans g,r⟩
 marks:=λk I=>b.marks k (a.marks k I)
 drawn:=λd=>cW (a.drawn d) (b.drawn d)
theorem Rel.step [DFlag] {σ σ':List (Option Nat)}{h h':H}{w w':World}(s:Step P B A0 σ h w σ' h' w'){a:AV}{v:Value}
  (r:Rel P (Alw P B A0 σ h) σ h w a v):Rel P (Alw P B A0 σ' h') σ' h' w' a v:=by
 induction r with
 |data m=>exact .data (m.mono s.kept)
 |yield f g=>have⟨L,d,c⟩:=g;exact .yield ((s.loops _ L d c).1.trans f) ⟨L,(s.loops _ L d c).2⟩
 |mp f g=>have⟨E,c⟩:=g;exact .mp ((s.maps _ E c).1.trans f) (s.maps _ E c).2
 |ptr f g=>have⟨n,d,c⟩:=g;exact .ptr ((s.cells _ n d c).1.trans f) (s.cells _ n d c).2
 |msl f g K M N o O=>have⟨n,d,c⟩:=g;have⟨t,l,F,Q,e2⟩:=O;have⟨i,j,x,G⟩:=s.shapes _ t l F Q;exact .msl ((s.cells _ n d c).1.trans f) (s.cells _ n d c).2 K M N o ⟨i,l,j,x,o_⟩
 |full m=>exact .full (m.mono s.kept)
 |tok m S=>
  have⟨u,l,y,U,V⟩:=S;have⟨I,X,Y,J⟩:=s.toks _ u l y;refine .tok (m.mono s.kept) ⟨I,l,X,cW U Y,λe=>?_⟩;have Z:I=u:=o_;subst Z;rcases V o_ with⟨z,A,p⟩|⟨b,D,t,sz,z,A,p,k4,k5,k6,k7⟩
  ·exact .inl ⟨z,(J rfl).trans A,p⟩
  have⟨F,p⟩:=p;have⟨i,j,x,G⟩:=s.shapes b t l _ p;exact .inr ⟨b,D,i,sz,(J rfl).trans z,A,⟨j,x⟩,k4,G.trans k5,k6,k7⟩
 |func q _ k=>exact .func q k
 |iface hn _ k=>exact .iface hn k
 |agg y q _ k=>exact .agg y q k
 |tuple q _ k=>exact .tuple q k
def Hg:Ex->Option Code
 |.normal=>none
 |.exit id=>some (.exit id)
 |.ret=>some .ret
def mr(L:LoopV) (fn:FuncId) (tm:Array Value) (D:Nat):LSt->Loop
 |.ready=>{state:=.ready,pending:=none,fn,tmps:=tm,params:=L.ps,assign:=L.assign,body:=L.body,defers:=D}
 |.busy=>{state:=.busy,pending:=none,fn,tmps:=tm,params:=L.ps,assign:=L.assign,body:=L.body,defers:=D}
 |.done e=>{state:=.done,pending:=Hg e,fn,tmps:=tm,params:=L.ps,assign:=L.assign,body:=L.body,defers:=D}
 |.over=>{state:=.done,pending:=none,fn,tmps:=tm,params:=L.ps,assign:=L.assign,body:=L.body,defers:=D}
def Rn:Nat:=4611686018427387904
structure HRel (P:Program) (B:Nat) (A0:Nat->Nat->Prop) (σ:List (Option Nat)) (h:H) (w:World):Prop where
 base:B<=w.heap.size
 len:σ.length=h.length
 cells:∀(i:Nat) cs st,h[i]?=some (.cells cs st)->st≠.dead->∃b vs ty,σ[i]?=some (some b)/\B<=b/\w.heap[b]?=some (.cells vs ty (0,0)) /\
  cs.length<=vs.size/\(∀c∈cs,c.one=true)/\∀(k:Nat) c v,cs[k]?=some c->vs[k]?=some v->Rel P (Alw P B A0 σ h) σ h w c v
 tok:∀(i:Nat) u ty,h[i]?=some (.tok u ty)->(σ[i]?=some none/\(u=0\/Rn<=u))\/∃b vs sz cap,σ[i]?=some (some b)/\B<=b /\
  w.heap[b]?=some (.cells vs ty (0,0))/\cr P ty=some sz/\vs.size=cap*sz/\u<=cap/\cap<=maxLen
 loop:∀(i:Nat) L st,h[i]?=some (.loop L st)->st≠.over->∃l fn tm D,σ[i]?=some (some l)/\B<=l/\w.heap[l]?=some (.loop (mr L fn tm D st)) /\
  tm.size=L.n/\∀t,Rel P (Alw P B A0 σ h) σ h w (L.s.get t) (tm.getD t undef)
 map:∀(i:Nat) es,h[i]?=some (.map es)->∃b mes clock,σ[i]?=some (some b)/\B<=b/\w.heap[b]?=some (.map mes clock)/\mes.size=es.length /\
  ∀(k:Nat) e m,es[k]?=some e->mes[k]?=some m->fH e.1=some m.key/\bf e.2=true/\Rel P (Alw P B A0 σ h) σ h w e.2 m.val
 uniq:∀(i j:Nat) b x y,h[i]?=some x->h[j]?=some y->σ[i]?=some (some b)->σ[j]?=some (some b)->x.gone=false->y.gone=false->i=j
 glob:∀g a,tT g=some a->IRel (λb o=>b<B/\A0 b o) w (.iptr a 0) (.pointer (some ⟨g,0,none⟩))
 tab:∀g n,wO g=some n->g<B/\∃vs ty fr,w.heap[g]?=some (.cells vs ty fr)/\vs.size=n
def lS(A:Nat->Nat->Prop) (w:World):Prop:=(∀g a,tT g=some a->IRel A w (.iptr a 0) (.pointer (some ⟨g,0,none⟩)))/\∀g n,wO g=some n->∃vs ty fr,w.heap[g]?=some (.cells vs ty fr)/\vs.size=n
theorem HRel.gr{P:Program}{B:Nat}{A0:Nat->Nat->Prop}{σ:List (Option Nat)}{h:H}{w:World}(hr:HRel P B A0 σ h w):lS (Alw P B A0 σ h) w:=⟨λg a c=>(hr.glob g a c).mono λb o x d e=>⟨by unfold Alw;rw[if_pos d.1];exact d.2,e⟩,λg n c=>(hr.tab g n c).2⟩
theorem HRel.globBelow{P:Program}{B:Nat}{A0:Nat->Nat->Prop}{σ:List (Option Nat)}{h:H}{w w':World}(hr:HRel P B A0 σ h w) (hb:RowKit.Below B w w'):∀g a,tT g=some a->IRel (λb o=>b<B/\A0 b o) w' (.iptr a 0) (.pointer (some ⟨g,0,none⟩)):=λg a d=>(hr.glob g a d).mono λb o x c e=>⟨c,by rw[World.cell?_of_block (w:=w) (hb.block b c.1)];exact e⟩
theorem HRel.tabBelow{P:Program}{B:Nat}{A0:Nat->Nat->Prop}{σ:List (Option Nat)}{h:H}{w w':World}(hr:HRel P B A0 σ h w) (hb:RowKit.Below B w w'):∀g n,wO g=some n->g<B/\∃vs ty fr,w'.heap[g]?=some (.cells vs ty fr)/\vs.size=n:=λg n b=>by have⟨a,vs,ty,fr,c,d⟩:=hr.tab g n b;exact⟨a,vs,ty,fr,by rw[hb.block g a];exact c,d⟩
def SRel(P:Program) (A:Nat->Nat->Prop) (σ:List (Option Nat)) (h:H) (w:World) (n:Nat) (s:PT) (tm:Array Value):Prop:=
 tm.size=n/\∀t,Rel P A σ h w (s.get t) (tm.getD t undef)
end
theorem PT.get_leaf(n:Nat):PT.get .leaf n=AV.undef:=by cases n<;>rfl
theorem PT.get_setF:∀(f:Nat) (t:PT) (n:Nat) (v:AV) (m:Nat),n<f->(PT.setF f t n v).get m=if m=n then v else t.get m:=by
 intro f;induction f with
 |zero=>intro t n v m h;omega
 |succ f b=>
  intro t n v m h;cases n with
  |zero=>cases t<;>cases m<;>simp[PT.setF,PT.get]
  |succ n=>
   have c:n/2<f:=o_;cases t with
   |leaf=>
    cases m with
    |zero=>by_cases e:n%2=0<;>simp[PT.setF,PT.get,e]
    |succ m=>by_cases e:n%2=0<;>by_cases a:m%2=0<;>simp only[PT.setF,PT.get,e,a,if_true,if_false,b _ _ _ _ c]<;>(try split)<;>(try split)<;>first|rfl|omega
   |node l u r=>
    cases m with
    |zero=>by_cases e:n%2=0<;>simp[PT.setF,PT.get,e]
    |succ m=>by_cases e:n%2=0<;>by_cases a:m%2=0<;>simp only[PT.setF,PT.get,e,a,if_true,if_false,b _ _ _ _ c]<;>(try split)<;>(try split)<;>first|rfl|omega
theorem PT.get_set(t:PT) (n m:Nat) (v:AV):(t.set n v).get m=if m=n then v else t.get m:=PT.get_setF _ _ _ _ _ o_
end Go.V
