/- A part of the proof. -/
import Derived.Test.YtclakfnjdnibeaaGreatDoorSb
import Derived.Shelf.Strconv.Itoa3
import Derived.Shelf.LaysM
set_option maxHeartbeats 4000000
set_option maxRecDepth 16000
namespace Go.VZ
open Go Go.V Go.Proofs Tryz TL
def G7(P:Program) (a b:TypeId):AV->Option AV
 |.isl es _=>vK P a b es
 |v=>zE P a b v
@[go_sem] theorem TU (P:Program) (a b:TypeId) (k:IntKind) (x:Int):G7 P a b (.int k x)=zE P a b (.int k x):=(rfl)
@[go_sem] theorem Tc {C:Cfg}{cf:FuncId}{ops:Array Oper}{d:Tmp}{ty:TypeId}{p:String}{af:Array Edge}{l:List Oper}{s:PT}{h:H}{K:PT->H->Prop}(a b:TypeId) (x:Operand) :
  OW C cf ops (⟨some d,.convert a b x,ty,p,af,none⟩::l) s h K↔bO (bi1 (ev s x) (G7 C.P a b)) λv=>OW C cf ops l (s.set d v) h K:=OWn (by simp only[opN,bi1,G7];cases ev s x<;>first|rfl|(rename_i c;cases c<;>rfl)) rfl rfl
def Inc(l:Lb):Prop:=∀(i j:Nat) (hi:i<j) (hj:j<l.length),(l[i]' o_).1.cmp l[j].1<0
theorem Hj{a b:Int}(h:thn a b=0):a=0/\b=0:=thn_zero.1 h
theorem vi:∀ {l:Lb}{p:Option T},oy p l=0->(∀b∈l,sT b=0)/\(∀q,p=some q->∀hb:0<l.length,q.cmp l[0].1<0)/\∀(i:Nat) (hi:i+1<l.length),(l[i]' o_).1.cmp l[i+1].1<0
 |[],_,_=>⟨s_,s_,s_⟩
 |b::l,p,h=>by
  rw[oy]at h;have⟨h1,h2⟩:=Hj h;by_cases a:later p b.1=true
  ·rw[if_pos a]at h2;cases h2
  rw[if_neg a]at h2;have⟨e,f,g⟩:=vi h2;refine⟨λc d=>?_,λq j _=>?_,λi hi=>?_⟩
  ·rcases ak.1 d with rfl|d
   ·exact h1
   exact e c d
  ·subst j;simp only[later,decide_eq_true_eq]at a;simpa using a
  cases i with
  |zero=>exact f b.1 rfl (by simpa using hi)
  |succ i=>exact g i (by simpa using hi)
theorem Rs{l:Lb}(h:kJ l=0):Inc l:=by
 unfold kJ at h;split at h
 ·cases h
 have⟨_,_,a⟩:=vi h;intro i j c b;induction j with
 |zero=>omega
 |succ j d=>
  by_cases e:i=j
  ·subst e;exact a i b
  exact cmp_trans (d o_ o_) (a j b)
theorem cw{h:H}{l l':LA}(hd:mz l=some l') (hs:l.all short=true) (hl:l.length<=1000):gE h dH (.tuple l)=some (.tuple l'):=by
 have e:=(iu (h:=h) hd hs 999999 o_).1;have:gE h dH (.tuple l)=(match gW h 999999 l with
  |some l=>some (.tuple l)
  |none=>none):=rfl
 rw[this,e]
def Row2(h:H) (v:AV) (l:Lq):Prop:=(l=[]/\v=.isl [] .full)\/(v=.msl 2 0 4 l.length none/\h[2]?=some (.cells (gk l) .live))
theorem Row2.row{h:H}{v:AV}{l:Lq}(r:Row2 h v l):Row h v l:=r.elim .inl λe=>.inr ⟨2,e⟩
def zT:T:=.mk 0 ⟨#[]⟩ 0 []
theorem cT{t:T}(h:bc t=0):dG t=0/\t.size<=400/\t.depth<=40:=by
 unfold bc at h;have⟨b,a⟩:=thn_zero.1 h;split at a
 ·cases a
 exact⟨b,o_,o_⟩
theorem DU:∀(l:Lb) (t:T),eK l t=t\/∃b∈l,eK l t=b.2
 |[],_=>.inl rfl
 |b::l,t=>by
  rw[eK];split
  ·exact .inr ⟨b,s_,rfl⟩
  rcases DU l t with h|⟨c,hc,h⟩
  ·exact .inl h
  exact .inr ⟨c,by simp[hc],h⟩
theorem qA(l:Lb) (hl:∀b∈l,b.2.size<=400) (t:T):(cE l t).size<=400*t.size:=by
 induction t using T.ind with
 |_ t e=>
  have i:=size_kids t;rw[fk];split
  ·rcases DU l t with h|⟨b,f,h⟩
   ·rw[h];omega
   rw[h];have:=hl b f;omega
  rw[size_kids];show sizes (t.kids.map (cE l))+1<=_;have:∀m:Lq,(∀k∈m,(cE l k).size<=400*k.size)->sizes (m.map (cE l))<=400*sizes m:=by
   intro m;induction m with
   |nil=>intro _;simp[sizes]
   |cons a m c=>
    intro d;have j:=d a s_;have n:=c λk g=>d k (by simp[g])
    rw[aS,sizes,sizes];omega
  have:=this t.kids e;omega
def fB(l:Lb) (t:T):T × Int:=if kJ l≠0 then(zT,kJ l)else if bc t≠0 then(zT,bc t)else if bc (cE l t)≠0 then(zT,bc (cE l t))else(cE l t,0)
theorem rg{l:Lb}(h:kJ l=0):Inc l/\l.length<=200/\∀b∈l,b.1.size<=400/\b.2.size<=400:=by
 refine⟨Rs h,?_,λb d=>?_⟩
 ·unfold kJ at h;split at h
  ·cases h
  omega
 unfold kJ at h;split at h
 ·cases h
 have c:=(vi h).1 b d;unfold sT at c;have⟨e,a⟩:=thn_zero.1 c;split at a
 ·cases a
 have⟨f,_⟩:=thn_zero.1 a;exact⟨(cT e).2.1,(cT f).2.1⟩
def gX(r:T × Int):AV:=.tuple [enc r.1,.int .i64 r.2]
theorem qZ(h:H) (t:T) (e:Int):gE h dH (gX (t,e))=some (gX (t,e)):=cw (by rw[bJ];rfl) (by simp[aw,mP]) s_
theorem vk(h:H) (e:Int):gE h dH (.tuple [.agg [.int .i64 0,.str ⟨#[]⟩,.int .i64 0,.isl [] .full],.int .i64 e])=some (gX (zT,e)):=cw rfl rfl s_
@[go_sem] theorem Wp {C:Cfg}{cf:FuncId}{ops:Array Oper}{d:Tmp}{ty:TypeId}{p:String}{af:Array Edge}{l:List Oper}{s:PT}{h:H}{K:PT->H->Prop}(t:TypeId) (parts:List (Nat × Operand)) :
  OW C cf ops (⟨some d,.build t parts.toArray,ty,p,af,none⟩::l) s h K↔bO (bi1 (fU s parts) (fZ C.P t)) λv=>OW C cf ops l (s.set d v) h K:=OWn (by simp only[opN,bi1];cases fU s parts<;>rfl) rfl rfl
theorem za:fZ C.P 39 []=some (.agg [.int .i64 0,.str ⟨#[]⟩,.int .i64 0,.isl [] .full]):=k_
theorem J9(a b c d:AV) (y:VObj) (l:List VObj) (a' b' c' d':AV):cr C.P (y::.cells [a,b,c,d] .live::l) 39 (.ptr 1 0) (.agg [a',b',c',d'])=some (y::.cells [a',b',c',d'] .live::l):=by simp[cr,s25]
theorem Tt(t:T) (a b c d:AV) (y:VObj) (l:List VObj):cr C.P (y::.cells [a,b,c,d] .live::l) 39 (.ptr 1 0) (enc t)=some (y::.cells (enc t).cells .live::l):=by simp[cr,s25,bB];rw[bJ];rfl
theorem QJ(t:T) (x y:VObj):aX C.P [x,y,.cells (enc t).cells .live] 39 (.ptr 2 0)=some (enc t):=RT t [x,y]
theorem fK(l:Lq):fW C.P 37 (aQ l)=some (.int .i64 l.length):=by simp[aQ,dq]
theorem fL(l:Lq) (k:Nat) (hk:k<l.length):bP C.P 37 (aQ l) (.int .i64 k)=some (.iptr (enc l[k]) 0):=lE l k hk .unk
theorem oW{cs:LA}:∀(h:H) (i:Nat),h[i]?=some (.cells cs .live)->(bi h)[i]?=some (.cells cs .frozen)
 |[],i,e=>by cases e
 |o::r,0,e=>by
  have:o=.cells cs .live:=by simpa using e
  subst this;rfl
 |o::r,i+1,e=>by
  have a:r[i]?=some (.cells cs .live):=by simpa using e
  have:=oW r i a;cases o with
  |cells c b=>cases b<;>simpa[bi]using this
  |_=>simpa[bi]using this
theorem Jk{C:Cfg}{cf:FuncId}{R:Ex->PT->H->Prop}{k:List It}{s s':PT}{h h':H}(id:Nat) (ops:Array Oper) (hm:C.mix cf id=true) (hc:C.cut cf id=none) (hx:xM C (Go.V.Call C) cf ops s h=some (s',h')) (hk:N C cf R k s' h'):W C cf R (.region id ops true) k s h:=
 ⟨.normal,s',h',by rw[P4 id ops hm hc,hx],hk⟩
end Go.VZ
namespace Go.V
open Go
def MX(C:Cfg) (cf:FuncId) (ops:Array Oper) (base:Nat) (K:PT->H->List FP->Prop):Nat->List Oper->PT->H->List FP->Prop
 |_,[],s,h,F=>K s h F
 |i,o::l,s,h,F=>∃v h2 f,gG C (Call C) cf ops base i o s h=some (v,h2,f)/\MX C cf ops base K (i+1) l (iP s o.dst v) h2 (F++[f])
theorem QU{C:Cfg}{cf:FuncId}{ops:Array Oper}{base:Nat}{K:PT->H->List FP->Prop}{s0:PT}{h0:H}:∀(l:List Oper) (i:Nat) (s:PT) (h:H) (F:List FP),i+l.length=ops.size->ops.toList.drop i=l ->
  kR C (Call C) cf ops base i s0 h0=some (s,h,F)->MX C cf ops base K i l s h F->∃s' h' F',kR C (Call C) cf ops base ops.size s0 h0=some (s',h',F')/\K s' h' F'
 |[],i,s,h,F,hi,_,hs,hm=>⟨s,h,F,by rw[<-hi];exact hs,hm⟩
 |o::l,i,s,h,F,hi,hd,hs,⟨v,h2,f,e,hm⟩=>by
  have hlt:i<ops.size:=by simp only[aF]at hi;omega
  have a:ops[i]?=some o:=by have:=congrArg (λl=>l[0]?) hd;simpa using this
  refine QU l (i+1) _ _ _ (by simp only[aF]at hi;omega) (by rw[<-List.tail_drop,hd];rfl) ?_ hm;simp only[kR,hs,a,e]
def nw:AV->List Nat
 |.ptr id _=>[id]
 |_=>[]
section
variable {C:Cfg}{cf:FuncId}{ops:Array Oper}{base:Nat}{K:PT->H->List FP->Prop}{i:Nat}{l:List Oper}{s:PT}{h:H}{F:List FP}
theorem Ix{o:Oper}(ha:dL o=false) (hl:io o=false):kl C s h o=some ([],false):=by
 unfold kl;rw[if_neg (by rw[ha];simp)];unfold io at hl;split
 ·rename_i e;rw[e]at hl;cases hl
 rfl
theorem Mt{o:Oper}(v:AV) (hg:o.guard=none) (ha:dL o=false) (hl:io o=false) (hp:dX h[base+i]?=true) (hv:opN C.P s o=some v) (hm:v.mv h.length (base+i)=v)
  (hk:MX C cf ops base K (i+1) l (iP s o.dst v) h (F++[([],[])])):MX C cf ops base K i (o::l) s h F:=by
 refine⟨v,h,([],[]),?_,hk⟩;unfold gG;rw[if_pos (by simp[Region.wanted,hg]),Ix ha hl,ui ha hl,hv];dsimp only;rw[if_pos ⟨o_,rfl,hp⟩,hm];rfl
theorem bd{d:Tmp}{op:Op}{ty:TypeId}{p:String}{af:Array Edge}(v:AV) (ha:dL ⟨some d,op,ty,p,af,none⟩=false) (hl:io ⟨some d,op,ty,p,af,none⟩=false) (hp:dX h[base+i]?=true) (hv:opN C.P s ⟨some d,op,ty,p,af,none⟩=some v) (hm:v.mv h.length (base+i)=v)
  (hk:MX C cf ops base K (i+1) l (s.set d v) h (F++[([],[])])):MX C cf ops base K i (⟨some d,op,ty,p,af,none⟩::l) s h F:=Mt v rfl ha hl hp hv hm hk
theorem eP{d:Tmp}{t ty:TypeId}{x:Operand}{p:String}{af:Array Edge}(a v:AV) (hx:ev s x=some a) (hv:aX C.P h t a=some v) (hn:(nw a).contains (base+i)=false) (hp:dX h[base+i]?=true) (hm:v.mv h.length (base+i)=v)
  (hk:MX C cf ops base K (i+1) l (s.set d v) h (F++[(nw a,[])])):MX C cf ops base K i (⟨some d,.load t x,ty,p,af,none⟩::l) s h F:=by
 refine⟨v,h,(nw a,[]),?_,hk⟩;have b:kl C s h ⟨some d,.load t x,ty,p,af,none⟩=some (nw a,false):=by simp only[kl,dL,am,if_false,hx];cases a<;>rfl
 unfold gG;rw[if_pos (by simp[Region.wanted]),b,yX rfl];simp only[hx,hv];rw[if_pos ⟨o_,hn,hp⟩,hm];rfl
theorem vF(p:Nat) (h:H):fin p [] h h=h:=by apply cV;intro j;rw[nx];simp
theorem yq{p:Nat}{h:H}{y:VObj}(hp:p<h.length):fin p [] h (h++[y])=h.set p (y.mv h.length p):=by
 apply cV;intro j;rw[nx,eS];by_cases e:p=j
 ·subst e;simp[hp]
 simp[e,show ¬j=p from λh=>e h.symm]
theorem tB{p id:Nat}{h:H}{z:VObj}(hp:id≠p):fin p [id] h (h.set id z)=h.set id (z.mv h.length p):=by
 apply cV;intro j;rw[nx];by_cases e:id=j
 ·subst e;by_cases b:id<h.length
  ·simp[b,hp]
  simp[b]
 by_cases c:j=p
 ·subst c;have d:(h.set id z)[h.length]?=none:=s_;rw[d,aE e (a:=z.mv h.length j)];simp
 simp[e,c,show ¬j=id from λh=>e h.symm]
theorem wD{h:H}{p:Nat}(hp:dX h[p]?=true):p<h.length:=by
 cases e:h[p]? with
 |none=>rw[e]at hp;cases hp
 |some x=>exact(aB.1 e).1
theorem vW{d:Tmp}{ty:TypeId}{p:String}{af:Array Edge}{f:FuncId}{args:List Operand}{at_:Array TypeId}(al:LA) (v:AV) (hb:fA C.P f=true) (hmd:C.mode f=.strip) (hx:evs s args=some al) (hr:cZ h dH al=[])
  (hc:az C h (.func f []) (some al)=some (v,h)) (hp:dX h[base+i]?=true) (hm:v.mv h.length (base+i)=v)
  (hk:MX C cf ops base K (i+1) l (s.set d v) h (F++[([base+i],[base+i])])):MX C cf ops base K i (⟨some d,.call {callee:=.value (.func f),args:=args.toArray,argTypes:=at_},ty,p,af,none⟩::l) s h F:=by
 refine⟨v,h,([base+i],[base+i]),?_,hk⟩;have a:kl C s h ⟨some d,.call {callee:=.value (.func f),args:=args.toArray,argTypes:=at_},ty,p,af,none⟩=some ([],true):=by simp only[kl,dL,if_true,hx,ev,hb,hmd,cC,hr]
 have b:opV C (Call C) cf s h ⟨some d,.call {callee:=.value (.func f),args:=args.toArray,argTypes:=at_},ty,p,af,none⟩=some (v,h):=by rw[kg rfl,<-hc];simp only[opA,hx,ev,az]
 unfold gG;rw[if_pos (by simp[Region.wanted]),a,b];dsimp only;rw[if_pos ⟨o_,rfl,hp⟩,hm,if_pos rfl,if_pos rfl,vF]
theorem Ms{o:Oper}(v:AV) (y:VObj) (hg:o.guard=none) (hf:kl C s h o=some ([],true)) (ho:opV C (Call C) cf s h o=some (v,h++[y])) (hp:dX h[base+i]?=true)
  (hk:MX C cf ops base K (i+1) l (iP s o.dst (v.mv h.length (base+i))) (h.set (base+i) (y.mv h.length (base+i))) (F++[([base+i],[base+i])])):MX C cf ops base K i (o::l) s h F:=by
 refine⟨v.mv h.length (base+i),h.set (base+i) (y.mv h.length (base+i)),([base+i],[base+i]),?_,hk⟩;unfold gG;rw[if_pos (by simp[Region.wanted,hg]),hf,ho];dsimp only;rw[if_pos ⟨s_,rfl,hp⟩,if_pos rfl,if_pos rfl,yq (wD hp)]
theorem qQ{d:Tmp}{t ty:TypeId}{p:String}{af:Array Edge}(z:AV) (hz:gy C.P t=some z) (hp:dX h[base+i]?=true)
  (hk:MX C cf ops base K (i+1) l (s.set d (.ptr (base+i) 0)) (h.set (base+i) ((VObj.cells z.cells .live).mv h.length (base+i))) (F++[([base+i],[base+i])])):MX C cf ops base K i (⟨some d,.alloc t,ty,p,af,none⟩::l) s h F:=by
 refine Ms (.ptr h.length 0) (.cells z.cells .live) rfl rfl ?_ hp ?_
 ·rw[kg rfl];simp only[opA,hz]
 have:(AV.ptr h.length 0).mv h.length (base+i)=.ptr (base+i) 0:=by simp[AV.mv]
 rw[this];exact hk
theorem nE{t ty:TypeId}{a x:Operand}{p:String}{af:Array Edge}(id off:Nat) (v:AV) (z:VObj) (hx:ev s a=some (.ptr id off)) (hv:ev s x=some v) (hs:cr C.P h t (.ptr id off) v=some (h.set id z)) (hn:id≠base+i) (hp:dX h[base+i]?=true)
  (hk:MX C cf ops base K (i+1) l (s) (h.set id (z.mv h.length (base+i))) (F++[([base+i,id],[base+i,id])])):MX C cf ops base K i (⟨none,.store t a x,ty,p,af,none⟩::l) s h F:=by
 refine⟨AV.undef,h.set id (z.mv h.length (base+i)),([base+i,id],[base+i,id]),?_,hk⟩;have b:kl C s h ⟨none,.store t a x,ty,p,af,none⟩=some ([id],true):=by simp only[kl,dL,if_true,hx]
 have c:opV C (Call C) cf s h ⟨none,.store t a x,ty,p,af,none⟩=some (AV.undef,h.set id z):=by rw[kg rfl];simp only[opA,hx,hv,hs]
 unfold gG;rw[if_pos (by simp[Region.wanted]),b,c];dsimp only;rw[if_pos ⟨s_,by simpa using λe=>hn e.symm,hp⟩,if_pos rfl,if_pos rfl,tB hn];rfl
end
end Go.V
namespace Go.VZ
open Go Go.V Go.Proofs Tryz TL
theorem xn{C:Cfg}{cf:FuncId}{R:Ex->PT->H->Prop}{k:List It}{s:PT}{h:H}(id:Nat) (ops:Array Oper) (hm:C.mix cf id=true) (ht:rK ops=true)
  (hx:MX C cf ops h.length (λs' h' F=>tR ops F=true/\N C cf R k s' h') 0 ops.toList s (h++List.replicate ops.size .void) []) (hc:C.cut cf id=none:=by rfl):W C cf R (.region id ops true) k s h:=by
 have⟨s',h',F,e,a,b⟩:=QU ops.toList 0 s _ [] s_ rfl rfl hx;exact Jk id ops hm hc (by simp only[xM,ht,if_true,e,a]) b
end Go.VZ
namespace Go.VZ
open Go Go.V Go.Proofs Tryz TL
theorem fV(i k:Nat) (t:T):(enc t).mv i k=enc t:=by cases t;simp only[enc,AV.mv,AV.mvs]
theorem sr(i k:Nat) (t:T):VObj.mv i k (.cells (enc t).cells .live)=.cells (enc t).cells .live:=by rw[bB];rfl
structure Pl (h H0:H) (n:Nat):Prop where
 len:H0.length=h.length+n
 old:∀j,j<h.length->H0[j]?=h[j]?
 void:∀i,i<n->H0[h.length+i]?=some .void
theorem Pl.mk'(h:H) (n:Nat):Pl h (h++List.replicate n .void) n:=⟨s_,λj a=>aM a,λi b=>by rw[aY o_];simp[b]⟩
theorem Pl.isV{h H0:H}{n:Nat}(p:Pl h H0 n){i:Nat}(hi:i<n):dX H0[h.length+i]?=true:=by rw[p.void i hi];rfl
theorem Pl.get{h H0:H}{n:Nat}(p:Pl h H0 n){j:Nat}{o:VObj}(hj:h[j]?=some o):H0[j]?=some o:=by rw[p.old j (aB.1 hj).1];exact hj
theorem kF{H0:H}{a b:Nat}{y:VObj}(hb:dX H0[b]?=true) (h:a≠b):dX (H0.set a y)[b]?=true:=by rw[aE h];exact hb
theorem yg{h:H}{i:Nat}(t:T) (hi:h[i]?=some (.cells (enc t).cells .live)):aX C.P h 39 (.ptr i 0)=some (enc t):=by rw[bB]at hi;simp[aX,hi,ae,a25,s25];rw[bJ]
theorem kc{i o k:Nat}(h:i≠k):(nw (.ptr i o)).contains k=false:=by simpa[nw]using λe=>h e.symm
end Go.VZ
namespace Go.V
open Go
section
variable {C:Cfg}{cf:FuncId}{ops:Array Oper}{base:Nat}{K:PT->H->List FP->Prop}{i:Nat}{l:List Oper}{s:PT}{h:H}{F:List FP}
theorem Mu{o:Oper}(T:List Nat) (v:AV) (h' g:H) (hg:o.guard=none) (hf:kl C s h o=some (T,true)) (ho:opV C (Call C) cf s h o=some (v,h')) (hl:h'.length<=h.length+1) (hT:T.contains (base+i)=false) (hp:dX h[base+i]?=true)
  (hfin:fin (base+i) T h h'=g) (hk:MX C cf ops base K (i+1) l (iP s o.dst (v.mv h.length (base+i))) g (F++[((base+i)::T,(base+i)::T)])):MX C cf ops base K i (o::l) s h F:=by
 refine⟨v.mv h.length (base+i),g,((base+i)::T,(base+i)::T),?_,hk⟩;unfold gG;rw[if_pos (by simp[Region.wanted,hg]),hf,ho];dsimp only;rw[if_pos ⟨hl,hT,hp⟩,if_pos rfl,if_pos rfl,hfin]
theorem Iy{d:Tmp}{ty:TypeId}{p:String}{af:Array Edge}{f:FuncId}{args:List Operand}{at_:Array TypeId}{al:LA}(hb:fA C.P f=true) (hmd:C.mode f=.strip\/C.mode f=.ownM) (hx:evs s args=some al) (hr:cZ h dH al=[]) :
  kl C s h ⟨some d,.call {callee:=.value (.func f),args:=args.toArray,argTypes:=at_},ty,p,af,none⟩=some ([],true):=by
 rcases hmd with e|e<;>simp only[kl,dL,if_true,hx,ev,hb,e,cC,hr]
theorem Kf{d:Tmp}{ty:TypeId}{p:String}{af:Array Edge}{f:FuncId}{args:List Operand}{at_:Array TypeId}{al:LA}{v:AV}{h':H}(hx:evs s args=some al) (hc:az C h (.func f []) (some al)=some (v,h')) :
  opV C (Call C) cf s h ⟨some d,.call {callee:=.value (.func f),args:=args.toArray,argTypes:=at_},ty,p,af,none⟩=some (v,h'):=by
 rw[kg rfl,<-hc];simp only[opA,hx,ev,az]
theorem Mv{d:Tmp}{ty:TypeId}{p:String}{af:Array Edge}{f:FuncId}{args:List Operand}{at_:Array TypeId}(al:LA) (v:AV) (hb:fA C.P f=true) (hmd:C.mode f=.strip\/C.mode f=.ownM) (hx:evs s args=some al) (hr:cZ h dH al=[])
  (hc:az C h (.func f []) (some al)=some (v,h)) (hp:dX h[base+i]?=true)
  (hk:MX C cf ops base K (i+1) l (s.set d (v.mv h.length (base+i))) h (F++[([base+i],[base+i])])):MX C cf ops base K i (⟨some d,.call {callee:=.value (.func f),args:=args.toArray,argTypes:=at_},ty,p,af,none⟩::l) s h F:=
 Mu [] v h h rfl (Iy hb hmd hx hr) (Kf hx hc) o_ rfl hp (vF _ _) hk
theorem vX{d:Tmp}{t ty:TypeId}{len:Nat}{parts:List (Nat × Operand)}{p:String}{af:Array Edge}(ps:List (Nat × AV)) (v:AV) (hx:fU s parts=some ps) (hr:cZ h dH (ps.map (·.2))=[])
  (hc:cQ C.P h t len ps=some (v,h)) (hp:dX h[base+i]?=true)
  (hk:MX C cf ops base K (i+1) l (s.set d (v.mv h.length (base+i))) h (F++[([base+i],[base+i])])):MX C cf ops base K i (⟨some d,.buildSlice t len parts.toArray,ty,p,af,none⟩::l) s h F:=by
 refine Mu [] v h h rfl ?_ ?_ o_ rfl hp (vF _ _) hk
 ·simp only[kl,dL,if_true,hx,hr]
 rw[kg rfl];simp only[opA,hx,hc]
theorem tL{d:Tmp}{ty t:TypeId}{a b:Operand}{p:String}{af:Array Edge}(va vb v:AV) (h' g:H) (hx:ev s a=some va) (hy:ev s b=some vb) (hc:cL C.P (C.wr cf d) h t va vb=some (v,h')) (hl:h'.length<=h.length+1)
  (hT:(dB va++lN va++dB vb).contains (base+i)=false) (hp:dX h[base+i]?=true) (hfin:fin (base+i) (dB va++lN va++dB vb) h h'=g)
  (hk:MX C cf ops base K (i+1) l (s.set d (v.mv h.length (base+i))) g (F++[((base+i)::(dB va++lN va++dB vb),(base+i)::(dB va++lN va++dB vb))])):MX C cf ops base K i (⟨some d,.call {callee:=.builtin .append,args:=#[a,b],argTypes:=#[t,t]},ty,p,af,none⟩::l) s h F:=by
 refine Mu _ v h' g rfl ?_ ?_ hl hT hp hfin hk
 ·simp only[kl,dL,if_true,hx,hy]
 rw[kg rfl];simp only[opA,hx,hy,wrO,hc,if_true]
end
end Go.V
namespace Go.VZ
open Go Go.V Go.Proofs Tryz TL
theorem Ey{s:PT}{x:Operand}{v:AV}(h:ev s x=some v) (hn:bV v=true):fU s [(0,x)]=some [(0,v)]:=by simp[fU,h,hn]
theorem ga{h g:H}{j:Nat}{o:VObj}(e:h[j]?=some o):(h++g)[j]?=some o:=by rw[aM (aB.1 e).1];exact e
theorem cK{e:TypeId}{h:H}{v:AV}{xs:LA}(o:OwnR e h v xs){i:Nat}{cs:LA}{st:OSt}(hi:h[i]?=some (.cells cs st)):bj v≠some i:=by
 intro b;rcases o with rfl|⟨a,rfl,c⟩
 ·cases b
 simp only[bj,aA]at b;subst b;rw[c]at hi;cases hi
theorem s4:cS C.P 4=some 1:=k_
theorem a4:eW C.P 4=some false:=k_
attribute [go_sem] s4 a4
theorem b3:gl C.P 3=some 8:=k_
theorem b4:gl C.P 4=some 1:=k_
theorem z3:fe C.P 3=true:=k_
def Ok3(i3:Nat) (pr:List (Nat × VObj)) (h:H) (l:Lq):Prop:=∃v,h[i3]?=some (.cells [v] .live)/\Row h v l/\∀p∈pr,h[p.1]?=some p.2/\p.1≠i3/\bj v≠some p.1
theorem Q0{h:H}{v:AV}{l:Lq}(r:Row h v l){i:Nat}(e:bj v=some i):i<h.length:=by
 rcases r with⟨rfl,rfl⟩|⟨id,rfl,a⟩
 ·cases e
 simp only[bj,aA]at e;subst e;exact(aB.1 a).1
theorem Q1{h g:H}{v:AV}{l:Lq}(r:Row h v l):Row (h++g) v l:=by
 rcases r with⟨rfl,rfl⟩|⟨id,rfl,a⟩
 ·exact .inl ⟨rfl,rfl⟩
 exact .inr ⟨id,rfl,ga a⟩
theorem Ok3.push{i3:Nat}{pr:List (Nat × VObj)}{h:H}{l:Lq}(k:Ok3 i3 pr h l) (o:VObj):Ok3 i3 ((h.length,o)::pr) (h++[o]) l:=by
 have⟨v,b,c,d⟩:=k;refine⟨v,ga b,Q1 c,λp a=>?_⟩;rcases ak.1 a with rfl|a
 ·exact⟨s_,λe=>by have:=(aB.1 b).1;simp only at e;omega,λe=>by have:=Q0 c e;simp only at this;omega⟩
 exact⟨ga (d p a).1,(d p a).2⟩
theorem Ok3.at_{i3:Nat}{pr:List (Nat × VObj)}{h:H}{l:Lq}(k:Ok3 i3 pr h l){j:Nat}{o:VObj}(hp:(j,o)∈pr):h[j]?=some o:=by have⟨v,b,c,a⟩:=k;exact(a _ hp).1
end Go.VZ
namespace TL
mutual
def cU(f:T->Lq):T->Lq
 |.mk k n s l=>f (.mk k n s l)++ii f l
def ii(f:T->Lq):Lq->Lq
 |[]=>[]
 |t::l=>cU f t++ii f l
end
theorem xp(f:T->Lq) (t:T):cU f t=f t++ii f t.kids:=by cases t;rfl
theorem qT(f:T->Lq):∀l,ii f l=l.flatMap (cU f)
 |[]=>rfl
 |t::l=>by rw[ii,qT f l];rfl
theorem zn(f:T->Lq) (l m:Lq):ii f (l++m)=ii f l++ii f m:=by simp[qT]
mutual
theorem kB(f:T->Lq) (hf:∀t,(f t).length<=1):∀t:T,(cU f t).length<=t.size
 |.mk k n s l=>by have:=qU f hf l;have:=hf (.mk k n s l);rw[cU,aK,T.size];omega
theorem qU(f:T->Lq) (hf:∀t,(f t).length<=1):∀l:Lq,(ii f l).length<=sizes l
 |[]=>by simp[ii]
 |t::l=>by have:=kB f hf t;have:=qU f hf l;rw[ii,aK,sizes];omega
end
end TL
namespace Go.VZ
open Go Go.V Go.Proofs Tryz TL
end Go.VZ
namespace Go.VZ
open Go Go.V Go.Proofs Tryz TL
end Go.VZ
namespace TL
def ddj(l:Lq):Nat->Lq
 |0=>[]
 |j+1=>if j≠0/\(l.getD j default).cmp (l.getD (j-1) default)=0 then ddj l j else ddj l j++[l.getD j default]
def dd(l:Lq):Lq:=ddj l l.length
end TL
namespace Go.V
open Go
section
variable {C:Cfg}{cf:FuncId}{ops:Array Oper}{K:PT->H->Prop}{l:List Oper}{s:PT}{h:H}{d:Option Tmp}{ty:TypeId}{p:String}{af:Array Edge}
@[go_sem] theorem XB {P:Program}(t:TypeId) (x lo:Operand) (g:Option (Nat × Bool)):opN P s ⟨d,.slice t x (some lo) none none,ty,p,af,g⟩=bi2 (ev s x) (ev s lo) λa b=>iO P t a (some b) none none:=by simp only[opN,bi2,bf,Option.map_none];cases ev s x<;>cases ev s lo<;>rfl
@[go_sem] theorem XC {P:Program}(t:TypeId) (x hi:Operand) (g:Option (Nat × Bool)):opN P s ⟨d,.slice t x none (some hi) none,ty,p,af,g⟩=bi2 (ev s x) (ev s hi) λa b=>iO P t a none (some b) none:=by simp only[opN,bi2,bf,Option.map_none];cases ev s x<;>cases ev s hi<;>rfl
end
end Go.V
namespace Go.VZ
open Go Go.V Go.Proofs Tryz TL
def Zs(r:LA):Prop:=∀x∈r,x=.int .i64 0\/x=.str ⟨#[]⟩\/x=.isl [] .full\/x=.isl [] .unk
def RowZ(N:Nat) (h:H) (v:AV) (l:Lq):Prop:=(l=[]/\v=.isl [] .full)\/∃id rest,v=.msl id 0 4 l.length none/\h[id]?=some (.cells (gk l++rest) .live)/\Zs rest/\4*l.length+rest.length<=N
theorem Row.z{h:H}{v:AV}{l:Lq}(r:Row h v l):RowZ (4*l.length) h v l:=by
 rcases r with e|⟨id,rfl,a⟩
 ·exact .inl e
 exact .inr ⟨id,[],rfl,by simpa using a,λx b=>by simp at b,s_⟩
end Go.VZ
namespace Go.VZ
open Go Go.V Go.Proofs Tryz TL
theorem LS{l:Lq}{j:Nat}(h:j<l.length):l.getD j default=l[j]:=by rw[bK,aC h];rfl
end Go.VZ
namespace TL
end TL
namespace Go.VZ
open Go Go.V Go.Proofs Tryz TL
theorem RowZ.len{N:Nat}{h:H}{v:AV}{l:Lq}(r:RowZ N h v l):fW C.P 37 v=some (.int .i64 l.length):=by rcases r with⟨rfl,rfl⟩|⟨id,a,rfl,_⟩<;>simp[fW,u23]
end Go.VZ
namespace TL
end TL
namespace Go.VZ
open Go Go.V Go.Proofs Tryz TL
end Go.VZ
namespace TL
def bS(t:T):Lq:=[t]
theorem jI(t:T):(bS t).length<=1:=aT _
theorem qS{f:T->Lq}(hf:∀t,∀x∈f t,x=t){n:Nat}:∀t:T,t.size<n->∀x∈cU f t,x.size<n:=by
 refine T.ind λt c d x a=>?_
 rw[xp]at a;rcases aZ.1 a with a|a
 ·rw[hf t x a];exact d
 rw[qT,bh]at a;have⟨k,b,a⟩:=a;exact c k b (by have:=kid_size b;omega) x a
theorem qa(t:T):∀x∈bS t,x=t:=λx a=>by simpa[bS]using a
end TL
namespace Go.VZ
open Go Go.V Go.Proofs Tryz TL
end Go.VZ
namespace Go.VZ
open Go Go.V Go.Proofs Tryz TL
theorem Nx{h:H}{i:Nat}{b:T × T}(hi:h[i]?=some (.cells (bN b).cells .live)):aX C.P h 39 (.ptr i 0)=some (enc b.1):=by simp only[bN,aa]at hi;simp[aX,hi,ae,a25,s25];rw[bJ]
theorem Nw{h:H}{i:Nat}{b:T × T}(hi:h[i]?=some (.cells (bN b).cells .live)):aX C.P h 39 (.ptr i 4)=some (enc b.2):=by simp only[bN,aa]at hi;simp[aX,hi,ae,a25,s25];rw[bJ]
theorem ldB{h:H}{i:Nat}{b:T × T}(hi:h[i]?=some (.cells (bN b).cells .live)):aX C.P h 84 (.ptr i 0)=some (bN b):=by simp only[bN,aa]at hi;simp[aX,hi,ae,a86,s86,bN]
end Go.VZ
namespace TL
def nD(t:T):Lq->Lq
 |[]=>[t]
 |x::r=>if t.cmp x<0 then t::x::r else if t.cmp x=0 then x::r else x::nD t r
def mA(l:Lq):Lq:=l.foldl (λs t=>nD t s) []
theorem mem_addS{t x:T}:∀ {s:Lq},x∈nD t s↔x=t\/x∈s
 |[]=>by simp[nD]
 |y::r=>by
  rw[nD];split
  ·simp
  split
  ·rename_i h1 h2;have e:=cmp_zero.1 h2;subst e;simp
  rw[ak,mem_addS (s:=r),ak];constructor
  ·rintro(h|h|h)
   ·exact .inr (.inl h)
   ·exact .inl h
   exact .inr (.inr h)
  rintro(h|h|h)
  ·exact .inr (.inl h)
  ·exact .inl h
  exact .inr (.inr h)
theorem EI(t:T):∀s:Lq,(nD t s).length<=s.length+1
 |[]=>by simp[nD]
 |x::r=>by
  rw[nD];split
  ·simp
  split
  ·simp
  have:=EI t r;simp;omega
theorem mem_setS{x:T}{l:Lq}:x∈mA l↔x∈l:=by
 have b:∀(l s:Lq),x∈l.foldl (λs t=>nD t s) s↔x∈s\/x∈l:=by
  intro l;induction l with
  |nil=>intro s;simp
  |cons a l c=>
   intro s;rw[fT,c,mem_addS,ak];constructor
   ·rintro((h|h)|h)
    ·exact .inr (.inl h)
    ·exact .inl h
    exact .inr (.inr h)
   rintro(h|h|h)
   ·exact .inl (.inr h)
   ·exact .inl (.inl h)
   exact .inr h
 simpa[mA]using b l []
theorem mq(l:Lq):(mA l).length<=l.length:=by
 have b:∀(l s:Lq),(l.foldl (λs t=>nD t s) s).length<=s.length+l.length:=by
  intro l;induction l with
  |nil=>intro s;simp
  |cons a l c=>intro s;have:=c (nD a s);have:=EI a s;rw[fT,aF];omega
 simpa[mA]using b l []
theorem Hu{l:Lq}{k:Nat}(hk:k<l.length):mA (l.take (k+1))=nD l[k] (mA (l.take k)):=by rw[aI hk,mA,List.foldl_append];rfl
def jU(t:T) (s:Lq):Nat->Lq × Bool
 |0=>([],false)
 |j+1=>
  let x:=s.getD j default
  let (o,d):=jU t s j
  if d=false/\t.cmp x<=0 then((if t.cmp x<0 then o++[t]else o)++[x],true)else(o++[x],d)
def GJ(t:T) (s:Lq):Lq:=if(jU t s s.length).2=true then(jU t s s.length).1 else(jU t s s.length).1++[t]
theorem HP(t:T) (s:Lq):∀k,k<=s.length->((jU t s k).2=false->jU t s k=(s.take k,false)/\nD t s=s.take k++nD t (s.drop k))/\((jU t s k).2=true->nD t s=(jU t s k).1++s.drop k)
 |0,_=>by simp[jU]
 |k+1,hk=>by
  have⟨h1,h2⟩:=HP t s k o_;have a:k<s.length:=o_;have f:s.getD k default=s[k]:=by rw[bK,aC a];rfl
  have g:jU t s (k+1)=if(jU t s k).2=false/\t.cmp s[k]<=0 then((if t.cmp s[k]<0 then(jU t s k).1++[t]else(jU t s k).1)++[s[k]],true)else((jU t s k).1++[s[k]],(jU t s k).2):=by rw[jU,f]
  rw[g];cases e:(jU t s k).2 with
  |true=>rw[if_neg s_];refine⟨λx=>by simp at x,λ_=>?_⟩;rw[h2 e,aH a];simp
  |false=>
   have⟨h,c⟩:=h1 e;rw[h];by_cases d:t.cmp s[k]<=0
   ·rw[if_pos ⟨rfl,d⟩];refine⟨λx=>by simp at x,λ_=>?_⟩;rw[c,aH a,nD];by_cases b:t.cmp s[k]<0
    ·rw[if_pos b,if_pos b];simp
    rw[if_neg b,if_neg b,if_pos o_];simp
   rw[if_neg (λx=>d x.2)];refine⟨λ_=>⟨by rw[aI a],?_⟩,λx=>by simp at x⟩;rw[c,aH a,nD,if_neg o_,if_neg o_,aI a,dD,List.singleton_append]
theorem Pj(t:T) (s:Lq):GJ t s=nD t s:=by
 have⟨a,b⟩:=HP t s s.length (aT _);unfold GJ;by_cases e:(jU t s s.length).2=true
 ·rw[if_pos e,b e];simp
 have c:(jU t s s.length).2=false:=by simpa using e
 have⟨d,f⟩:=a c;rw[if_neg e,d,f];simp[nD]
end TL
namespace Go.VZ
open Go Go.V Go.Proofs Tryz TL
def Vz(t:T) (m:Nat) (st:PT) (h:H):Prop:=∃k:Nat,m=t.kids.length-k/\k<=t.kids.length/\st.get 1=.ptr 0 0/\st.get 4=.int .i64 k/\h[0]?=some (.cells (enc t).cells .live)/\OwnR 39 h (st.get 3) ((bS t++ii bS (t.kids.take k)).map enc)
theorem Gq{h:H}{i:Nat}{t:T}(hi:h[i]?=some (.cells (enc t).cells .live)):aX C.P h 37 (.ptr i 3)=some (aQ t.kids):=by rw[bB]at hi;simp[aX,hi,ae,a23,s23,aQ]
theorem Se(t:T) (hs:t.size<4000000) (hc:∀k∈t.kids,ay C 63 [enc k]=some (aQ (cU bS k))):ay C 63 [enc t]=some (aQ (cU bS t)):=by
 refine bD func63 rfl λR B=>?_
 have D:=size_kids t;have q:=len_sizes t.kids;have c:=fK t.kids;obtain⟨r,b⟩:∃g:H,g=[.cells (enc t).cells .live,.tok 0 39]:=⟨_,rfl⟩
 have s:aX C.P r 39 (.ptr 0 0)=some (enc t):=yg t (by rw[b];rfl);simp[go_sem,nA];rw[<-bB,<-b];simp[go_sem,s,dm];refine bR (Vz t) t.kids.length ⟨0,rfl,aO _,g_,g_,rfl,.inl (by simp[go_sem,bS,ii])⟩ ?_;clear s b r;rintro m E h ⟨k,rfl,O,u,w,i,d⟩;have y:=Gq i;obtain⟨F,j⟩:∃v,v=E.get 3:=⟨_,rfl⟩
 rw[<-j]at d;by_cases a:k<t.kids.length
 ·have e:(k:Int)<t.kids.length:=o_;have l:=fL t.kids k a;have G:=wS k o_;have I:∀h,az C h (.func 63 []) (some [enc t.kids[k]])=some (aQ (cU bS t.kids[k]),h):=λh=>ah (dC _) (by simp[aw]) s_ (hc _ (aG a))
  have n:=qU bS jI (t.kids.take (k+1));have J:=take_sizes_le t.kids (k+1);have f:ii bS (t.kids.take (k+1))=ii bS (t.kids.take k)++cU bS t.kids[k]:=by rw[aI a,zn];simp[ii]
  rw[f,aK]at n;have⟨K,L,z,A,o,M⟩:=dz (ys:=cU bS t.kids[k]) (x:=.unk) d (by simp only[bS,aK,aF,aP];omega);rw[dD,<-f]at A;change cL C.P false h 37 F (aQ (cU bS t.kids[k]))=some (K,L)at z;have p:=o.get i (cK d i);simp[go_sem,u,w,<-j,y,c,e,l,iT,I,z,-Int.natCast_add,G];exact⟨t.kids.length-(k+1),o_,k+1,rfl,a,g_,g_,p,by simpa[go_sem]using A⟩
 have:k=t.kids.length:=o_;subst this;rw[ao]at d;have⟨x,N⟩:=d.isl;simp[go_sem,u,w,<-j,y,c];refine B ⟨.isl ((cU bS t).map enc) x,by rw[xp,<-N];simp[ag,cG,f63,go_sem],aL rfl rfl⟩
theorem GH(t:T):t.size<4000000->ay C 63 [enc t]=some (aQ (cU bS t)):=by
 induction t using T.ind with
 |_ t b=>exact λc=>Se t c (λk a=>b k a (by have:=kid_size a;omega))
theorem vQ(t:T) (hv:t.size<4000000) (h:H):az C h (.func 63 []) (some [enc t])=some (aQ (cU bS t),h):=ah (dC _) (by simp[aw]) s_ (GH t hv)
def V2(t:T) (s:Lq) (m:Nat) (st:PT) (h:H):Prop:=∃k:Nat,m=s.length-k/\k<=s.length/\st.get 0=aQ s/\st.get 3=.ptr 0 0/\st.get 6=.bool (jU t s k).2/\st.get 7=.int .i64 k/\h[0]?=some (.cells (enc t).cells .live)/\OwnR 39 h (st.get 5) ((jU t s k).1.map enc)
theorem EJ(t:T) (s:Lq):∀k,(jU t s k).1.length<=k+(if(jU t s k).2=true then 1 else 0)
 |0=>by simp[jU]
 |k+1=>by
  have:=EJ t s k;rw[jU];generalize jU t s k=r at this;have⟨o,d⟩:=r;dsimp only at this ⊢;split
  ·rename_i a;rw[a.1]at this;simp only[am,if_false]at this;split<;>simp<;>omega
  simp only[aK,aF,aP];omega
theorem Sg(s:Lq) (t:T) (hs:∀x∈s,x.size<4000000) (ht:t.size<4000000) (hl:s.length<4000000):ay C 79 [aQ s,enc t]=some (aQ (GJ t s)):=by
 refine bD func79 rfl λR V=>?_
 have g:=fK s;simp[go_sem,nA];rw[<-bB];refine bR (V2 t s) s.length ⟨0,rfl,aO _,g_,g_,by simp[go_sem,jU],g_,rfl,.inr ⟨2,by simp[go_sem,jU]⟩⟩ ?_;rintro m Z h ⟨k,rfl,hk,w,F,i,z,p,j⟩;have G:=yg t p;obtain⟨v5,q⟩:∃v,v=Z.get 5:=⟨_,rfl⟩
 rw[<-q]at j;have N:=EJ t s k;have n:(jU t s k).1.length<=k+1:=by split at N<;>omega
 by_cases b:k<s.length
 ·have c:(k:Int)<s.length:=o_;have l:=fL s k b;have K:=wS k o_;have L:=rG t s[k] ht (hs _ (aG b));have a:jU t s (k+1)=if(jU t s k).2=false/\t.cmp s[k]<=0 then((if t.cmp s[k]<0 then(jU t s k).1++[t]else(jU t s k).1)++[s[k]],true)else((jU t s k).1++[s[k]],(jU t s k).2):=by rw[jU,LS b]
  generalize jU t s k=r at a i j n;have⟨o,d⟩:=r;dsimp only at a i j n;have one:∀ {h:H}{v:AV}{o:Lq}(y:T),OwnR 39 h v (o.map enc)->h[0]?=some (.cells (enc t).cells .live)->o.length<10000000->∃I A,cL C.P false h 37 v (.isl [enc y] .full)=some (I,A)/\OwnR 39 A I ((o++[y]).map enc)/\A[0]?=some (.cells (enc t).cells .live):=λy j p hl=>by have⟨I,A,M,O,J,_⟩:=dz (ys:=[y]) (x:=.full) j (by simp;omega);exact⟨I,A,by simpa using M,O,J.get p (cK j p)⟩
  by_cases u:d=false/\t.cmp s[k]<=0
  ·rw[if_pos u]at a;obtain⟨rfl,u⟩:=u;by_cases f:t.cmp s[k]<0
   ·rw[if_pos f]at a;have⟨v1,h1,a1,o1,n1⟩:=one t j p o_;have⟨X,Y,B,D,E⟩:=one s[k] o1 n1 (by simp;omega);simp[go_sem,w,F,i,z,<-q,g,c,l,iT,L,G,u,f,dm,a1,B,-Int.natCast_add,K];exact⟨s.length-(k+1),o_,k+1,rfl,b,g_,g_,by simp[go_sem,a],g_,E,by simpa[go_sem,a]using D⟩
   rw[if_neg f]at a;have⟨X,Y,B,D,E⟩:=one s[k] j p o_;simp[go_sem,w,F,i,z,<-q,g,c,l,iT,L,G,u,f,dm,B,-Int.natCast_add,K];exact⟨s.length-(k+1),o_,k+1,rfl,b,g_,g_,by simp[go_sem,a],g_,E,by simpa[go_sem,a]using D⟩
  rw[if_neg u]at a;have⟨X,Y,B,D,E⟩:=one s[k] j p o_;cases d with
  |true=>simp[go_sem,w,F,i,z,<-q,g,c,l,iT,L,G,dm,B,-Int.natCast_add,K];exact⟨s.length-(k+1),o_,k+1,rfl,b,g_,g_,by simp[go_sem,a,i],g_,E,by simpa[go_sem,a]using D⟩
  |false=>
   have Q:¬t.cmp s[k]<=0:=λe=>u ⟨rfl,e⟩
   simp[go_sem,w,F,i,z,<-q,g,c,l,iT,L,G,Q,dm,B,-Int.natCast_add,K];exact⟨s.length-(k+1),o_,k+1,rfl,b,g_,g_,by simp[go_sem,a,i],g_,E,by simpa[go_sem,a]using D⟩
 have:k=s.length:=o_;subst this;by_cases a:(jU t s s.length).2=true
 ·have⟨x,S⟩:=j.isl;rw[a]at i;simp[go_sem,w,i,z,<-q,g];refine V ⟨.isl ((GJ t s).map enc) x,by rw[GJ,if_pos a,<-S];simp[ag,cG,f79,go_sem],aL rfl rfl⟩
 have U:(jU t s s.length).2=false:=by simpa using a
 rw[U]at i;have⟨I,A,M,O,J,_⟩:=dz (ys:=[t]) (x:=.full) j (by simp;omega);have⟨x,S⟩:=O.isl;simp only[aS,au]at M;simp[go_sem,w,F,i,z,<-q,g,G,dm,M];refine V ⟨.isl ((GJ t s).map enc) x,by rw[GJ,if_neg a,<-S];simp[ag,cG,f79,go_sem],aL rfl rfl⟩
theorem PC(s:Lq) (x:Ext) (t:T) (hs:∀x∈s,x.size<4000000) (ht:t.size<4000000) (hl:s.length<4000000) (h:H):az C h (.func 79 []) (some [.isl (s.map enc) x,enc t])=some (aQ (nD t s),h):=by rw[<-Pj];exact ah (args':=[aQ s,enc t]) (by rw[bJ];rfl) (by rw[bJ];rfl) s_ (Sg s t hs ht hl)
def WB(l:Lq) (m:Nat) (st:PT) (_h:H):Prop:=∃k:Nat,m=l.length-k/\k<=l.length/\st.get 0=aQ l/\st.get 4=.int .i64 k/\∃x,st.get 3=.isl ((mA (l.take k)).map enc) x
theorem Qv(l:Lq) (hs:∀x∈l,x.size<4000000) (hl:l.length<4000000):ay C 42 [aQ l]=some (aQ (mA l)):=by
 refine bD func42 rfl λR n=>?_
 have b:=fK l;simp[go_sem];refine bR (WB l) l.length ⟨0,rfl,aO _,g_,g_,_,by simp[go_sem,mA];rfl⟩ ?_;rintro m q h ⟨k,rfl,r,g,i,x,d⟩;by_cases a:k<l.length
 ·have c:(k:Int)<l.length:=o_;have e:=fL l k a;have o:=wS k o_;have f:=mq (l.take k);have j:=PC (mA (l.take k)) x l[k] (λy p=>hs y (bX (mem_setS.1 p))) (hs _ (aG a)) (by simp only[ac]at f;omega);rw[<-Hu a]at j;simp[go_sem,g,d,i,b,c,e,iT,j,-Int.natCast_add,o];exact⟨l.length-(k+1),o_,k+1,rfl,a,g_,g_,.unk,by simp[go_sem,aQ]⟩
 have:k=l.length:=o_;subst this;rw[ao]at d;simp[go_sem,g,d,i,b];exact n ⟨.isl ((mA l).map enc) x,by simp[ag,cG,f42,go_sem],aL rfl rfl⟩
theorem xj(l:Lq) (x:Ext) (hs:∀x∈l,x.size<4000000) (hl:l.length<4000000) (h:H):az C h (.func 42 []) (some [.isl (l.map enc) x])=some (aQ (mA l),h):=ah (args':=[aQ l]) rfl rfl s_ (Qv l hs hl)
def isK(k:Int) (t:T):Bool:=decide (t.kind=k)
def V3(t:T) (c:Int) (m:Nat) (st:PT) (h:H):Prop:=∃k:Nat,m=(cU bS t).length-k/\k<=(cU bS t).length/\st.get 1=.int .i64 c/\st.get 6=aQ (cU bS t)/\st.get 7=.int .i64 k/\OwnR 39 h (st.get 5) ((((cU bS t).take k).filter (isK c)).map enc)
theorem A3(t:T) (h:H):aX C.P h 3 (.iptr (enc t) 0)=some (.int .i64 t.kind):=by simp[aX,ae,a3,s3,bB]
theorem mg(e:AV):bH C.P 39 (.iptr e 0) 0=some (.iptr e 0):=k_
theorem Nz(t:T) (c:Int) (hs:t.size<4000000):ay C 78 [enc t,.int .i64 c]=some (aQ (mA ((cU bS t).filter (isK c)))):=by
 refine bD func78 rfl λR I=>?_
 have J:=kB bS jI t;have s:=qS qa t hs;have z:=vQ t hs;obtain⟨A,i⟩:∃g:H,g=[.cells (enc t).cells .live,.tok 0 39,.tok 0 39]:=⟨_,rfl⟩
 have B:aX C.P A 39 (.ptr 0 0)=some (enc t):=yg t (by rw[i];rfl);simp[go_sem,nA];rw[<-bB,<-i];simp[go_sem,B,z];generalize a:cU bS t=w at *;have j:=fK w;refine bR (V3 t c) w.length ⟨0,by rw[a];rfl,aO _,g_,by simp[go_sem,a],g_,.inr ⟨2,g_⟩⟩ ?_;clear B i A z;rintro m K h ⟨k,rfl,L,D,l,u,n⟩;rw[a]at L l n;obtain⟨Q,q⟩:∃v,v=K.get 5:=⟨_,rfl⟩
 rw[<-q]at n;have o:=cO (isK c) (w.take k);by_cases b:k<w.length
 ·have f:(k:Int)<w.length:=o_;have p:=fL w k b;have E:=wS k o_;have d:(w.take (k+1)).filter (isK c)=if w[k].kind=c then(w.take k).filter (isK c)++[w[k]]else(w.take k).filter (isK c):=by rw[aI b,fi];by_cases e:w[k].kind=c<;>simp[e,isK]
  by_cases r:w[k].kind=c
  ·rw[if_pos r]at d;have⟨S,U,F,G,_,_⟩:=dz (ys:=[w[k]]) (x:=.full) n (by simp only[ac,aF,aP]at o ⊢;omega);rw[<-d]at G;simp only[aS,au]at F;simp[go_sem,D,l,u,<-q,j,f,p,iT,A3,mg,r,dm,F,-Int.natCast_add,E];exact⟨(cU bS t).length-(k+1),by rw[a];omega,k+1,rfl,by rw[a];exact b,g_,by simp[go_sem,l,a],g_,by rw[a];simpa[go_sem]using G⟩
  rw[if_neg r]at d;simp[go_sem,D,l,u,j,f,p,A3,mg,r,-Int.natCast_add,E];exact⟨(cU bS t).length-(k+1),by rw[a];omega,k+1,rfl,by rw[a];exact b,g_,by simp[go_sem,l,a],g_,by rw[a,d];simpa[go_sem,<-q]using n⟩
 have:k=w.length:=o_;subst this;rw[ao]at n o;have⟨x,M⟩:=n.isl;have N:=xj (w.filter (isK c)) x (λy O=>s y (bm.1 O).1) o_;simp[go_sem,l,u,<-q,j,M,N];exact I ⟨aQ (mA (w.filter (isK c))),by simp[ag,cG,f78,go_sem],aL rfl rfl⟩
end Go.VZ
namespace Go.VZ
open Go Go.V Go.Proofs Tryz TL
theorem HE(t:T) (c:Int) (hs:t.size<4000000) (h:H):az C h (.func 78 []) (some [enc t,.int .i64 c])=some (aQ (mA ((cU bS t).filter (isK c))),h):=ah (args':=[enc t,.int .i64 c]) (by rw[bJ];rfl) (by simp[aw,mP]) s_ (Nz t c hs)
def fI(t:T):Lq:=mA ((cU bS t).filter (isK 1))
theorem M4(t:T) (hs:t.size<4000000):ay C 41 [enc t]=some (aQ (fI t)):=by
 refine bD func41 rfl λR a=>?_
 have b:=HE t 1 hs;have c:aX C.P [.cells [.int .i64 t.kind,.str t.name,.int .i64 t.sort,aQ t.kids] .live,.tok 0 39] 39 (.ptr 0 0)=some (enc t):=by simp[aX,ae,a25,s25];rw[bJ]
 simp[go_sem,mF,nA,c,b];exact a ⟨aQ (fI t),by simp[ag,cG,f41,go_sem,fI],aL rfl rfl⟩
theorem xk(t:T) (hs:t.size<4000000) (h:H):az C h (.func 41 []) (some [enc t])=some (aQ (fI t),h):=ah (dC _) (by simp[aw]) s_ (M4 t hs)
def cR(l:Lq):Lq:=mA (l.flatMap fI)
def YO(l:Lq) (m:Nat) (st:PT) (h:H):Prop:=∃k:Nat,m=l.length-k/\k<=l.length/\st.get 0=aQ l/\st.get 4=.int .i64 k/\OwnR 39 h (st.get 3) (((l.take k).flatMap fI).map enc)
theorem vZ(t:T):(fI t).length<=t.size:=by have a:=mq ((cU bS t).filter (isK 1));have b:=cO (isK 1) (cU bS t);have c:=kB bS jI t;unfold fI;omega
theorem lJ(l:Lq):(l.flatMap fI).length<=sizes l:=by
 induction l with
 |nil=>simp[sizes]
 |cons a l b=>have:=vZ a;rw[cD,aK,sizes];omega
theorem ol{t:T}{n:Nat}(h:t.size<n):∀x∈fI t,x.size<n:=λx a=>qS qa t h x (bm.1 (mem_setS.1 a)).1
theorem Ju(l:Lq) (hs:∀x∈l,x.size<4000000) (hl:sizes l<4000000):ay C 15 [aQ l]=some (aQ (cR l)):=by
 refine bD func15 rfl λR t=>?_
 have c:=fK l;have p:=len_sizes l;simp[go_sem];refine bR (YO l) l.length ⟨0,rfl,aO _,g_,g_,.inr ⟨1,g_⟩⟩ ?_;rintro m u h ⟨k,rfl,I,q,r,g⟩;obtain⟨w,j⟩:∃v,v=u.get 3:=⟨_,rfl⟩
 rw[<-j]at g;by_cases b:k<l.length
 ·have d:(k:Int)<l.length:=o_;have n:=fL l k b;have z:=wS k o_;have A:=xk l[k] (hs _ (aG b));have e:(l.take (k+1)).flatMap fI=(l.take k).flatMap fI++fI l[k]:=by rw[aI b,ig];simp
  have f:=lJ (l.take (k+1));have B:=take_sizes_le l (k+1);rw[e,aK]at f;have⟨D,E,i,s,_,_⟩:=dz (ys:=fI l[k]) (x:=.unk) g o_;rw[<-e]at s;change cL C.P false h 37 w (aQ (fI l[k]))=some (D,E)at i;simp[go_sem,q,r,<-j,c,d,n,iT,A,i,-Int.natCast_add,z];exact⟨l.length-(k+1),o_,k+1,rfl,b,g_,g_,by simpa[go_sem]using s⟩
 have:k=l.length:=o_;subst this;rw[ao]at g;have⟨x,F⟩:=g.isl;have f:=lJ l;have G:=xj (l.flatMap fI) x (λy o=>by have⟨a,i,o⟩:=bh.1 o;exact ol (hs a i) y o) o_
 simp[go_sem,q,r,<-j,c,F,G];exact t ⟨aQ (cR l),by simp[ag,cG,f15,go_sem,cR],aL rfl rfl⟩
theorem zS(l:Lq) (x:Ext) (hs:∀x∈l,x.size<4000000) (hl:sizes l<4000000) (h:H):az C h (.func 15 []) (some [.isl (l.map enc) x])=some (aQ (cR l),h):=ah (args':=[aQ l]) rfl rfl s_ (Ju l hs hl)
end Go.VZ
namespace TL
def lt(x y:T):Prop:=x.cmp y<0
theorem xJ{t:T}:∀ {s:Lq},s.Pairwise lt->(nD t s).Pairwise lt
 |[],_=>by simp[nD]
 |x::r,h=>by
  rw[cI]at h;rw[nD];split
  ·rename_i hlt;rw[cI,cI];refine⟨λy hy=>?_,h⟩;rcases ak.1 hy with rfl|hy
   ·exact hlt
   exact cmp_trans hlt (h.1 y hy)
  split
  ·rw[cI];exact h
  rename_i h1 h2;rw[cI];refine⟨λy hy=>?_,xJ h.2⟩;rcases mem_addS.1 hy with rfl|hy
  ·exact cmp_lt o_
  exact h.1 y hy
theorem Cp(l:Lq):(mA l).Pairwise lt:=by
 have b:∀(l s:Lq),s.Pairwise lt->(l.foldl (λs t=>nD t s) s).Pairwise lt:=by
  intro l;induction l with
  |nil=>intro s h;exact h
  |cons a l c=>intro s h;exact c _ (xJ h)
 exact b l [] List.Pairwise.nil
end TL
namespace Go.VZ
open TL
end Go.VZ
namespace Go.VZ
open Go Go.V Go.Proofs Tryz TL
theorem HR{C:Cfg}{cf:FuncId}{ops:Array Oper}{base:Nat}{K K':PT->H->List FP->Prop}(hk:∀s h F,K s h F->K' s h F):∀(l:List Oper) (i:Nat) (s:PT) (h:H) (F:List FP),MX C cf ops base K i l s h F->MX C cf ops base K' i l s h F
 |[],_,_,_,_,hx=>hk _ _ _ hx
 |_::l,_,_,_,_,⟨v,h2,f,e,hx⟩=>⟨v,h2,f,e,HR hk l _ _ _ _ hx⟩
theorem sU{C:Cfg}{cf:FuncId}{R:Ex->PT->H->Prop}{k:List It}{s:PT}{h:H}(id:Nat) (ops:Array Oper) (P:PT->H->Prop) (hm:C.mix cf id=true) (ht:rK ops=true)
  (hx:MX C cf ops h.length (λs' h' F=>tR ops F=true/\P s' h') 0 ops.toList s (h++List.replicate ops.size .void) []) (hk:∀s' h',P s' h'->N C cf R k s' h') (hc:C.cut cf id=none:=by rfl):W C cf R (.region id ops true) k s h:=
 xn id ops hm ht (HR (λ_ _ _ a=>⟨a.1,hk _ _ a.2⟩) _ _ _ _ _ hx) hc
theorem wB(l:Lb):fW C.P 45 (binds l)=some (.int .i64 l.length):=by simp[binds,nT]
theorem Qt{h:H}{i:Nat}(t:T) (hi:h[i]?=some (.cells zc .live)):cr C.P h 39 (.ptr i 0) (enc t)=some (h.set i (.cells (enc t).cells .live)):=by rw[bJ];simp[cr,hi,s25,zc,aa]
theorem mem_walk{x t:T}:x∈cU bS t↔x=t\/∃k∈t.kids,x∈cU bS k:=by rw[xp,aZ,qT,bh];simp[bS]
theorem eU(t:T):t∈cU bS t:=mem_walk.2 (.inl rfl)
mutual
def jB(x y:T):T->T
 |.mk k n s l=>if T.cmp (.mk k n s l) x=0 then y else .mk k n s (Ga x y l)
def Ga(x y:T):Lq->Lq
 |[]=>[]
 |t::l=>jB x y t::Ga x y l
end
theorem Af(x y:T):∀l,Ga x y l=l.map (jB x y)
 |[]=>rfl
 |t::l=>by rw[Ga,Af x y l];rfl
theorem xb(x y t:T):jB x y t=if t.cmp x=0 then y else .mk t.kind t.name t.sort (t.kids.map (jB x y)):=by cases t;rw[jB,Af];rfl
def pF(t:T):Prop:=∀y∈cU bS t,y.kind=1->y.kids=[]
theorem Ax{t k:T}(h:pF t) (hk:k∈t.kids):pF k:=λy a=>h y (mem_walk.2 (.inr ⟨k,hk,a⟩))
theorem Bd{l:Lq}(h:lW l=0):∀k∈l,dG k=0:=by
 induction l with
 |nil=>simp
 |cons a l c=>
  rw[lW]at h;have⟨d,e⟩:=thn_zero.1 h;intro k b;rcases ak.1 b with rfl|b
  ·exact d
  exact c e k b
theorem kE:∀t:T,dG t=0->∀y∈cU bS t,dG y=0:=by
 refine T.ind λt c h y a=>?_
 rcases mem_walk.1 a with rfl|⟨k,b,a⟩
 ·exact h
 rw[qC]at h;exact c k b (Bd (thn_zero.1 h).2 k b) y a
theorem qE{t:T}(h:iE t=0) (hk:t.kind=1\/t.kind=2):t.kids=[]:=by
 unfold iE at h;split at h
 ·cases h
 rename_i b;cases c:t.kids with
 |nil=>rfl
 |cons a l=>exfalso;apply b;simp only[tU,c,aF];rcases hk with hk|hk<;>simp[hk]
theorem vq{t:T}(h:iE t=0):t.kids.length<=8:=by
 unfold iE at h;split at h
 ·cases h
 split at h
 ·cases h
 split at h
 ·cases h
 omega
theorem ee{t:T}(h:dG t=0):iE t=0:=by rw[qC]at h;exact(thn_zero.1 h).1
theorem om{t:T}(h:bc t=0):pF t:=λy a k=>qE (ee (kE t (cT h).1 y a)) (.inl k)
theorem JA{t k:T}(h:k∈t.kids):k.depth<t.depth:=by
 rw[vJ t];have:∀l:Lq,k∈l->k.depth<=depths l:=by
  intro l;induction l with
  |nil=>simp
  |cons a l c=>
   intro b;rw[depths];rcases ak.1 b with rfl|b
   ·exact eY _ _
   exact cM (c b) (eJ _ _)
 exact Nat.lt_succ_of_le (this _ h)
theorem sY{t k:T}(h:bc t=0) (hk:k∈t.kids):bc k=0:=by have⟨d,e,f⟩:=cT h;have a:=kE t d k (mem_walk.2 (.inr ⟨k,hk,eU k⟩));have b:=kid_size hk;have c:=JA hk;unfold bc;rw[a,if_neg o_];rfl
theorem DB{x y:T}:∀t:T,pF t->∀z,z.kind=1->z∈cU bS (jB x y t)->(z∈cU bS t/\z≠x)\/z∈cU bS y:=by
 refine T.ind λt n j z g f=>?_
 rw[xb]at f;split at f
 ·exact .inr f
 rename_i h;rcases mem_walk.1 f with e|⟨k,l,f⟩
 ·left;have i:t.kind=1:=by rw[e]at g;exact g
  have c:=j t (eU t) i;have:z=t:=by rw[e,c];cases t;simp only[T.kind,T.name,T.sort,T.kids]at c ⊢;subst c;rfl
  subst this;exact⟨eU _,λe=>h (cmp_zero.2 e)⟩
 simp only[T.kids,bA]at l;obtain⟨m,d,rfl⟩:=l;rcases n m d (Ax j d) z g f with⟨a,b⟩|a
 ·exact .inl ⟨mem_walk.2 (.inr ⟨m,d,a⟩),b⟩
 exact .inr a
def occ(x t:T):Bool:=decide (x∈cU bS t)
inductive Ch where
 |bad (e:Int)
 |ok (x y:T)
def FN(x t:T):Ch:=if x.sort≠0/\(t.kind≠2\/t.sort≠x.sort)then .bad 11 else if occ x t=true then .bad 12 else .ok x t
def kG(a b:T):Ch:=
 if a.kind=1 then
  if b.kind=1 then
   if(a.sort=b.sort/\a.cmp b<0)\/(a.sort≠b.sort/\b.sort=0)then .ok b a
   else if a.sort≠b.sort/\a.sort≠0 then .bad 11 else .ok a b
  else FN a b
 else if b.kind=1 then FN b a
 else .bad 11
def iy(a b:T):Bool:=decide (a.kind=3)&&decide (b.kind=3)&&decide (a.name=b.name)&&decide (a.kids.length=b.kids.length)
def qR(a b:T):Lb:=a.kids.zip b.kids
def okP(x y:T) (ps:Lb):Bool:=ps.all λp=>decide (bc (jB x y p.1)=0)&&decide (bc (jB x y p.2)=0)
def okS(x y:T) (s:Lb):Bool:=s.all λb=>decide (bc (jB x y b.2)=0)
def okU(x y:T) (ps s:Lb):Bool:=okP x y ps&&okS x y s
def pc(x y:T) (ps:Lb):Lb:=ps.map λp=>(jB x y p.1,jB x y p.2)
def lV(x y:T) (s:Lb):Lb:=s.map λb=>(b.1,jB x y b.2)
theorem BD{a b x y:T}(ha:bc a=0) (hb:bc b=0) (hne:a≠b) (h:kG a b=.ok x y):x.kind=1/\x∉cU bS y/\((x=a/\y=b)\/(x=b/\y=a)):=by
 have d:∀u v:T,v.kind=1->pF v->u≠v->u∉cU bS v:=λu v m n o p=>by
  rcases mem_walk.1 p with e|⟨k,l,_⟩
  ·exact o e
  rw[n v (eU v) m]at l;simp at l
 have f:∀u v:T,u.kind=1->FN u v=.ok x y->x=u/\y=v/\u∉cU bS v:=λu v _ c=>by
  unfold FN at c;split at c
  ·cases c
  split at c
  ·cases c
  rename_i q;simp only[Ch.ok.injEq]at c;exact⟨c.1.symm,c.2.symm,by simpa[occ]using q⟩
 unfold kG at h;split at h
 ·rename_i i;split at h
  ·rename_i g;split at h
   ·simp only[Ch.ok.injEq]at h;obtain⟨rfl,rfl⟩:=h;exact⟨g,d _ _ i (om ha) (λe=>hne e.symm),.inr ⟨rfl,rfl⟩⟩
   split at h
   ·cases h
   simp only[Ch.ok.injEq]at h;obtain⟨rfl,rfl⟩:=h;exact⟨i,d _ _ g (om hb) hne,.inl ⟨rfl,rfl⟩⟩
  obtain⟨rfl,rfl,j⟩:=f a b i h;exact⟨i,j,.inl ⟨rfl,rfl⟩⟩
 split at h
 ·rename_i g;obtain⟨rfl,rfl,j⟩:=f b a g h;exact⟨g,j,.inr ⟨rfl,rfl⟩⟩
 cases h
def inP(u:T) (ps:Lb):Prop:=∃p∈ps,u∈cU bS p.1\/u∈cU bS p.2
open Classical in
noncomputable def rV(U:Lq) (ps:Lb):Nat:=(U.filter λu=>decide (inP u ps)).length
theorem wL{α:Type}{p q:α->Bool}:∀l:List α,(∀a∈l,p a=true->q a=true)->(l.filter p).length<=(l.filter q).length
 |[],_=>aT _
 |a::l,h=>by
  have ih:=wL l λb c=>h b (be _ c)
  have d:=h a s_;rw[jA,jA];by_cases e:p a=true
  ·rw[if_pos e,if_pos (d e)];simp;omega
  rw[if_neg e];split<;>simp<;>omega
theorem A8{α:Type}{p q:α->Bool}{x:α}:∀l:List α,(∀a∈l,p a=true->q a=true)->x∈l->p x=false->q x=true->(l.filter p).length<(l.filter q).length
 |[],_,hx,_,_=>by simp at hx
 |a::l,h,hx,h1,h2=>by
  have hl:∀b∈l,p b=true->q b=true:=λb c=>h b (be _ c)
  have d:=h a s_;rw[jA,jA];rcases ak.1 hx with rfl|hx
  ·have:=wL l hl;rw[if_neg (by rw[h1];simp),if_pos h2];simp;omega
  have f:=A8 l hl hx h1 h2;by_cases e:p a=true
  ·rw[if_pos e,if_pos (d e)];simp;omega
  rw[if_neg e];split<;>simp<;>omega
theorem xi{U:Lq}{ps qs:Lb}(h:∀u∈U,inP u ps->inP u qs):rV U ps<=rV U qs:=by unfold rV;exact wL U λu a b=>by simpa using h u a (by simpa using b)
theorem Lz(U:Lq) (ps:Lb):rV U ps<=U.length:=cO _ _
theorem Om{U:Lq}{ps qs:Lb}{x:T}(h:∀u∈U,inP u ps->inP u qs) (hx:x∈U) (h1:¬inP x ps) (h2:inP x qs):rV U ps<rV U qs:=by unfold rV;exact A8 (x:=x) U (λu a b=>by simpa using h u a (by simpa using b)) hx (by simpa using h1) (by simpa using h2)
structure InvU (U:Lq) (K:Nat) (ps s:Lb):Prop where
 valid:∀p∈ps,bc p.1=0/\bc p.2=0
 varsU:∀p∈ps,∀u:T,u.kind=1->u∈cU bS p.1\/u∈cU bS p.2->u∈U
 allU:∀u∈U,u.kind=1
 bval:∀b∈s,bc b.1=0/\bc b.2=0
 gone:∀b∈s,b.1.kind=1/\¬inP b.1 ps
 diff:s.Pairwise λa b=>a.1≠b.1
 len:∃A B,ps=A++B/\(A.map λp=>p.1.size).sum<=400/\B.length+400*rV U ps<=K
 slen:s.length+rV U ps<=U.length
theorem GV{A:Lb}:A.length<=(A.map λp=>p.1.size).sum:=by
 induction A with
 |nil=>simp
 |cons a A b=>have:=size_pos a.1;simp only[aF,aS,gb];omega
theorem InvU.plen{U K ps s}(h:InvU U K ps s):ps.length<=400+K:=by obtain⟨A,B,rfl,a,b⟩:=h.len;have:=GV (A:=A);rw[aK];omega
theorem InvU.skip{U K p ps s}(h:InvU U K (p::ps) s):InvU U K ps s:=by
 have d:∀u:T,inP u ps->inP u (p::ps):=λu ⟨q,c,g⟩=>⟨q,be _ c,g⟩
 have l:=xi (U:=U) (ps:=ps) (qs:=p::ps) λu _=>d u
 refine⟨λq c=>h.valid q (be _ c),λq c=>h.varsU q (be _ c),h.allU,h.bval,λb f=>⟨(h.gone b f).1,λi=>(h.gone b f).2 (d _ i)⟩,h.diff,?_,by have:=h.slen;omega⟩;have⟨A,B,e,j,k⟩:=h.len;cases A with
 |nil=>
  cases B with
  |nil=>simp at e
  |cons b B=>simp only[bz,cH]at e;obtain⟨rfl,rfl⟩:=e;exact⟨[],ps,rfl,s_,by simp only[aF]at k;omega⟩
 |cons a A=>simp only[cP,cH]at e;obtain⟨rfl,rfl⟩:=e;exact⟨A,B,rfl,by simp only[aS,gb]at j;omega,o_⟩
theorem xW{a b:T}{p:T × T}(h:p∈qR a b):p.1∈a.kids/\p.2∈b.kids:=by have⟨u,v⟩:=p;exact⟨(dh h).1,(dh h).2⟩
theorem GN:∀(l m:Lq),((l.zip m).map λp=>p.1.size).sum<=sizes l
 |[],_=>s_
 |_::_,[]=>s_
 |a::l,b::m=>by have:=GN l m;simp only[kw,aS,gb,sizes];omega
theorem InvU.kids{U K a b ps s}(h:InvU U K ((a,b)::ps) s):InvU U K (qR a b++ps) s:=by
 have g:=h.valid _ cJ;have i:∀u:T,inP u (qR a b++ps)->inP u ((a,b)::ps):=λu ⟨q,d,f⟩=>by
  rcases aZ.1 d with d|d
  ·have:=xW d;exact⟨(a,b),cJ,f.imp (λm=>mem_walk.2 (.inr ⟨_,this.1,m⟩)) (λm=>mem_walk.2 (.inr ⟨_,this.2,m⟩))⟩
  exact⟨q,be _ d,f⟩
 have p:=xi (U:=U) λu _=>i u
 refine⟨λq d=>?_,λq d u j f=>?_,h.allU,h.bval,λb k=>⟨(h.gone b k).1,λl=>(h.gone b k).2 (i _ l)⟩,h.diff,?_,by have:=h.slen;omega⟩
 ·rcases aZ.1 d with d|d
  ·have:=xW d;exact⟨sY g.1 this.1,sY g.2 this.2⟩
  exact h.valid q (be _ d)
 ·rcases aZ.1 d with d|d
  ·have:=xW d;exact h.varsU (a,b) cJ u j (f.imp (λm=>mem_walk.2 (.inr ⟨_,this.1,m⟩)) (λm=>mem_walk.2 (.inr ⟨_,this.2,m⟩)))
  exact h.varsU q (be _ d) u j f
 have⟨A,B,e,n,o⟩:=h.len;have r:=GN a.kids b.kids;have t:=size_kids a;cases A with
 |nil=>
  cases B with
  |nil=>simp at e
  |cons c B=>simp only[bz,cH]at e;obtain⟨rfl,rfl⟩:=e;have:=(cT g.1).2.1;exact⟨qR a b,ps,rfl,by unfold qR;simp only at this;omega,by simp only[aF]at o;omega⟩
 |cons c A=>simp only[cP,cH]at e;obtain⟨rfl,rfl⟩:=e;refine⟨qR a b++A,B,s_,?_,o_⟩;simp only[aS,gb]at n;rw[bY,List.sum_append];unfold qR;omega
theorem N4{x y:T}{ps:Lb}(hl:∀p∈ps,pF p.1/\pF p.2){u:T}(hu:u.kind=1) (h:inP u (pc x y ps)):(inP u ps/\u≠x)\/u∈cU bS y:=by
 have⟨q,e,c⟩:=h;obtain⟨p,d,rfl⟩:=bA.1 e;rcases c with c|c
 ·rcases DB _ (hl p d).1 u hu c with⟨a,b⟩|a
  ·exact .inl ⟨⟨p,d,.inl a⟩,b⟩
  exact .inr a
 rcases DB _ (hl p d).2 u hu c with⟨a,b⟩|a
 ·exact .inl ⟨⟨p,d,.inr a⟩,b⟩
 exact .inr a
theorem InvU.perm{U K ps s s'}(h:InvU U K ps s) (p:s.Perm s'):InvU U K ps s':=
 ⟨h.valid,h.varsU,h.allU,λb c=>h.bval b (p.mem_iff.2 c),λb c=>h.gone b (p.mem_iff.2 c),(p.pairwise_iff fun {a b}(k:a.1≠b.1)=>λe=>k e.symm).1 h.diff,h.len,by rw[<-p.length_eq];exact h.slen⟩
theorem InvU.bind{U K a b ps s x y}(h:InvU U K ((a,b)::ps) s) (hne:a≠b) (hch:kG a b=.ok x y) (hok:okU x y ps s=true):InvU U K (pc x y ps) (lV x y s++[(x,y)])/\rV U (pc x y ps)<rV U ((a,b)::ps):=by
 have⟨F,G⟩:=h.valid _ cJ;have⟨t,v,i⟩:=BD F G hne hch;have m:inP x ((a,b)::ps):=⟨(a,b),cJ,i.elim (λe=>.inl (e.1▸eU _)) (λe=>.inr (e.1▸eU _))⟩
 have w:∀u,u∈cU bS y->inP u ((a,b)::ps):=λu k=>⟨(a,b),cJ,i.elim (λe=>.inr (e.2▸k)) (λe=>.inl (e.2▸k))⟩
 have I:bc x=0:=by rcases i with⟨rfl,_⟩|⟨rfl,_⟩<;>assumption
 have J:bc y=0:=by rcases i with⟨_,rfl⟩|⟨_,rfl⟩<;>assumption
 have L:∀p∈ps,pF p.1/\pF p.2:=λp f=>⟨om (h.valid p (be _ f)).1,om (h.valid p (be _ f)).2⟩
 have n:∀u:T,u.kind=1->inP u (pc x y ps)->inP u ((a,b)::ps)/\u≠x:=λu k j=>by
  rcases N4 L k j with⟨⟨q,o,l⟩,M⟩|l
  ·exact⟨⟨q,be _ o,l⟩,M⟩
  exact⟨w u l,λe=>v (e▸l)⟩
 have z:x∈U:=by have⟨p,f,l⟩:=m;exact h.varsU p f x t l
 have r:rV U (pc x y ps)<rV U ((a,b)::ps):=Om (λu k j=>(n u (h.allU u k) j).1) z (λj=>(n x t j).2 rfl) m;simp only[okU,okP,okS,aq,bM,decide_eq_true_eq]at hok;refine⟨⟨λq o=>?_,λq o u D k=>?_,h.allU,λc g=>?_,λc g=>?_,?_,?_,?_⟩,r⟩
 ·obtain⟨p,f,rfl⟩:=bA.1 o;exact hok.1 p f
 ·have⟨p,f,l⟩:=(n u D ⟨q,o,k⟩).1;exact h.varsU p f u D l
 ·rcases aZ.1 g with g|g
  ·obtain⟨p,f,rfl⟩:=bA.1 g;exact⟨(h.bval p f).1,hok.2 p f⟩
  simp only[bL]at g;subst g;exact⟨I,J⟩
 ·rcases aZ.1 g with g|g
  ·obtain⟨p,f,rfl⟩:=bA.1 g;exact⟨(h.gone p f).1,λj=>(h.gone p f).2 (n _ (h.gone p f).1 j).1⟩
  simp only[bL]at g;subst g;exact⟨t,λj=>(n x t j).2 rfl⟩
 ·rw[List.pairwise_append];refine⟨by rw[lV,eR];exact h.diff,s_,λc g d E=>?_⟩;simp only[bL]at E;subst E;obtain⟨p,f,rfl⟩:=bA.1 g;exact λe=>(h.gone p f).2 (by rw[show p.1=x from e];exact m)
 ·refine⟨[],pc x y ps,rfl,s_,?_⟩;have:=h.skip.plen;have⟨A,B,e,N,O⟩:=h.len;have Q:=GV (A:=A);have S:ps.length+1=A.length+B.length:=by have:=congrArg List.length e;simpa using this
  simp only[pc,aU];simp only[pc]at r;omega
 have:=h.slen;simp only[lV,aK,aU,List.length_singleton];omega
end Go.VZ
namespace Go.VZ
open Go Go.V Go.Proofs Tryz TL
def jY(ins:T × T->Lb->Lb):Nat->Lb->Lb->Option (Lb × Int)
 |_,[],s=>some (s,0)
 |0,_::_,_=>none
 |n+1,(a,b)::ps,s=>
  if a.cmp b=0 then jY ins n ps s
  else if iy a b=true then jY ins n (qR a b++ps) s
  else match kG a b with
   |.bad e=>some ([],e)
   |.ok x y=>if okU x y ps s=true then jY ins n (pc x y ps) (ins (x,y) (lV x y s))else some ([],3)
def N3(b:T × T) (s:Lb):Lb:=s++[b]
def jg(b:T × T):Lb->Lb
 |[]=>[b]
 |c::l=>if b.1.cmp c.1<0 then b::c::l else c::jg b l
theorem lD(b:T × T):∀l,(jg b l).Perm (l++[b])
 |[]=>.refl _
 |c::l=>by
  rw[jg];split
  ·exact(List.perm_append_singleton b (c::l)).symm
  exact(lD b l).cons c
theorem LB(b:T × T) (l:Lb):(jg b l).length=l.length+1:=by rw[(lD b l).length_eq,aK];rfl
def wW(l:Lb):Prop:=l.Pairwise λa b=>le a.1 b.1
theorem DO{b:T × T}:∀ {l},wW l->wW (jg b l)
 |[],_=>by simp[jg,wW]
 |c::l,h=>by
  have h':=cI.1 h;rw[jg];split
  ·rename_i e;have f:le b.1 c.1:=le_iff.2 o_;refine cI.2 ⟨λd a=>?_,h⟩;rcases ak.1 a with rfl|a
   ·exact f
   exact le_trans f (h'.1 d a)
  rename_i e;refine cI.2 ⟨λd a=>?_,DO h'.2⟩;rcases aZ.1 ((lD b l).mem_iff.1 a)with a|a
  ·exact h'.1 d a
  simp only[bL]at a;subst a;exact e
theorem KW{x y:T}{s:Lb}(h:wW s):wW (lV x y s):=by unfold wW lV;rw[eR];exact h
theorem Kh{x y:T}{s s':Lb}(p:s.Perm s'):okS x y s=okS x y s':=by rw[eZ];simp only[okS,bM];exact⟨λh b a=>h b (p.mem_iff.2 a),λh b a=>h b (p.mem_iff.1 a)⟩
theorem ub:∀(n:Nat) (ps s s' r:Lb) (e:Int),s.Perm s'->wW s'->jY N3 n ps s=some (r,e)->∃r',jY jg n ps s'=some (r',e)/\r.Perm r'/\wW r'
 |n,[],s,s',r,e,hp,ha,h=>by simp only[jY,aA,aD]at h;obtain⟨rfl,rfl⟩:=h;exact⟨s',by simp[jY],hp,ha⟩
 |0,_::_,s,s',r,e,hp,ha,h=>by simp[jY]at h
 |n+1,(a,b)::ps,s,s',r,e,hp,ha,h=>by
  rw[jY]at h ⊢;by_cases c:a.cmp b=0
  ·rw[if_pos c]at h ⊢;exact ub n ps s s' r e hp ha h
  rw[if_neg c]at h ⊢;by_cases d:iy a b=true
  ·rw[if_pos d]at h ⊢;exact ub n _ s s' r e hp ha h
  rw[if_neg d]at h ⊢;cases f:kG a b with
  |bad j=>rw[f]at h;simp only[aA,aD]at h;obtain⟨rfl,rfl⟩:=h;exact⟨[],rfl,.refl _,List.Pairwise.nil⟩
  |ok x y=>
   rw[f]at h;dsimp only at h ⊢;have i:okU x y ps s=okU x y ps s':=by rw[okU,okU,Kh hp]
   rw[<-i];by_cases g:okU x y ps s=true
   ·rw[if_pos g]at h ⊢;refine ub n _ _ _ r e ?_ (DO (KW ha)) h;exact((hp.map _).append_right _).trans (lD _ _).symm
   rw[if_neg g]at h ⊢;simp only[aA,aD]at h;obtain⟨rfl,rfl⟩:=h;exact⟨[],rfl,.refl _,List.Pairwise.nil⟩
theorem xY{U:Lq}{K:Nat}:∀(n:Nat) (ps s r:Lb),InvU U K ps s->jY N3 n ps s=some (r,0)->r=[]\/InvU U K [] r
 |n,[],s,r,hi,h=>by simp only[jY,aA,aD,and_true]at h;subst h;exact .inr hi
 |0,_::_,s,r,hi,h=>by simp[jY]at h
 |n+1,(a,b)::ps,s,r,hi,h=>by
  rw[jY]at h;by_cases h1:a.cmp b=0
  ·rw[if_pos h1]at h;exact xY n ps s r hi.skip h
  rw[if_neg h1]at h;by_cases h2:iy a b=true
  ·rw[if_pos h2]at h;exact xY n _ s r hi.kids h
  rw[if_neg h2]at h;cases hc:kG a b with
  |bad e'=>rw[hc]at h;simp only[aA,aD]at h;exact .inl h.1.symm
  |ok x y=>
   rw[hc]at h;dsimp only at h;by_cases h3:okU x y ps s=true
   ·rw[if_pos h3]at h;exact xY n _ _ r (hi.bind (λe=>h1 (cmp_zero.2 e)) hc h3).1 h
   rw[if_neg h3]at h;simp at h
def szP(ps:Lb):Nat:=(ps.map λp=>p.1.size+p.2.size).sum
theorem EY(l m:Lb):szP (l++m)=szP l+szP m:=by simp[szP]
theorem GP:∀(l m:Lq),szP (l.zip m)<=sizes l+sizes m
 |[],_=>by simp[szP]
 |_::_,[]=>by simp[szP]
 |a::l,b::m=>by have:=GP l m;simp only[szP,kw,aS,gb,sizes]at this ⊢;omega
theorem Xs{U:Lq}{K:Nat}:∀(c n:Nat) (ps s:Lb),InvU U K ps s->rV U ps<=c->szP ps<=n->∃m r,jY N3 m ps s=some r:=by
 intro c;induction c using Nat.strongRecOn with
 |_ c t=>
  intro n;induction n using Nat.strongRecOn with
  |_ n i=>
   intro ps s j w z;match ps,j,w,z with
   |[],_,_,_=>exact⟨0,_,by rw[jY]⟩
   |(a,b)::ps,j,w,z=>
    have B:=size_pos a;have D:=size_pos b;have E:szP ((a,b)::ps)=a.size+b.size+szP ps:=by simp[szP]
    by_cases g:a.cmp b=0
    ·have k:=j.skip;have v:rV U ps<=rV U ((a,b)::ps):=xi λu _ ⟨q,f,o⟩=>⟨q,be _ f,o⟩
     have⟨m,r,h⟩:=i (szP ps) o_ ps s k o_ (aT _);exact⟨m+1,r,by rw[jY,if_pos g];exact h⟩
    by_cases p:iy a b=true
    ·have k:=j.kids;have v:rV U (qR a b++ps)<=rV U ((a,b)::ps):=xi λu _ ⟨q,f,o⟩=>by
      rcases aZ.1 f with f|f
      ·have:=xW f;exact⟨(a,b),cJ,o.imp (λm=>mem_walk.2 (.inr ⟨_,this.1,m⟩)) (λm=>mem_walk.2 (.inr ⟨_,this.2,m⟩))⟩
      exact⟨q,be _ f,o⟩
     have F:=GP a.kids b.kids;have l:szP (qR a b++ps)<n:=by rw[EY,qR];have:=size_kids a;have:=size_kids b;omega
     have⟨m,r,h⟩:=i _ l _ s k o_ (aT _);exact⟨m+1,r,by rw[jY,if_neg g,if_pos p];exact h⟩
    cases d:kG a b with
    |bad e=>exact⟨1,([],e),by rw[jY,if_neg g,if_neg p,d]⟩
    |ok x y=>
     by_cases l:okU x y ps s=true
     ·have⟨k,A⟩:=j.bind (λe=>g (cmp_zero.2 e)) d l;have⟨m,r,h⟩:=t _ o_ _ _ _ k (aT _) (aT _);exact⟨m+1,r,by rw[jY,if_neg g,if_neg p,d];dsimp only;rw[if_pos l];exact h⟩
     exact⟨1,([],3),by rw[jY,if_neg g,if_neg p,d];dsimp only;rw[if_neg l]⟩
theorem MW:∀ {l m:Lb},l.Perm m->wW l->wW m->l.Pairwise (λa b=>a.1≠b.1)->l=m
 |[],m,p,_,_,_=>(List.nil_perm.1 p).symm
 |a::l,[],p,_,_,_=>by have:=p.length_eq;simp at this
 |a::l,b::m,p,ha,hb,hd=>by
  have c:=cI.1 ha;have d:=cI.1 hb;have f:=cI.1 hd;have e:a=b:=by
   rcases ak.1 (p.mem_iff.1 cJ)with e|h
   ·exact e
   rcases ak.1 (p.mem_iff.2 (cJ (a:=b) (l:=m)))with e|g
   ·exact e.symm
   exact absurd (le_antisymm (c.1 b g) (d.1 a h)) (f.1 b g)
  subst e;rw[MW (p.cons_inv) c.2 d.2 f.2]
end Go.VZ
namespace Go.VP
open Go Go.V Go.Proofs Go.RowKit TL
open Go.VZ (enc yz kT aQ bJ bB aa ext pi bN)
theorem s86:cS C.P 84=some 8:=k_
theorem a86:eW C.P 84=some true:=k_
attribute [go_sem] s86 a86
theorem FU(i:Nat):bH C.P 84 (.ptr i 0) 0=some (.ptr i 0):=k_
attribute [go_sem] FU
theorem MP(b:T × T) (h:H):mX C.P h 84 (bN b)=some (.ptr h.length 0,h++[.cells (bN b).cells .live]):=by simp[mX,bN,aa,s86,bV]
theorem Nx{h:H}{i:Nat}{b:T × T}(hi:h[i]?=some (.cells (bN b).cells .live)):aX C.P h 39 (.ptr i 0)=some (enc b.1):=by simp[aX,hi,ae,a25,s25,bN,aa];rw[bJ]
theorem On(a b:T × T) (ha:a.1.size<4000000) (hb:b.1.size<4000000):ay C 356 [bN a,bN b]=some (.int .i64 (a.1.cmp b.1)):=by
 refine bD Tryz.func356 rfl λR e=>?_
 have f:=PO a.1 b.1 ha hb;obtain⟨d,c⟩:∃g:H,g=[.cells (bN a).cells .live,.cells (bN b).cells .live]:=⟨_,rfl⟩
 have h:d[0]?=some (.cells (bN a).cells .live):=by rw[c];rfl
 have i:d[1]?=some (.cells (bN b).cells .live):=by rw[c];rfl
 have j:=Nx h;have k:=Nx i;simp[go_sem,MP];rw[<-c];simp[go_sem,j,k,f];exact e ⟨.int .i64 (a.1.cmp b.1),by simp[ag,cG,Tryz.f356,go_sem],aL rfl rfl⟩
theorem Dn [DFlag] (hD:DFlag.D) (a b:T × T) (ha:a.1.size<4000000) (hb:b.1.size<4000000){w:World}{u v:Value}(hg:kW (λ_ _=>True) w) (hu:IRel (λ_ _=>True) w (bN a) u) (hv:IRel (λ_ _=>True) w (bN b) v) :
  Calls Tryz.prog 356 #[u,v] w λe w'=>e=.returned (.int .i64 (a.1.cmp b.1))/\∃q os,w'=Go.Sort.grow (w.drewN q) os:=by
 have f:=On a b ha hb;unfold ay at f;split at f<;>try(cases f;done)
 rename_i r g c;refine(okD.fn 356 [bN a,bN b] [] r g k_ c w.heap.size (λ_ _=>True) [] w #[u,v] (.start hg) rfl (λi x y c d=>?_)).mono ?_
 ·match i,c,d with
  |0,c,d=>simp at c d;subst c;subst d;exact .data (kj hu)
  |1,c,d=>simp at c d;subst c;subst d;exact .data (kj hv)
  |i+2,c,d=>simp at c
 rintro e w' ⟨v,rfl,σ',h,j,k⟩;have l:=jH (h.stiller (dN g)) dH r _ v f (k.step (.stiller h (dN g)));cases l;exact⟨rfl,Bz hD (rq j.below j.drawn)⟩
theorem Fo(a b:T × T) (ha:a.1.size<4000000) (hb:b.1.size<4000000){w:World}{u v:Value}(hg:kW (λ_ _=>True) w) (hu:IRel (λ_ _=>True) w (bN a) u) (hv:IRel (λ_ _=>True) w (bN b) v) :
  Calls Tryz.prog 356 #[u,v] w λe w'=>e=.returned (.int .i64 (a.1.cmp b.1))/\∃q os,w'=Go.Sort.grow (w.drewN q) os:=@Dn ⟨True⟩ trivial a b ha hb w u v hg hu hv
end Go.VP
namespace Go.Proofs
open Go.Shelf
def Tryz.laysSortB_ren:Go.Shelf.Ren:=⟨fun|6=>158|15=>84|14=>223|28=>128|29=>129|20=>268|21=>269|22=>270|23=>271|24=>272|25=>273|26=>274|27=>275|46=>313|47=>182|48=>183|49=>314|50=>315|57=>357|n=>n,fun|22=>45|24=>84|25=>175|3=>3|39=>121|0=>0|53=>155|55=>157|4=>4|46=>148|45=>147|50=>152|5=>5|9=>9|66=>191|70=>195|76=>237|77=>238|n=>n,fun|n=>n⟩
theorem Tryz.laysSortB:Go.Proofs.SlLaysF0.n6 Tryz.prog Tryz.laysSortB_ren:={
 mixed:=k_
 f6:=⟨Tryz.f158.name,d_,Tryz.func158.trans (congrArg some k_)⟩
 f14:=⟨Tryz.f223.name,d_,Tryz.func223.trans (congrArg some k_)⟩
 f15:=Tryz.func84.trans (congrArg some k_)
 f20:=⟨Tryz.f268.name,d_,Tryz.func268.trans (congrArg some k_)⟩
 f21:=⟨Tryz.f269.name,d_,Tryz.func269.trans (congrArg some k_)⟩
 f22:=⟨Tryz.f270.name,d_,Tryz.func270.trans (congrArg some k_)⟩
 f23:=⟨Tryz.f271.name,d_,Tryz.func271.trans (congrArg some k_)⟩
 f24:=⟨Tryz.f272.name,d_,Tryz.func272.trans (congrArg some k_)⟩
 f25:=⟨Tryz.f273.name,d_,Tryz.func273.trans (congrArg some k_)⟩
 f26:=⟨Tryz.f274.name,d_,Tryz.func274.trans (congrArg some k_)⟩
 f27:=⟨Tryz.f275.name,d_,Tryz.func275.trans (congrArg some k_)⟩
 f28:=Tryz.func128.trans (congrArg some k_)
 f29:=Tryz.func129.trans (congrArg some k_)
 f46:=⟨Tryz.f313.name,d_,Tryz.func313.trans (congrArg some k_)⟩
 f47:=Tryz.func182.trans (congrArg some k_)
 f48:=Tryz.func183.trans (congrArg some k_)
 f49:=⟨Tryz.f314.name,d_,Tryz.func314.trans (congrArg some k_)⟩
 f50:=⟨Tryz.f315.name,d_,Tryz.func315.trans (congrArg some k_)⟩
 f57:=⟨Tryz.f357.name,d_,Tryz.func357.trans (congrArg some k_)⟩
 t0:=Tryz.underlying0
 a0:=Tryz.isAgg0
 z0:=Tryz.sizeOf0
 v0:=Tryz.zeroValue0
 t3:=Tryz.underlying3
 a3:=Tryz.isAgg3
 z3:=Tryz.sizeOf3
 v3:=Tryz.zeroValue3
 t4:=Tryz.underlying4
 a4:=Tryz.isAgg4
 z4:=Tryz.sizeOf4
 v4:=Tryz.zeroValue4
 t5:=Tryz.underlying5
 a5:=Tryz.isAgg5
 z5:=Tryz.sizeOf5
 v5:=Tryz.zeroValue5
 t9:=Tryz.underlying9
 a9:=Tryz.isAgg9
 z9:=Tryz.sizeOf9
 v9:=Tryz.zeroValue9
 t22:=Tryz.underlying45
 a22:=Tryz.isAgg45
 z22:=Tryz.sizeOf45
 v22:=Tryz.zeroValue45
 t25:=Tryz.underlying175
 a25:=Tryz.isAgg175
 z25:=Tryz.sizeOf175
 v25:=Tryz.zeroValue175
 t39:=Tryz.underlying121
 a39:=Tryz.isAgg121
 z39:=Tryz.sizeOf121
 v39:=Tryz.zeroValue121
 t45:=Tryz.underlying147
 a45:=Tryz.isAgg147
 z45:=Tryz.sizeOf147
 v45:=Tryz.zeroValue147
 t46:=Tryz.underlying148
 a46:=Tryz.isAgg148
 z46:=Tryz.sizeOf148
 v46:=Tryz.zeroValue148
 t50:=Tryz.underlying152
 a50:=Tryz.isAgg152
 z50:=Tryz.sizeOf152
 v50:=Tryz.zeroValue152
 t53:=Tryz.underlying155
 a53:=Tryz.isAgg155
 z53:=Tryz.sizeOf155
 v53:=Tryz.zeroValue155
 t55:=Tryz.underlying157
 a55:=Tryz.isAgg157
 z55:=Tryz.sizeOf157
 v55:=Tryz.zeroValue157
 t66:=Tryz.underlying191
 a66:=Tryz.isAgg191
 z66:=Tryz.sizeOf191
 v66:=Tryz.zeroValue191
 t70:=Tryz.underlying195
 a70:=Tryz.isAgg195
 z70:=Tryz.sizeOf195
 v70:=Tryz.zeroValue195
 t76:=Tryz.underlying237
 a76:=Tryz.isAgg237
 z76:=Tryz.sizeOf237
 v76:=Tryz.zeroValue237
 t77:=Tryz.underlying238
 a77:=Tryz.isAgg238
 z77:=Tryz.sizeOf238
 v77:=Tryz.zeroValue238}
end Go.Proofs
namespace Go.VZ
open Go Go.V Go.Proofs Go.RowKit Go.Sort TL
variable {B:Nat}{A0:Nat->Nat->Prop}{σ:List (Option Nat)}{h:H}{w:World}
def bC(b:T × T):LA:=(enc b.1).cells++(enc b.2).cells
theorem D9(b:T × T):bC b=[.int .i64 b.1.kind,.str b.1.name,.int .i64 b.1.sort,aQ b.1.kids,.int .i64 b.2.kind,.str b.2.name,.int .i64 b.2.sort,aQ b.2.kids]:=by unfold bC;rw[bB,bB];rfl
theorem zf(b:T × T):(bC b).length=8:=by rw[D9];rfl
theorem Oa(b:T × T):bN b=.agg (bC b):=by rw[D9];rfl
theorem GE(b:T × T):∀c∈bC b,c.one=true:=by intro c a;rw[D9]at a;simp only[ak,dV,or_false]at a;rcases a with rfl|rfl|rfl|rfl|rfl|rfl|rfl|rfl<;>rfl
theorem sP(a:T × T) (l:Lb):jw (a::l)=bC a++jw l:=rfl
theorem sO:∀l:Lb,(jw l).length=8*l.length
 |[]=>rfl
 |a::l=>by rw[sP,aK,zf,sO l,aF];omega
theorem zN{l:Lb}{j c:Nat}(hj:j<l.length) (hc:c<8):(jw l)[8*j+c]?=(bC l[j])[c]?:=by
 induction l generalizing j with
 |nil=>simp at hj
 |cons a l b=>
  have d:=zf a;rw[sP];cases j with
  |zero=>rw[aM o_];simp
  |succ j=>rw[aY o_,show 8*(j+1)+c-(bC a).length=8*j+c by omega,b (by simpa using hj)];simp
theorem zM{l:Lb}{c:AV}(hc:c∈jw l):∃b,c∈bC b:=by simp only[jw,bh]at hc;have⟨b,_,hc⟩:=hc;exact⟨b,hc⟩
structure ElB (A:Nat->Nat->Prop) (w:World) where
 b:T × T
 vs:List Value
 len:vs.length=8
 small:b.1.size<4000000/\b.2.size<4000000
 rel:∀(c:Nat) a v,(bC b)[c]?=some a->vs[c]?=some v->IRel A w a v
theorem Oc{A:Nat->Nat->Prop}{w:World}(x:ElB A w):∀v∈x.vs,v.oneCell'=true:=by intro v d;have⟨c,a⟩:=dR.1 d;have e:=(aB.1 a).1;have g:=x.len;have h:=zf x.b;have f:(bC x.b)[c]?=some (bC x.b)[c]:=aC o_;exact qJ (x.rel c _ v f a) (GE x.b _ (aG _))
theorem Tk{A:Nat->Nat->Prop}{w:World}:∀(c:Nat) a v,(bC (.mk 0 ⟨#[]⟩ 0 [],.mk 0 ⟨#[]⟩ 0 []))[c]?=some a->([.int .i64 0,.string ⟨#[]⟩,.int .i64 0,.slice none 0 0,.int .i64 0,.string ⟨#[]⟩,.int .i64 0,.slice none 0 0]:List Value)[c]?=some v->IRel A w a v:=by
 intro c a v b d;rw[D9]at b;match c,b,d with
 |0,b,d=>simp at b d;subst b;subst d;exact .int _ _
 |1,b,d=>simp at b d;subst b;subst d;exact .str _
 |2,b,d=>simp at b d;subst b;subst d;exact .int _ _
 |3,b,d=>simp at b d;subst b;subst d;exact .islNil
 |4,b,d=>simp at b d;subst b;subst d;exact .int _ _
 |5,b,d=>simp at b d;subst b;subst d;exact .str _
 |6,b,d=>simp at b d;subst b;subst d;exact .int _ _
 |7,b,d=>simp at b d;subst b;subst d;exact .islNil
 |i+8,b,d=>simp at b
instance {A:Nat->Nat->Prop}{w:World}:Inhabited (ElB A w):=⟨⟨(.mk 0 ⟨#[]⟩ 0 [],.mk 0 ⟨#[]⟩ 0 []),_,rfl,d_,Tk⟩⟩
theorem U2{A:Nat->Nat->Prop}{w:World}{vs:Array Value}:∀(l:Lb) (off:Nat),(∀b∈l,b.1.size<4000000/\b.2.size<4000000)->(∀(k:Nat) c v,(jw l)[k]?=some c->vs[off+k]?=some v->IRel A w c v)->off+8*l.length<=vs.size ->
  ∃es:List (ElB A w),es.map ElB.b=l/\∀(j c:Nat) (hj:j<es.length),c<8->vs[off+(8*j+c)]?=(es[j]).vs[c]?
 |[],off,_,_,_=>⟨[],rfl,λj c hj=>by simp at hj⟩
 |a::l,off,hs,hr,hl=>by
  simp only[aF]at hl;have e8:=zf a;obtain⟨es,h1,h2⟩:=U2 l (off+8) (λt ht=>hs t (by simp[ht])) (λk c v hc hv=>hr (8+k) c v (by
   rw[sP,aY o_,show 8+k-(bC a).length=k by omega];exact hc) (by rw[<-fG];exact hv)) o_
  have hg:∀c,c<8->((vs.toList.drop off).take 8)[c]?=vs[off+c]?:=λc hc=>by
   rw[kX hc,bk,bI]
  refine⟨⟨a,(vs.toList.drop off).take 8,by simp;omega,hs a s_,λc x v hx hv=>?_⟩::es,by simp[h1],?_⟩
  ·have hc:c<8:=by have:=(aB.1 hx).1;omega
   rw[hg c hc]at hv;refine hr c x v ?_ hv;have:=zN (l:=a::l) (j:=0) (c:=c) s_ hc;rw[oD,bn]at this;rw[this];exact hx
  intro j c hj hc;cases j with
  |zero=>change vs[off+(8*0+c)]?=((vs.toList.drop off).take 8)[c]?;rw[hg c hc,oD,bn]
  |succ j=>have:=h2 j c (by simpa using hj) hc;rw[show off+(8*(j+1)+c)=off+8+(8*j+c) by omega,this];rfl
theorem G4{A:Nat->Nat->Prop}{w:World}(x:ElB A w):IRel A w (bN x.b) (.agg x.vs.toArray):=by rw[Oa];refine .agg (GE _) (by have:=x.len;have:=zf x.b;simp;omega) λi a v c d=>x.rel i a v c (by simpa using d)
theorem Dt{A:Nat->Nat->Prop}{l:Lb}{k:Nat}{c:AV}{v:Value}(hc:(jw l)[k]?=some c) (r:Rel Tryz.prog A σ h w c v):IRel A w c v:=by have⟨b,a⟩:=zM (aW hc);rw[D9]at a;simp only[ak,dV,or_false]at a;rcases a with rfl|rfl|rfl|rfl|rfl|rfl|rfl|rfl<;>(cases r with|data hd=>exact hd)
theorem W4{A:Nat->Nat->Prop}{w:World}:SWO (ltOf λx y:ElB A w=>x.b.1.cmp y.b.1) where
 irrefl x:=by simp[ltOf,cmp_refl]
 trans x y z h1 h2:=by simp only[ltOf,decide_eq_true_eq]at *;exact cmp_trans h1 h2
 ntrans x y z h1 h2:=by simp only[ltOf,decide_eq_false_iff_not]at *;exact le_trans (x:=z.b.1) (y:=y.b.1) (z:=x.b.1) h2 h1
theorem yG(l:Lb):(vj l).Perm l:=nW l _
theorem KB(l:Lb):wW (vj l):=by
 have:=List.pairwise_mergeSort (le:=λx y:T × T=>!decide (y.1.cmp x.1<0)) (λa b c e d=>by
  simp only[bq,decide_eq_false_iff_not]at *;exact le_trans e d) (λa b=>by
  rw[bZ];simp only[bq,decide_eq_false_iff_not];by_cases h:b.1.cmp a.1<0
  ·right;intro d;have:=cmp_anti a.1 b.1;omega
  exact .inl h) l
 exact this.imp λh=>by simpa[le]using h
theorem Ck [DFlag] (hr:HRel Tryz.prog B A0 σ h w){i0 b c:Nat}{l:Lb}(hs:∀b∈l,b.1.size<4000000/\b.2.size<4000000) (hd:l.Pairwise λa b=>a.1≠b.1) (hid:h[i0]?=some (.cells (jw l) .live)) (hb:σ[i0]?=some (some b)) (hl:l.length<4611686018427387904) :
  Calls Tryz.prog 158 #[.slice (some ⟨b,0,none⟩) l.length c,.func (.func 356) #[] #[]] w (λe w'=>∃v,e=.returned v/\Go.V.eI Tryz.prog B A0 σ h w (.tuple []) (h.set i0 (.cells (jw (vj l)) .live)) v w'):=by
 have⟨b',vs,ty,t,hB,d,q9,q7,hrel⟩:=hr.cells i0 _ .live hid s_;rw[hb]at t;simp only[aA]at t;subst t;have q8:=sO l;have⟨s,N,O⟩:=U2 (A:=Alw Tryz.prog B A0 σ h) (w:=w) (vs:=vs) l 0 hs (λk x v u E=>by rw[bn]at E;exact Dt u (hrel k x v u E)) o_
 have F:s.length=l.length:=by rw[<-N];simp
 have q':b<w.heap.size:=(aN.1 d).1;have q0:∀k o,Alw Tryz.prog B A0 σ h k o->k≠b:=λk o z e=>by subst e;unfold Alw at z;rw[if_neg o_]at z;exact z.1 i0 _ hid hb
 have up:∀(m:Nat) (D:Array Obj) (Q:Array (ElB (Alw Tryz.prog B A0 σ h) w)) (k o:Nat) x,Alw Tryz.prog B A0 σ h k o->w.cell? ⟨k,o,none⟩=some x->(sortWorldK ElB.vs 8 w b 0 m Q D).cell? ⟨k,o,none⟩=some x:=λm D Q k o x z Z=>by have hk:=World.block_lt_of_cell? w _ Z;unfold sortWorldK;rw[cell?_grow _ _ _ (by unfold putRowK putRow mapBlock;simpa using hk),cell?_putRowK_other (h:=q0 k o z)];exact Z
 have S:CmpLays Tryz.prog 356 #[] ElB.vs 8 (λx y:ElB (Alw Tryz.prog B A0 σ h) w=>x.b.1.cmp y.b.1) b 0 s.toArray.size w:=by
  intro m D Q _ x y;have go:∀ {a:AV}{v:Value},IRel (Alw Tryz.prog B A0 σ h) w a v->IRel (λ_ _=>True) (sortWorldK ElB.vs 8 w b 0 m Q D) a v:=λr=>r.mono λk o x z Z=>⟨trivial,up m D Q k o x z Z⟩
  exact Go.VP.Fo x.b y.b x.small.1 y.small.1 ⟨λg a M=>go (hr.gr.1 g a M),λg n M=>by have⟨z',f,q1,q2,t,e2⟩:=hr.tab g n M;exact⟨f,q1,q2,mN t o_,e2⟩⟩ (go (G4 x)) (go (G4 y))
 have hH:HoldsK ElB.vs 8 w b 0 s.toArray:=by
  intro j G;have z0:j<8*l.length:=by simp[size_flatK]at G;omega
  have hd:j/8<s.length:=o_;have M:=O (j/8) (j%8) hd (gM _ o_);rw[show 0+(8*(j/8)+j%8)=j by omega]at M;have h8:=(s[j/8]).len;have q:j%8<8:=gM _ o_;refine⟨?_,by simp[World.frozen?,d]⟩;rw[get_flatK _ _ _ _ (by simpa[size_flatK]using G)];simp only[World.cell?,d,bn,ku,am,if_false,M,id];rw[getElem!_pos s.toArray (j/8) (by simpa using hd)];simp only[nH];rw[getElem!_pos _ _ o_,aC o_]
 have q3:s.toArray.size<4611686018427387904:=by simp;omega
 have I:=AnyQ.slices_SortFunc (P:=Tryz.prog) Tryz.laysSortB 8 Tryz.isAgg84 Tryz.sizeOf84 (ElB.vs (A:=Alw Tryz.prog B A0 σ h) (w:=w)) ElB.len Oc (λx y=>x.b.1.cmp y.b.1) W4 356 #[] b 0 c s.toArray w (enters_of Tryz.func356 k_ rfl) S hH q' q3;change Calls Tryz.prog 158 _ _ _ at I;rw[show s.toArray.size=l.length by simp[F]]at I;refine I.mono ?_;rintro e w' ⟨rfl,p,n,D,hp,q4,rfl⟩;have J:p.size=l.length:=by have:=hp.1;simpa[F]using this
 have hT:p.toList.map ElB.b=vj l:=by
  have p1:(p.toList.map ElB.b).Perm l:=by have:=hp.2.2;rw[show l.length=p.size from J.symm,gp,J,show l.length=s.toArray.size by simp[F],gp]at this;rw[<-N];exact this.map _
  refine MW (p1.trans (yG l).symm) ?_ (KB l) ((p1.pairwise_iff fun {a b}(k:a.1≠b.1)=>λe=>k e.symm).2 hd);unfold wW;rw[eR,fc];intro i j hi G q5;have:=q4 i j (aO _) q5 (by simpa[J]using G);simp only[ltOf,decide_eq_false_iff_not]at this;rw[getElem!_pos p i (by simpa using hi),getElem!_pos p j (by simpa using G)]at this;simpa[le]using this
 obtain⟨f,evs⟩:∃f,f=putCells id 0 (flatK ElB.vs 8 p) vs:=⟨_,rfl⟩
 have U:putRowK ElB.vs 8 w b 0 p=w.setRow b f:=by unfold putRowK putRow;rw[qm _ d,evs]
 have hw:sortWorldK ElB.vs 8 w b 0 n p D=Go.Sort.grow ((w.setRow b f).drewN n) D:=by rw[<-U];rfl
 have X:f.size=vs.size:=by rw[evs];simp[putCells]
 have Y:(vj l).length=l.length:=(yG l).length_eq;have q6:(jw (vj l)).length=8*l.length:=by rw[sO,Y]
 have K:∀(k:Nat) x v,(jw (vj l))[k]?=some x->f[k]?=some v->Rel Tryz.prog (Alw Tryz.prog B A0 σ h) σ h w x v:=by
  intro k x v u E;have hk:k<8*l.length:=by rw[<-q6];exact(aB.1 u).1
  have hd:k/8<p.size:=o_;have q:k%8<8:=gM _ o_;have G:k/8<(vj l).length:=by rw[Y];omega
  have t:=zN G q;rw[show 8*(k/8)+k%8=k by omega,u]at t;have et:(vj l)[k/8]=(p[k/8]).b:=by simp[<-hT]
  rw[et]at t;have ev:v=(p[k/8]).vs[k%8]'(by rw[(p[k/8]).len];exact q):=by rw[evs]at E;simp only[putCells,mK,aO,true_and,bn,size_flatK,Nat.sub_zero,id]at E;rw[aR o_,bf,if_pos o_,get_flatK _ _ _ _ o_,getElem!_pos p _ hd,getElem!_pos _ _ (by rw[(p[k/8]).len];exact q)]at E;simpa using E.symm
  exact .data ((p[k/8]).rel _ _ _ t.symm (by rw[ev];exact aC _))
 have L:∀x∈jw (vj l),x.one=true:=by intro x u;have⟨b,u⟩:=zM u;exact GE b x u
 have k1:=HRel.write hr hid hb d X (cs':=jw (vj l)) o_ L K;have k2:=Step.write (cs':=jw (vj l)) hr hid hb d X;have g:Grows (w.setRow b f) (sortWorldK ElB.vs 8 w b 0 n p D):=by rw[hw];refine⟨rfl,rfl,rfl,by simp[Go.Sort.grow,World.drewN],λk hk=>?_,λ_=>by simp[Go.Sort.grow,World.drewN]⟩;simp only[Go.Sort.grow,World.drewN];exact bw hk
 exact⟨_,rfl,σ,k1.grows g,k2.trans (.grows k1 g),.data (.tuple rfl (λi a v z=>by simp at z))⟩
theorem BW [DFlag]:rI Tryz.prog 158 vl:=by
 intro g h r F c B G σ w j k o b;unfold vl at c;split at c<;>try(cases c;done)
 ·rename_i x;simp only[aA,aD]at c;obtain⟨rfl,rfl⟩:=c;have⟨l⟩:=j;match l,o,b with
  |[u,v],_,b=>obtain⟨p,d,rfl⟩:=Bt (b 0 _ u rfl rfl);have f:=qK (b 1 _ v rfl rfl);subst f;refine(show Calls Tryz.prog 158 #[.slice p 0 d,.func (.func 356) #[] #[]] w _ from AnyF.slices_SortFunc_none (P:=Tryz.prog) {Tryz.laysSortB with} p d _ w).mono ?_;rintro e I ⟨rfl,rfl⟩;exact⟨_,rfl,σ,k,.refl _ _ _,.data (.tuple rfl (λi a v b=>by simp at b))⟩
 rename_i J n;split at c<;>try(cases c;done)
 rename_i e;simp only[aA,aD]at c;obtain⟨rfl,rfl⟩:=c;have⟨q,z,s,t,c3⟩:=e.choose_spec;generalize e.choose=m at q s c3 z t ⊢;subst q;have⟨l⟩:=j;match l,o,b with
 |[u,v],_,b=>
  have f:=qK (b 1 _ v rfl rfl);subst f;have A:=b 0 _ u rfl rfl;cases A with
  |data D=>cases D
  |msl E K L M N y O=>exact Ck k s t c3 E o_
end Go.VZ
namespace Go.Proofs
open Go.Shelf
def Tryz.laysM171_ren:Go.Shelf.Ren:=⟨fun|171=>204|243=>256|246=>302|283=>333|284=>334|285=>335|286=>336|129=>129|317=>366|318=>367|319=>368|320=>369|337=>397|338=>398|n=>n,fun|3=>3|9=>9|2=>2|4=>4|171=>314|0=>0|53=>157|37=>25|5=>5|173=>316|212=>333|51=>155|20=>20|213=>334|46=>121|232=>370|233=>371|n=>n,fun|17=>1|18=>2|19=>3|n=>n⟩
theorem Tryz.laysM171:Go.Proofs.LaysM.n171 Tryz.prog Tryz.laysM171_ren:={
 mixed:=k_
 f129:=Tryz.func129.trans (congrArg some k_)
 f171:=Tryz.func204.trans (congrArg some k_)
 f243:=Tryz.func256.trans (congrArg some k_)
 f246:=Tryz.func302.trans (congrArg some k_)
 f283:=Tryz.func333.trans (congrArg some k_)
 f284:=Tryz.func334.trans (congrArg some k_)
 f285:=Tryz.func335.trans (congrArg some k_)
 f286:=Tryz.func336.trans (congrArg some k_)
 f317:=Tryz.func366.trans (congrArg some k_)
 f318:=Tryz.func367.trans (congrArg some k_)
 f319:=Tryz.func368.trans (congrArg some k_)
 f320:=Tryz.func369.trans (congrArg some k_)
 f337:=Tryz.func397.trans (congrArg some k_)
 f338:=Tryz.func398.trans (congrArg some k_)
 t0:=Tryz.underlying0
 a0:=Tryz.isAgg0
 z0:=Tryz.sizeOf0
 v0:=Tryz.zeroValue0
 t2:=Tryz.underlying2
 a2:=Tryz.isAgg2
 z2:=Tryz.sizeOf2
 v2:=Tryz.zeroValue2
 t3:=Tryz.underlying3
 a3:=Tryz.isAgg3
 z3:=Tryz.sizeOf3
 v3:=Tryz.zeroValue3
 t4:=Tryz.underlying4
 a4:=Tryz.isAgg4
 z4:=Tryz.sizeOf4
 v4:=Tryz.zeroValue4
 t5:=Tryz.underlying5
 a5:=Tryz.isAgg5
 z5:=Tryz.sizeOf5
 v5:=Tryz.zeroValue5
 t9:=Tryz.underlying9
 a9:=Tryz.isAgg9
 z9:=Tryz.sizeOf9
 v9:=Tryz.zeroValue9
 t20:=Tryz.underlying20
 a20:=Tryz.isAgg20
 z20:=Tryz.sizeOf20
 v20:=Tryz.zeroValue20
 t37:=Tryz.underlying25
 a37:=Tryz.isAgg25
 z37:=Tryz.sizeOf25
 v37:=Tryz.zeroValue25
 t46:=Tryz.underlying121
 a46:=Tryz.isAgg121
 z46:=Tryz.sizeOf121
 v46:=Tryz.zeroValue121
 t51:=Tryz.underlying155
 a51:=Tryz.isAgg155
 z51:=Tryz.sizeOf155
 v51:=Tryz.zeroValue155
 t53:=Tryz.underlying157
 a53:=Tryz.isAgg157
 z53:=Tryz.sizeOf157
 v53:=Tryz.zeroValue157
 t171:=Tryz.underlying314
 a171:=Tryz.isAgg314
 z171:=Tryz.sizeOf314
 v171:=Tryz.zeroValue314
 t173:=Tryz.underlying316
 a173:=Tryz.isAgg316
 z173:=Tryz.sizeOf316
 v173:=Tryz.zeroValue316
 t212:=Tryz.underlying333
 a212:=Tryz.isAgg333
 z212:=Tryz.sizeOf333
 v212:=Tryz.zeroValue333
 t213:=Tryz.underlying334
 a213:=Tryz.isAgg334
 z213:=Tryz.sizeOf334
 t232:=Tryz.underlying370
 a232:=Tryz.isAgg370
 z232:=Tryz.sizeOf370
 v232:=Tryz.zeroValue370
 t233:=Tryz.underlying371
 a233:=Tryz.isAgg371
 z233:=Tryz.sizeOf371
 v233:=Tryz.zeroValue371
 g17:=k_
 g18:=k_
 g19:=k_
 i0:=k_
 i2:=k_
 i3:=k_
 i4:=k_
 i5:=k_
 i9:=k_
 i20:=k_
 i37:=k_
 i46:=k_
 i51:=k_
 i53:=k_
 i171:=k_
 i173:=k_
 i212:=k_
 i232:=k_
 i233:=k_
 m17:=k_
 m18:=k_
 m19:=by kernel_rfl}
open Go.RowKit Go.Sort Go.Lib in
theorem Tryz.strconv_Itoa(n:Int) (h0:-9223372036854775808<=n) (h1:n<=9223372036854775807) (w:World) (htab:Lib.TabIs Tryz.prog w "internal/strconv.uint64pow10" .u64 Lib.pow10Tab) :
  Calls Tryz.prog 204 #[.int .i64 n] w λe w'=>e=.returned (.string ⟨(Lib.itoa n).toArray⟩)/\∃k os,w'=grow (w.drewN k) os:=Any.strconv_Itoa Tryz.laysM171 n h0 h1 w htab
end Go.Proofs
namespace Go.VZ
open Go Go.V Go.Proofs Go.RowKit TL
theorem Qe{A:Nat->Nat->Prop}{w:World}(hg:kW A w):Lib.TabIs Tryz.prog w "internal/strconv.uint64pow10" .u64 Lib.pow10Tab:=by
 have⟨k,n,o,e,p⟩:=hg.2 1 20 rfl;have c:∀j,j<20->k[j]?=some (.int .u64 ((10 ^ j:Nat):Int)):=by
  intro j b;have r:=hg.1 1 (.agg ((List.range 20).map λi=>.int .u64 ((10 ^ i:Nat):Int))) rfl;cases r with
  |iptr f q l m=>
   have a:((AV.agg ((List.range 20).map λi=>.int .u64 ((10 ^ i:Nat):Int))).cells)[j]?=some (.int .u64 ((10 ^ j:Nat):Int)):=by simp only[AV.cells,bW,dt b,bf]
   have⟨_,g⟩:=l j _ a;have h:=m j _ a;generalize f j=u at g h;cases h;simpa[World.cell?,e]using g
 unfold Lib.TabIs World.var?;rw[show Tryz.prog.globalNamed "internal/strconv.uint64pow10" = some 1 from by kernel_rfl];simp only[cN,e,aA];apply oh;intro j;by_cases b:j<20
 ·rw[c j b];have:Lib.pow10Tab[j]?=some ((10 ^ j:Nat):Int):=by
   have d:∀j,j<20->Lib.pow10Tab[j]?=some ((10 ^ j:Nat):Int):=by decide +kernel
   exact d j b
  simp[this]
 rw[fO o_,fO];have:Lib.pow10Tab.length=20:=by decide +kernel
 simp;omega
theorem Ii:((List.range 1000).all λm=>decide (Lib.itoa (m:Int)=SK m))=true:=k_
theorem FB{m:Nat}(h:m<1000):Lib.itoa (m:Int)=SK m:=of_decide_eq_true (bM.1 Ii m (dO.2 h))
theorem Cx [DFlag]:rI Tryz.prog 204 yP:=by
 intro d h r t a B v σ w f b i c;unfold yP at a;split at a<;>try(cases a;done)
 rename_i n;split at a<;>try(cases a;done)
 rename_i j;simp only[aA,aD]at a;obtain⟨rfl,rfl⟩:=a;obtain⟨m,rfl⟩:=Int.eq_ofNat_of_zero_le j.1;have⟨l⟩:=f;match l,i,c with
 |[u],_,c=>
  have o:=c 0 _ u rfl rfl;have:u=.int .i64 m:=by
   cases o with
   |data p=>cases p;rfl
  subst this;refine(Tryz.strconv_Itoa (m:Int) o_ o_ w (Qe b.gr)).mono ?_;rintro e x ⟨rfl,k,q,rfl⟩;have g:Grows w (Go.Sort.grow (w.drewN k) q):=by refine⟨rfl,rfl,rfl,by simp[Go.Sort.grow,World.drewN],λk s=>?_,λ_=>by simp[Go.Sort.grow,World.drewN]⟩;simp only[Go.Sort.grow,World.drewN];exact bw s
  refine⟨_,rfl,σ,b.grows g,.grows b g,?_⟩;rw[FB o_,Int.toNat_natCast];exact .data (.str _)
end Go.VZ
namespace Go.VP
open Go Go.V Go.Proofs Tryz Go.RowKit TL
open Go.VZ (gL aa)
theorem u53:C.P.underlying 53=some (.slice 3):=underlying53
theorem s53:cS C.P 53=some 1:=k_
theorem a53:eW C.P 53=some false:=k_
theorem s55:cS C.P 55=some 3:=k_
theorem a55:eW C.P 55=some true:=k_
attribute [go_sem] s53 a53 s55 a55
def bU(l:List Int):LA:=l.map (AV.int .i64)
theorem DG(l:List Int) (x:Ext):fW C.P 53 (.isl (bU l) x)=some (.int .i64 l.length):=by simp[fW,u53,bU]
theorem DQ(l:List Int) (k:Nat) (hk:k<l.length) (x:Ext):bP C.P 53 (.isl (bU l) x) (.int .i64 k)=some (.iptr (.int .i64 l[k]) 0):=by have:(AV.int .i64 l[k]).cells.length=1:=rfl;simp[bP,u53,s3,bU,hk,this]
theorem Nu(n:Int) (h:H):aX C.P h 3 (.iptr (.int .i64 n) 0)=some (.int .i64 n):=by have:(AV.int .i64 n).cells=[.int .i64 n]:=rfl;simp[aX,ae,a3,s3,this]
theorem RJ(n:Int):ay C 130 [.int .i64 n]=some (.bool false):=by
 refine bD func130 rfl λR a=>?_
 simp[go_sem];exact a ⟨.bool false,by simp[ag,cG,f130,go_sem],aL rfl rfl⟩
def CD(a b:Int):Int:=if a<b then -1 else if b<a then 1 else 0
theorem U4(a b:Int):ay C 85 [.int .i64 a,.int .i64 b]=some (.int .i64 (CD a b)):=by
 refine bD func85 rfl λR e=>?_
 have f:∀n h,az C h (.func 130 []) (some [.int .i64 n])=some (.bool false,h):=λn h=>ah rfl rfl s_ (RJ n)
 by_cases c:a<b
 ·simp[go_sem,f,c];exact e ⟨.int .i64 (-1),by simp[ag,cG,f85,go_sem],by rw[CD,if_pos c];exact aL rfl rfl⟩
 by_cases d:b<a
 ·simp[go_sem,f,c,d];exact e ⟨.int .i64 1,by simp[ag,cG,f85,go_sem],by rw[CD,if_neg c,if_pos d];exact aL rfl rfl⟩
 simp[go_sem,f,c,d];exact e ⟨.int .i64 0,by simp[ag,cG,f85,go_sem],by rw[CD,if_neg c,if_neg d];exact aL rfl rfl⟩
theorem Ie(a b:Int) (l m:List Int):gL (a::l) (b::m)=if CD a b≠0 then CD a b else gL l m:=by
 rw[gL,CD];by_cases c:a<b
 ·simp[c]
 by_cases d:b<a
 ·simp[c,d]
 simp[c,d]
def YE(a b:List Int) (m:Nat) (st:PT) (h:H):Prop:=∃k:Nat,m=a.length-k/\k<=a.length/\h=[]/\st.get 0=.isl (bU a) .unk/\st.get 1=.isl (bU b) .unk/\st.get 9=.isl (bU a) .unk/\st.get 10=.int .i64 a.length/\st.get 11=.int .i64 k/\k<=b.length/\gL (a.drop k) (b.drop k)=gL a b
theorem UL(a b:List Int) (ha:a.length<100000000) (_hb:b.length<100000000):ay C 49 [.isl (bU a) .unk,.isl (bU b) .unk]=some (.int .i64 (gL a b)):=by
 refine gu rfl func49 rfl k_ (by simp[f49]) λR y=>?_
 have fin:∀(e:Ex) (u:PT) (h:H) (c:Int),e=.normal\/e=.ret->u.get 4=.int .i64 c->gL a b=c->R e u h:=λe u h c d A B=>y _ _ _ d ⟨.int .i64 c,by simp[ag,cG,f49,A],by rw[B];exact aL rfl rfl⟩
 have v:=DG a .unk;have r:=DG b .unk;simp[go_sem,v];refine bR (YE a b) a.length ⟨0,rfl,aO _,rfl,g_,g_,g_,g_,g_,aO _,rfl⟩ ?_;rintro m u h ⟨k,rfl,G,rfl,s,t,w,g,i,D,d⟩;by_cases n:k<a.length
 ·have j:(k:Int)<a.length:=o_;have o:=DQ a k n .unk;have E:=wS k o_;rw[aH n]at d;by_cases p:k<b.length
  ·have f:¬(b.length:Int)<=k:=o_;have l:=DQ b k p .unk;rw[aH p,Ie]at d;have x:∀h,az C h (.func 85 []) (some [.int .i64 a[k],.int .i64 b[k]])=some (.int .i64 (CD a[k] b[k]),h):=λh=>ah rfl rfl s_ (U4 _ _)
   generalize CD a[k] b[k]=c at *;by_cases z:c=0
   ·rw[if_neg (by simp[z])]at d;simp[go_sem,t,w,g,i,j,o,Nu,r,f,l,x,z,-Int.natCast_add,E];exact⟨a.length-(k+1),o_,k+1,rfl,n,rfl,g_,g_,g_,g_,g_,p,d⟩
   rw[if_pos z]at d;simp[go_sem,t,w,g,i,j,o,Nu,r,f,l,x,z];exact fin _ _ _ c (.inr rfl) g_ d.symm
  have f:(b.length:Int)<=k:=o_;have:b.drop k=[]:=gR o_;rw[this,gL]at d;simp[go_sem,t,w,g,i,j,o,Nu,r,f];exact fin _ _ _ 1 (.inr rfl) g_ d.symm
 have:k=a.length:=o_;subst this;rw[aj]at d;by_cases F:a.length<b.length
 ·have q:(a.length:Int)<b.length:=o_;rw[aH F,gL]at d;simp[go_sem,s,t,g,i,v,r,q];exact fin _ _ _ (-1) (.inr rfl) g_ d.symm
 have q:¬(a.length:Int)<b.length:=o_;have:b.drop a.length=[]:=gR o_;rw[this,gL]at d;simp[go_sem,s,t,g,i,v,r,q];exact fin _ _ _ 0 (.inr rfl) g_ d.symm
abbrev Fq:=List Int × LA × LA
def fC(b:Fq):LA:=[.isl (bU b.1) .unk,.isl b.2.1 .unk,.isl b.2.2 .unk]
def rS(b:Fq):AV:=.agg (fC b)
theorem SA(i:Nat):bH C.P 55 (.ptr i 0) 0=some (.ptr i 0):=k_
attribute [go_sem] SA
theorem U6(b:Fq) (h:H):mX C.P h 55 (rS b)=some (.ptr h.length 0,h++[.cells (fC b) .live]):=by simp[mX,rS,aa,s55,bV,fC]
theorem US{h:H}{i:Nat}{b:Fq}(hi:h[i]?=some (.cells (fC b) .live)):aX C.P h 53 (.ptr i 0)=some (.isl (bU b.1) .unk):=by simp[aX,hi,ae,a53,s53,fC]
theorem SM(a b:Fq) (ha:a.1.length<100000000) (hb:b.1.length<100000000):ay C 48 [rS a,rS b]=some (.int .i64 (gL a.1 b.1)):=by
 refine bD func48 rfl λR e=>?_
 have f:∀h,az C h (.func 49 []) (some [.isl (bU a.1) .unk,.isl (bU b.1) .unk])=some (.int .i64 (gL a.1 b.1),h):=λh=>ah rfl rfl s_ (UL a.1 b.1 ha hb)
 obtain⟨d,c⟩:∃g:H,g=[.cells (fC a) .live,.cells (fC b) .live]:=⟨_,rfl⟩
 have i:d[0]?=some (.cells (fC a) .live):=by rw[c];rfl
 have j:d[1]?=some (.cells (fC b) .live):=by rw[c];rfl
 have k:=US i;have l:=US j;simp[go_sem,U6];rw[<-c];simp[go_sem,k,l,f];exact e ⟨.int .i64 (gL a.1 b.1),by simp[ag,cG,f48,go_sem],aL rfl rfl⟩
end Go.VP
namespace Go.VZ
open Go Go.V Go.Proofs Tryz
theorem Aw:∀a:List Int,gL a a=0
 |[]=>rfl
 |a::l=>by rw[gL,if_neg o_,if_neg o_];exact Aw l
theorem DE:∀a b:List Int,gL a b = -1\/gL a b=0\/gL a b=1
 |[],[]=>.inr (.inl rfl)
 |[],_::_=>.inl rfl
 |_::_,[]=>.inr (.inr rfl)
 |a::l,b::m=>by
  rw[gL];split
  ·exact .inl rfl
  split
  ·exact .inr (.inr rfl)
  exact DE l m
theorem il:∀a b:List Int,gL b a = - gL a b
 |[],[]=>rfl
 |[],_::_=>rfl
 |_::_,[]=>rfl
 |a::l,b::m=>by
  rw[gL,gL];by_cases h1:a<b
  ·rw[if_pos h1,if_neg o_,if_pos h1];rfl
  by_cases h2:b<a
  ·rw[if_pos h2,if_neg h1,if_pos h2]
  rw[if_neg h2,if_neg h1,if_neg h1,if_neg h2];exact il l m
theorem wA:∀ {a b:List Int},gL a b=0->a=b
 |[],[],_=>rfl
 |[],_::_,h=>by simp[gL]at h
 |_::_,[],h=>by simp[gL]at h
 |a::l,b::m,h=>by
  rw[gL]at h;split at h
  ·cases h
  split at h
  ·cases h
  rw[wA h,show a=b by omega]
theorem uC:∀ {a b c:List Int},gL a b<0->gL b c<=0->gL a c<0
 |[],[],_,h,_=>by simp[gL]at h
 |[],_::_,[],_,k=>by simp[gL]at k
 |[],_::_,_::_,_,_=>by simp[gL]
 |_::_,[],_,h,_=>by simp[gL]at h
 |_::_,_::_,[],_,k=>by simp[gL]at k
 |a::l,b::m,c::n,h,k=>by
  rw[gL]at h k ⊢;by_cases h1:a<b
  ·by_cases k1:b<c
   ·rw[if_pos o_];omega
   rw[if_neg k1]at k;by_cases k2:c<b
   ·rw[if_pos k2]at k;omega
   rw[if_pos o_];omega
  rw[if_neg h1]at h;by_cases h2:b<a
  ·rw[if_pos h2]at h;omega
  rw[if_neg h2]at h;by_cases k1:b<c
  ·rw[if_pos o_];omega
  rw[if_neg k1]at k;by_cases k2:c<b
  ·rw[if_pos k2]at k;omega
  rw[if_neg k2]at k;rw[if_neg o_,if_neg o_];exact uC h k
theorem Gn{a b c:List Int}(h:gL a b<=0) (k:gL b c<=0):gL a c<=0:=by
 rcases DE a b with e|e|e
 ·have:=uC (a:=a) (b:=b) (c:=c) o_ k;omega
 ·rw[wA e];exact k
 omega
end Go.VZ
