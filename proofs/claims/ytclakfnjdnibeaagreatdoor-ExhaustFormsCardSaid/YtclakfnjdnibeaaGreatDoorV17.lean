/- A part of the proof. -/
import Derived.Test.YtclakfnjdnibeaaGreatDoorV16
namespace Go.V
open Go
abbrev Run:=FuncId->LA->H->Option (AV × H)
def Run.le(r r':Run):Prop:=∀f args h x,r f args h=some x->r' f args h=some x
section
variable {C:Cfg}{r r':Run}
theorem CT(hl:Run.le r r'){f:FuncId}{args:LA}{h:H}{x:AV × H}(hh:dJ C r f args h=some x):dJ C r' f args h=some x:=by
 unfold dJ at hh ⊢;split at hh
 ·rename_i d;exact hl _ _ _ _ hh
 ·split at hh<;>try(cases hh;done)
  rename_i b c a;rw[hl _ _ _ _ a];exact hh
 ·split at hh<;>try(cases hh;done)
  rename_i b c a;rw[hl _ _ _ _ a];exact hh
 rename_i m d;split at hh<;>try(cases hh;done)
 rename_i g e;split at hh<;>try(cases hh;done)
 rename_i b c a;rw[hl _ _ _ _ a];exact hh
theorem Q9(hl:Run.le r r'){cf:FuncId}{s:PT}{h:H}{o:Oper}{x:AV × H}(hh:opA C r cf s h o=some x):opA C r' cf s h o=some x:=by
 unfold opA at hh ⊢;split at hh<;>try exact hh
 rename_i f d a i;split at hh<;>try(cases hh;done)
 ·rename_i g b l j e;split at hh
  ·rename_i c;rw[if_pos c];exact CT hl hh
  rename_i c;rw[if_neg c];exact hh
 exact hl _ _ _ _ hh
theorem Ba(hl:Run.le r r'){cf:FuncId}{s:PT}{h:H}{o:Oper}{x:AV × H}(hh:opV C r cf s h o=some x):opV C r' cf s h o=some x:=by
 unfold opV at hh ⊢;split
 ·rename_i a;rw[if_pos a]at hh;exact Q9 hl hh
 rename_i a;rw[if_neg a]at hh;exact hh
theorem oF(hl:Run.le r r'){cf:FuncId}{ops:Array Oper}:∀(l:List Oper) (s:PT) (h:H) (x:PT × H),dZ C r cf ops l s h=some x->dZ C r' cf ops l s h=some x:=by
 intro l;induction l with
 |nil=>intro s h x a;exact a
 |cons o l c=>
  intro s h x a;simp only[dZ]at a ⊢;split
  ·rename_i b;rw[if_pos b]at a;split at a<;>try(cases a;done)
   rename_i v e d;rw[Ba hl d];exact c _ _ _ a
  rename_i b;rw[if_neg b]at a;exact c _ _ _ a
theorem Fe(hl:Run.le r r'){cf:FuncId}{ops:Array Oper}:∀(l:List Oper) (s:PT) (h:H) (x:PT × H),dZ C r cf ops l s h=some x->jP C r' cf ops l s h=jP C r cf ops l s h:=by
 intro l;induction l with
 |nil=>intro s h x _;rfl
 |cons o l c=>
  intro s h x a;simp only[dZ]at a;simp only[jP];split at a
  ·rename_i b;split at a<;>try(cases a;done)
   rename_i v e d;rw[if_pos b,if_pos b,Ba hl d];dsimp only;rw[c _ _ _ a]
  rename_i b;rw[if_neg b,if_neg b];exact c _ _ _ a
theorem wO(hl:Run.le r r'){cf:FuncId}{ops:Array Oper}{d:Bool}{s:PT}{h:H}{x:PT × H}(hh:dZ C r cf ops ops.toList s h=some x):oX C r' cf ops d s h=oX C r cf ops d s h:=by unfold oX;rw[Fe hl _ _ _ _ hh]
theorem ya(hl:Run.le r r'){cf:FuncId}{ops:Array Oper}{base i:Nat}{o:Oper}{s:PT}{h:H}{x:AV × H × FP}(hh:gG C r cf ops base i o s h=some x):gG C r' cf ops base i o s h=some x:=by
 unfold gG at hh ⊢;split
 ·rename_i a;rw[if_pos a]at hh;split at hh<;>try(cases hh;done)
  rename_i T d v e b c;rw[b,Ba hl c];exact hh
 rename_i a;rw[if_neg a]at hh;exact hh
theorem ur(hl:Run.le r r'){cf:FuncId}{ops:Array Oper}{base:Nat}:∀(m:Nat) (s:PT) (h:H) (x:PT × H × List FP),kR C r cf ops base m s h=some x->kR C r' cf ops base m s h=some x:=by
 intro m;induction m with
 |zero=>intro s h x a;exact a
 |succ m c=>
  intro s h x a;simp only[kR]at a ⊢;split at a<;>try(cases a;done)
  rename_i g i F o d e;split at a<;>try(cases a;done)
  rename_i v j f b;rw[c _ _ _ d,e];dsimp only;rw[ya hl b];exact a
theorem Nn(hl:Run.le r r'){cf:FuncId}{ops:Array Oper}{s:PT}{h:H}{x:PT × H}(hh:xM C r cf ops s h=some x):xM C r' cf ops s h=some x:=by
 unfold xM at hh ⊢;split
 ·rename_i a;rw[if_pos a]at hh;split at hh<;>try(cases hh;done)
  rename_i c d F b;rw[ur hl _ _ _ _ b];exact hh
 rename_i a;rw[if_neg a]at hh;exact hh
theorem No(hl:Run.le r r'){cf:FuncId}{c:Nat}{ops:Array Oper}{s:PT}{h:H}{x:PT × H}(hh:fu C r cf c ops s h=some x):fu C r' cf c ops s h=some x:=by
 unfold fu at hh ⊢;split
 ·rename_i a;rw[if_pos a]at hh;split at hh<;>try(cases hh;done)
  rename_i e f F b;rw[ur hl _ _ _ _ b];dsimp only;split at hh<;>try(cases hh;done)
  rename_i d;rw[if_pos d];exact oF hl _ _ _ _ hh
 rename_i a;rw[if_neg a]at hh;exact hh
theorem Bn(hl:Run.le r r'){cf:FuncId}{id:Nat}{ops:Array Oper}{s:PT}{h:H}{x:PT × H}(hh:ut C r cf id ops s h=some x):ut C r' cf id ops s h=some x:=by
 unfold ut at hh ⊢;split
 ·rename_i e;rw[e]at hh;exact Nn hl hh
 rename_i e;rw[e]at hh;exact No hl hh
theorem pK(hl:Run.le r r'){cf:FuncId}:∀(n m:Nat),n<=m->∀(c:Code) (s:PT) (h:H) (x:Ex × PT × H),fQ C r cf n c s h=some x->fQ C r' cf m c s h=some x:=by
 intro n;induction n with
 |zero=>intro m _ c s h x a;simp[fQ]at a
 |succ n b=>
  intro m q c s h x a;obtain⟨m,rfl⟩:∃k,m=k+1:=⟨m-1,o_⟩
  have b:=b m o_;cases c<;>simp only[fQ]at a ⊢<;>try exact a
  ·split at a
   ·rename_i f;rw[if_pos f];split at a<;>try(cases a;done)
    rename_i g j o;rw[Bn hl o];exact a
   rename_i f;rw[if_neg f];split at a<;>try(cases a;done)
   rename_i g j o;rw[oF hl _ _ _ _ o];dsimp only;rw[wO hl o];exact a
  ·split at a
   ·rename_i g j l;rw[b _ _ _ _ l];exact b _ _ _ _ a
   rename_i d;rw[b _ _ _ _ a];split
   ·rename_i g j e;exact absurd (a.trans e) (d _ _)
   rfl
  ·split at a<;>try(cases a;done)
   ·rename_i p;exact b _ _ _ _ a
   rename_i p;exact b _ _ _ _ a
  ·split at a
   ·rename_i i g j l;rw[b _ _ _ _ l];exact a
   rename_i d;rw[b _ _ _ _ a];split
   ·rename_i i g j e;exact absurd (a.trans e) (d _ _ _)
   rfl
  ·split at a
   ·rename_i g j l;rw[b _ _ _ _ l];exact b _ _ _ _ a
   rename_i d;rw[b _ _ _ _ a];split
   ·rename_i g j e;exact absurd (a.trans e) (d _ _)
   rfl
  split at a<;>try(cases a;done)
  split at a<;>try(cases a;done)
  rename_i l;rw[if_pos l];split at a<;>try(cases a;done)
  rename_i v t p;rw[hl _ _ _ _ p];exact a
theorem Hz(hl:Run.le r r'){n m i:Nat}(hnm:n<=m){args:LA}{h:H}{x:AV × H}(hh:yN C r n i args h=some x):yN C r' m i args h=some x:=by
 unfold yN at hh ⊢;split at hh<;>try(cases hh;done)
 split at hh<;>try(cases hh;done)
 rename_i c;rw[if_pos c];split at hh<;>try(cases hh;done)
 rename_i d f a;rw[pK hl _ _ hnm _ _ _ _ a];dsimp only;split at hh<;>try(cases hh;done)
 split at hh<;>try(cases hh;done)
 rename_i e g j b;rw[pK hl _ _ hnm _ _ _ _ b];exact hh
theorem iw:∀(n m:Nat),n<=m->Run.le (eL C n) (eL C m):=by
 intro n;induction n with
 |zero=>intro m _ f b h x a;simp[eL]at a
 |succ n d=>
  intro m p f b h x a;obtain⟨m,rfl⟩:∃k,m=k+1:=⟨m-1,o_⟩
  simp only[eL]at a ⊢;split at a
  ·rename_i g;split at a<;>try(cases a;done)
   rename_i i;rw[if_pos i];exact Hz (d m o_) o_ a
  rename_i q r;split at a
  ·rename_i z s;exact a
  split at a<;>try(cases a;done)
  rename_i c t;split at a<;>try(cases a;done)
  rename_i j;rw[if_pos j];split at a<;>try(cases a;done)
  ·rename_i l o e;rw[pK (d m o_) n m o_ _ _ _ _ e];exact a
  rename_i l o e;rw[pK (d m o_) n m o_ _ _ _ _ e];exact a
noncomputable def Call(C:Cfg) (f:FuncId) (args:LA) (h:H):Option (AV × H):=
 open Classical in if hx:∃n x,eL C n f args h=some x then some hx.choose_spec.choose else none
noncomputable def Exe(C:Cfg) (cf:FuncId) (c:Code) (s:PT) (h:H):Option (Ex × PT × H):=
 open Classical in if hx:∃n x,fQ C (eL C n) cf n c s h=some x then some hx.choose_spec.choose else none
theorem Call_iff{f:FuncId}{args:LA}{h:H}{x:AV × H}:Call C f args h=some x↔∃n,eL C n f args h=some x:=by
 unfold Call;constructor
 ·intro d;split at d<;>try(cases d;done)
  rename_i c;simp only[aA]at d;exact⟨c.choose,by rw[<-d];exact c.choose_spec.choose_spec⟩
 rintro⟨n,e⟩;have c:∃n x,eL C n f args h=some x:=⟨n,x,e⟩
 rw[dif_pos c];have g:=c.choose_spec.choose_spec;have a:=iw c.choose (max c.choose n) (eY _ _) _ _ _ _ g;have b:=iw n (max c.choose n) (eJ _ _) _ _ _ _ e;exact a.symm.trans b
theorem Exe_iff{cf:FuncId}{c:Code}{s:PT}{h:H}{x:Ex × PT × H}:Exe C cf c s h=some x↔∃n,fQ C (eL C n) cf n c s h=some x:=by
 unfold Exe;constructor
 ·intro e;split at e<;>try(cases e;done)
  rename_i d;simp only[aA]at e;exact⟨d.choose,by rw[<-e];exact d.choose_spec.choose_spec⟩
 rintro⟨n,f⟩;have d:∃n x,fQ C (eL C n) cf n c s h=some x:=⟨n,x,f⟩
 rw[dif_pos d];have g:=d.choose_spec.choose_spec;have a:=pK (iw d.choose (max d.choose n) (eY _ _)) (cf:=cf) d.choose (max d.choose n) (eY _ _) _ _ _ _ g;have b:=pK (iw n (max d.choose n) (eJ _ _)) (cf:=cf) n (max d.choose n) (eJ _ _) _ _ _ _ f;exact a.symm.trans b
theorem rB(n:Nat):Run.le (eL C n) (Call C):=λ_ _ _ _ a=>Call_iff.2 ⟨n,a⟩
theorem HW{f:FuncId}{args:LA}{h:H}{x:AV × H}(n:Nat) (hh:eL C n f args h=some x):Call C f args h=some x:=Call_iff.2 ⟨n,hh⟩
theorem zg{f:FuncId}{args:LA}{h:H}{x:AV × H}(hh:dJ C (Call C) f args h=some x):∃n,dJ C (eL C n) f args h=some x:=by
 unfold dJ at hh;split at hh
 ·rename_i a;have⟨n,b⟩:=Call_iff.1 hh;exact⟨n,by unfold dJ;rw[a];exact b⟩
 ·rename_i a;split at hh<;>try(cases hh;done)
  rename_i i j c;have⟨n,b⟩:=Call_iff.1 c;exact⟨n,by unfold dJ;rw[a];dsimp only;rw[b];exact hh⟩
 ·rename_i a;split at hh<;>try(cases hh;done)
  rename_i i j c;have⟨n,b⟩:=Call_iff.1 c;exact⟨n,by unfold dJ;rw[a];dsimp only;rw[b];exact hh⟩
 rename_i d a e;split at hh<;>try(cases hh;done)
 rename_i k g;split at hh<;>try(cases hh;done)
 rename_i i j c;have⟨n,b⟩:=Call_iff.1 c;refine⟨n,?_⟩;unfold dJ;split
 ·exact absurd ‹_› d
 ·exact absurd ‹_› a
 ·exact absurd ‹_› e
 rw[g];dsimp only;rw[b];exact hh
theorem C1{cf:FuncId}{s:PT}{h:H}{o:Oper}{x:AV × H}(hh:opV C (Call C) cf s h o=some x):∃n,opV C (eL C n) cf s h o=some x:=by
 unfold opV at hh;split at hh
 ·rename_i j;have:∃n,opA C (eL C n) cf s h o=some x:=by
   unfold opA at hh;split at hh
   case h_8 f args argTypes c=>
    split at hh<;>try(cases hh;done)
    ·rename_i g b l e a;split at hh
     ·rename_i k;have⟨n,d⟩:=zg hh;refine⟨n,?_⟩;unfold opA;rw[c];dsimp only;rw[e,a];dsimp only;rw[if_pos k];exact d
     rename_i k;refine⟨0,?_⟩;unfold opA;rw[c];dsimp only;rw[e,a];dsimp only;rw[if_neg k];exact hh
    rename_i i l e a;have⟨n,d⟩:=Call_iff.1 hh;refine⟨n,?_⟩;unfold opA;rw[c];dsimp only;rw[e,a];exact d
   all_goals first|(cases hh;done)|(refine⟨0,?_⟩;unfold opA;rename_i c;rw[c];exact hh)
  have⟨n,d⟩:=this;exact⟨n,by unfold opV;rw[if_pos j];exact d⟩
 rename_i j;exact⟨0,by unfold opV;rw[if_neg j];exact hh⟩
theorem wc{cf:FuncId}{ops:Array Oper}:∀(l:List Oper) (s:PT) (h:H) (x:PT × H),dZ C (Call C) cf ops l s h=some x->∃n,dZ C (eL C n) cf ops l s h=some x:=by
 intro l;induction l with
 |nil=>intro s h x a;exact⟨0,a⟩
 |cons o l d=>
  intro s h x a;simp only[dZ]at a;split at a
  ·rename_i b;split at a<;>try(cases a;done)
   rename_i v g e;have⟨n,f⟩:=C1 e;have⟨m,c⟩:=d _ _ _ a;refine⟨max n m,?_⟩;simp only[dZ];rw[if_pos b,Ba (iw n (max n m) (eY _ _)) f];exact oF (iw m (max n m) (eJ _ _)) _ _ _ _ c
  rename_i b;have⟨m,c⟩:=d _ _ _ a;refine⟨m,?_⟩;simp only[dZ];rw[if_neg b];exact c
theorem qh{α:Type}{a b:Option α}(h:∀x,a=some x↔b=some x):a=b:=by
 cases a with
 |none=>cases b with
  |none=>rfl
  |some y=>have:=(h y).2 rfl;cases this
 |some x=>exact((h x).1 rfl).symm
section
variable {cf:FuncId}{s:PT}{h:H}
theorem EK:Exe C cf .skip s h=some (.normal,s,h):=Exe_iff.2 ⟨1,rfl⟩
theorem EM(id:Nat):Exe C cf (.exit id) s h=some (.exit id,s,h):=Exe_iff.2 ⟨1,rfl⟩
theorem HU:Exe C cf .ret s h=some (.ret,s,h):=Exe_iff.2 ⟨1,rfl⟩
theorem Bm{cf:FuncId}{ops:Array Oper}{base i:Nat}{o:Oper}{s:PT}{h:H}{x:AV × H × FP}(hh:gG C (Call C) cf ops base i o s h=some x):∃n,gG C (eL C n) cf ops base i o s h=some x:=by
 unfold gG at hh;split at hh
 ·rename_i a;split at hh<;>try(cases hh;done)
  rename_i T e v f b c;have⟨n,d⟩:=C1 c;exact⟨n,by unfold gG;rw[if_pos a,b,d];exact hh⟩
 rename_i a;exact⟨0,by unfold gG;rw[if_neg a];exact hh⟩
theorem yZ{cf:FuncId}{ops:Array Oper}{base:Nat}:∀(m:Nat) (s:PT) (h:H) (x:PT × H × List FP),kR C (Call C) cf ops base m s h=some x->∃n,kR C (eL C n) cf ops base m s h=some x:=by
 intro m;induction m with
 |zero=>intro s h x a;exact⟨0,a⟩
 |succ m i=>
  intro s h x a;simp only[kR]at a;split at a<;>try(cases a;done)
  rename_i l p F o j k;split at a<;>try(cases a;done)
  rename_i v q f d;have⟨b,e⟩:=i _ _ _ j;have⟨c,g⟩:=Bm d;refine⟨max b c,?_⟩;simp only[kR];rw[ur (iw b (max b c) (eY _ _)) _ _ _ _ e,k];dsimp only;rw[ya (iw c (max b c) (eJ _ _)) g];exact a
theorem IW{cf:FuncId}{ops:Array Oper}{s:PT}{h:H}{x:PT × H}(hh:xM C (Call C) cf ops s h=some x):∃n,xM C (eL C n) cf ops s h=some x:=by
 unfold xM at hh;split at hh
 ·rename_i a;split at hh<;>try(cases hh;done)
  rename_i d e F b;have⟨n,c⟩:=yZ _ _ _ _ b;exact⟨n,by unfold xM;rw[if_pos a,c];exact hh⟩
 cases hh
theorem IY{cf:FuncId}{c:Nat}{ops:Array Oper}{s:PT}{h:H}{x:PT × H}(hh:fu C (Call C) cf c ops s h=some x):∃n,fu C (eL C n) cf c ops s h=some x:=by
 unfold fu at hh;split at hh
 ·rename_i f;split at hh<;>try(cases hh;done)
  rename_i j k F g;split at hh<;>try(cases hh;done)
  rename_i i;have⟨a,d⟩:=yZ _ _ _ _ g;have⟨b,e⟩:=wc _ _ _ _ hh;refine⟨max a b,?_⟩;unfold fu;rw[if_pos f,ur (iw a (max a b) (eY _ _)) _ _ _ _ d];dsimp only;rw[if_pos i];exact oF (iw b (max a b) (eJ _ _)) _ _ _ _ e
 cases hh
theorem IX{cf:FuncId}{id:Nat}{ops:Array Oper}{s:PT}{h:H}{x:PT × H}(hh:ut C (Call C) cf id ops s h=some x):∃n,ut C (eL C n) cf id ops s h=some x:=by
 unfold ut at hh;split at hh
 ·rename_i e;have⟨n,a⟩:=IW hh;exact⟨n,by unfold ut;rw[e];exact a⟩
 rename_i e;have⟨n,a⟩:=IY hh;exact⟨n,by unfold ut;rw[e];exact a⟩
theorem EL(id:Nat) (ops:Array Oper) (hm:C.mix cf id=true):Exe C cf (.region id ops true) s h=(match ut C (Call C) cf id ops s h with|some (s',h')=>some (.normal,s',h')|none=>none):=by
 have d:(true&&C.mix cf id)=true:=by simpa using hm
 apply qh;intro x;rw[Exe_iff];constructor
 ·rintro⟨n,a⟩;cases n with
  |zero=>simp[fQ]at a
  |succ n=>
   simp only[fQ]at a;rw[if_pos d]at a;split at a<;>try(cases a;done)
   rename_i e f b;rw[Bn (rB (n+1)) b];exact a
 intro c;split at c<;>try(cases c;done)
 rename_i e f b;have⟨n,a⟩:=IX b;refine⟨n+1,?_⟩;simp only[fQ];rw[if_pos d,Bn (iw n (n+1) o_) a];exact c
theorem P4(id:Nat) (ops:Array Oper) (hm:C.mix cf id=true) (hc:C.cut cf id=none):Exe C cf (.region id ops true) s h=(match xM C (Call C) cf ops s h with|some (s',h')=>some (.normal,s',h')|none=>none):=by rw[EL id ops hm];simp only[ut,hc]
theorem P5(id:Nat) (ops:Array Oper) (c:Nat) (hm:C.mix cf id=true) (hc:C.cut cf id=some c):Exe C cf (.region id ops true) s h=(match fu C (Call C) cf c ops s h with|some (s',h')=>some (.normal,s',h')|none=>none):=by rw[EL id ops hm];simp only[ut,hc]
theorem GL(id:Nat) (ops:Array Oper) (d:Bool) (hm:(d&&C.mix cf id)=false):Exe C cf (.region id ops d) s h=(match dZ C (Call C) cf ops ops.toList s h with|some (s',h')=>if oX C (Call C) cf ops d s h then some (.normal,s',h')else none|none=>none):=by
 have f:¬(d&&C.mix cf id)=true:=by rw[hm];simp
 apply qh;intro x;rw[Exe_iff];constructor
 ·rintro⟨n,a⟩;cases n with
  |zero=>simp[fQ]at a
  |succ n=>
   simp only[fQ]at a;rw[if_neg f]at a;split at a<;>try(cases a;done)
   rename_i g i c;rw[oF (rB (n+1)) _ _ _ _ c];dsimp only;rw[wO (rB (n+1)) c];exact a
 intro e;split at e<;>try(cases e;done)
 rename_i g i c;have⟨n,a⟩:=wc _ _ _ _ c;refine⟨n+1,?_⟩;simp only[fQ];rw[if_neg f];have b:=oF (iw n (n+1) o_) _ _ _ _ a;rw[b];dsimp only;rw[<-wO (rB (n+1)) b];exact e
theorem mj{c:Code}{x:Ex × PT × H}{n m:Nat}(hnm:n<=m) (hn:fQ C (eL C n) cf n c s h=some x):fQ C (eL C (m+1)) cf m c s h=some x:=pK (iw n (m+1) o_) n m hnm _ _ _ _ hn
theorem pu{c:Code}{x:Ex × PT × H}{n:Nat}(hn:fQ C (eL C (n+1)) cf n c s h=some x):Exe C cf c s h=some x:=Exe_iff.2 ⟨n+1,pK (λ_ _ _ _ h=>h) n (n+1) o_ _ _ _ _ hn⟩
theorem P3(a b:Code):Exe C cf (.seq a b) s h=(match Exe C cf a s h with|some (.normal,s',h')=>Exe C cf b s' h'|r=>r):=by
 apply qh;intro x;rw[Exe_iff];constructor
 ·rintro⟨n,c⟩;cases n with
  |zero=>simp[fQ]at c
  |succ n=>
   simp only[fQ]at c;split at c
   ·rename_i g i j;rw[pu j];exact pu c
   rename_i d;rw[pu c];split
   ·rename_i g i e;exact absurd (c.trans e) (d _ _)
   rfl
 intro f;split at f
 ·rename_i g i k;have⟨n,c⟩:=Exe_iff.1 k;have⟨m,l⟩:=Exe_iff.1 f;refine⟨max n m+1,?_⟩;simp only[fQ];rw[mj (eY n m) c];exact mj (eJ n m) l
 rename_i d;have⟨n,c⟩:=Exe_iff.1 f;refine⟨n+1,?_⟩;simp only[fQ];rw[mj (aT n) c];split
 ·rename_i g i e;exact absurd (f.trans e) (d _ _)
 rfl
theorem Mx(c:Operand) (a b:Code):Exe C cf (.cond c a b) s h=(match ev s c with|some (.bool true)=>Exe C cf a s h|some (.bool false)=>Exe C cf b s h|_=>none):=by
 apply qh;intro x;rw[Exe_iff];constructor
 ·rintro⟨n,d⟩;cases n with
  |zero=>simp[fQ]at d
  |succ n=>
   simp only[fQ]at d;split at d<;>try(cases d;done)
   ·rename_i e;rw[e];exact pu d
   rename_i e;rw[e];exact pu d
 intro f;split at f<;>try(cases f;done)
 ·rename_i e;have⟨n,d⟩:=Exe_iff.1 f;exact⟨n+1,by simp only[fQ,e];exact mj (aT n) d⟩
 rename_i e;have⟨n,d⟩:=Exe_iff.1 f;exact⟨n+1,by simp only[fQ,e];exact mj (aT n) d⟩
theorem Jo(id:Nat) (b:Code):Exe C cf (.block id b) s h=(match Exe C cf b s h with|some (.exit i,s',h')=>if i=id then some (.normal,s',h')else some (.exit i,s',h')|r=>r):=by
 apply qh;intro x;rw[Exe_iff];constructor
 ·rintro⟨n,a⟩;cases n with
  |zero=>simp[fQ]at a
  |succ n=>
   simp only[fQ]at a;split at a
   ·rename_i i f g j;rw[pu j];exact a
   rename_i c;rw[pu a];split
   ·rename_i i f g e;exact absurd (a.trans e) (c _ _ _)
   rfl
 intro d;split at d
 ·rename_i i f g k;have⟨n,a⟩:=Exe_iff.1 k;refine⟨n+1,?_⟩;simp only[fQ];rw[mj (aT n) a];exact d
 rename_i c;have⟨n,a⟩:=Exe_iff.1 d;refine⟨n+1,?_⟩;simp only[fQ];rw[mj (aT n) a];split
 ·rename_i i f g e;exact absurd (d.trans e) (c _ _ _)
 rfl
theorem Mw(b:Code):Exe C cf (.loop b) s h=(match Exe C cf b s h with|some (.normal,s',h')=>Exe C cf (.loop b) s' h'|r=>r):=by
 apply qh;intro x;rw[Exe_iff];constructor
 ·rintro⟨n,a⟩;cases n with
  |zero=>simp[fQ]at a
  |succ n=>
   simp only[fQ]at a;split at a
   ·rename_i f g i;rw[pu i];exact pu a
   rename_i c;rw[pu a];split
   ·rename_i f g e;exact absurd (a.trans e) (c _ _)
   rfl
 intro d;split at d
 ·rename_i f g j;have⟨n,a⟩:=Exe_iff.1 j;have⟨m,k⟩:=Exe_iff.1 d;refine⟨max n m+1,?_⟩;simp only[fQ];rw[mj (eY n m) a];exact mj (eJ n m) k
 rename_i c;have⟨n,a⟩:=Exe_iff.1 d;refine⟨n+1,?_⟩;simp only[fQ];rw[mj (aT n) a];split
 ·rename_i f g e;exact absurd (d.trans e) (c _ _)
 rfl
end
theorem HX{f:FuncId}{args:LA}{h:H}{fn:Func}{c:Code}(hp:C.prim f args h=none) (hf:C.P.funcs[f]?=some fn) (hb:fn.body=some c) (hok:fv C f fn.ntmps false c=true) (hn:args.length<=fn.ntmps) :
  Call C f args h=(match Exe C f c (mF 0 args .leaf) h with
   |some (.normal,s,h')|some (.ret,s,h')=>(match ag C.P s h' fn.results.toList with|some v=>some (v,h')|none=>none)
   |_=>none):=by
 apply qh;intro x;rw[Call_iff];constructor
 ·rintro⟨n,a⟩;cases n with
  |zero=>simp[eL]at a
  |succ n=>
   simp only[eL,hp,hf,hb]at a;rw[if_pos ⟨hok,hn⟩]at a;split at a<;>try(cases a;done)
   ·rename_i e g b;rw[Exe_iff.2 ⟨n,b⟩];exact a
   rename_i e g b;rw[Exe_iff.2 ⟨n,b⟩];exact a
 intro a;split at a<;>try(cases a;done)
 all_goals
  rename_i e g b;have⟨n,d⟩:=Exe_iff.1 b;refine⟨n+1,?_⟩;simp only[eL,hp,hf,hb];rw[if_pos ⟨hok,hn⟩,d];exact a
theorem tM{f:FuncId}{args:LA}{h:H}{fn:Func}{z:AV × H}(hf:C.P.funcs[f]?=some fn) (hp:C.prim f args h=some z):Call C f args h=some z:=
 Call_iff.2 ⟨1,by simp only[eL,hf,hp]⟩
end
theorem HV [DFlag] {C:Cfg}(hP:Good C.P) (hprim:∀f,rI C.P f (C.prim f)):Ok C.P (Call C) where
 fn:=λf a h r b e c=>by have⟨n,d⟩:=Call_iff.1 c;exact(zP hP hprim n).fn f a h r b e d
 yl:=λi a h r b c=>by have⟨n,d⟩:=Call_iff.1 c;exact(zP hP hprim n).yl i a h r b d
end Go.V
