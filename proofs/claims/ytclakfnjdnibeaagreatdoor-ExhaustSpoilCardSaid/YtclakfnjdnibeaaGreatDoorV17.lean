/- A part of the proof. -/
import Derived.Test.YtclakfnjdnibeaaGreatDoorV16
namespace Go.V
open Go
abbrev Run:=FuncId->LA->H->Option (AV × H)
def Run.le(r r':Run):Prop:=∀f args h x,r f args h=some x->r' f args h=some x
section
variable {C:Cfg}{r r':Run}
theorem Dy(hl:Run.le r r'){f:FuncId}{args:LA}{h:H}{x:AV × H}(hh:dM C r f args h=some x):dM C r' f args h=some x:=by
 unfold dM at hh ⊢;split at hh
 ·rename_i d;exact hl _ _ _ _ hh
 ·split at hh<;>try(cases hh;done)
  rename_i b c a;rw[hl _ _ _ _ a];exact hh
 ·split at hh<;>try(cases hh;done)
  rename_i b c a;rw[hl _ _ _ _ a];exact hh
 rename_i m d;split at hh<;>try(cases hh;done)
 rename_i g e;split at hh<;>try(cases hh;done)
 rename_i b c a;rw[hl _ _ _ _ a];exact hh
theorem UP(hl:Run.le r r'){cf:FuncId}{s:PT}{h:H}{o:Oper}{x:AV × H}(hh:opA C r cf s h o=some x):opA C r' cf s h o=some x:=by
 unfold opA at hh ⊢;split at hh<;>try exact hh
 rename_i f d a i;split at hh<;>try(cases hh;done)
 ·rename_i g b l j e;split at hh
  ·rename_i c;rw[if_pos c];exact Dy hl hh
  rename_i c;rw[if_neg c];exact hh
 exact hl _ _ _ _ hh
theorem Cv(hl:Run.le r r'){cf:FuncId}{s:PT}{h:H}{o:Oper}{x:AV × H}(hh:opV C r cf s h o=some x):opV C r' cf s h o=some x:=by
 unfold opV at hh ⊢;split
 ·rename_i a;rw[if_pos a]at hh;exact UP hl hh
 rename_i a;rw[if_neg a]at hh;exact hh
theorem og(hl:Run.le r r'){cf:FuncId}{ops:Array Oper}:∀(l:List Oper) (s:PT) (h:H) (x:PT × H),dz C r cf ops l s h=some x->dz C r' cf ops l s h=some x:=by
 intro l;induction l with
 |nil=>intro s h x a;exact a
 |cons o l c=>
  intro s h x a;simp only[dz]at a ⊢;split
  ·rename_i b;rw[if_pos b]at a;split at a<;>try(cases a;done)
   rename_i v e d;rw[Cv hl d];exact c _ _ _ a
  rename_i b;rw[if_neg b]at a;exact c _ _ _ a
theorem Hb(hl:Run.le r r'){cf:FuncId}{ops:Array Oper}:∀(l:List Oper) (s:PT) (h:H) (x:PT × H),dz C r cf ops l s h=some x->jp C r' cf ops l s h=jp C r cf ops l s h:=by
 intro l;induction l with
 |nil=>intro s h x _;rfl
 |cons o l c=>
  intro s h x a;simp only[dz]at a;simp only[jp];split at a
  ·rename_i b;split at a<;>try(cases a;done)
   rename_i v e d;rw[if_pos b,if_pos b,Cv hl d];dsimp only;rw[c _ _ _ a]
  rename_i b;rw[if_neg b,if_neg b];exact c _ _ _ a
theorem xj(hl:Run.le r r'){cf:FuncId}{ops:Array Oper}{d:Bool}{s:PT}{h:H}{x:PT × H}(hh:dz C r cf ops ops.toList s h=some x):pN C r' cf ops d s h=pN C r cf ops d s h:=by unfold pN;rw[Hb hl _ _ _ _ hh]
theorem AN(hl:Run.le r r'){cf:FuncId}{ops:Array Oper}{base i:Nat}{o:Oper}{s:PT}{h:H}{x:AV × H × FP}(hh:gg C r cf ops base i o s h=some x):gg C r' cf ops base i o s h=some x:=by
 unfold gg at hh ⊢;split
 ·rename_i a;rw[if_pos a]at hh;split at hh<;>try(cases hh;done)
  rename_i T d v e b c;rw[b,Cv hl c];exact hh
 rename_i a;rw[if_neg a]at hh;exact hh
theorem wJ(hl:Run.le r r'){cf:FuncId}{ops:Array Oper}{base:Nat}:∀(m:Nat) (s:PT) (h:H) (x:PT × H × List FP),lM C r cf ops base m s h=some x->lM C r' cf ops base m s h=some x:=by
 intro m;induction m with
 |zero=>intro s h x a;exact a
 |succ m c=>
  intro s h x a;simp only[lM]at a ⊢;split at a<;>try(cases a;done)
  rename_i g i F o d e;split at a<;>try(cases a;done)
  rename_i v j f b;rw[c _ _ _ d,e];dsimp only;rw[AN hl b];exact a
theorem Qj(hl:Run.le r r'){cf:FuncId}{ops:Array Oper}{s:PT}{h:H}{x:PT × H}(hh:ym C r cf ops s h=some x):ym C r' cf ops s h=some x:=by
 unfold ym at hh ⊢;split
 ·rename_i a;rw[if_pos a]at hh;split at hh<;>try(cases hh;done)
  rename_i c d F b;rw[wJ hl _ _ _ _ b];exact hh
 rename_i a;rw[if_neg a]at hh;exact hh
theorem Qk(hl:Run.le r r'){cf:FuncId}{c:Nat}{ops:Array Oper}{s:PT}{h:H}{x:PT × H}(hh:gM C r cf c ops s h=some x):gM C r' cf c ops s h=some x:=by
 unfold gM at hh ⊢;split
 ·rename_i a;rw[if_pos a]at hh;split at hh<;>try(cases hh;done)
  rename_i e f F b;rw[wJ hl _ _ _ _ b];dsimp only;split at hh<;>try(cases hh;done)
  rename_i d;rw[if_pos d];exact og hl _ _ _ _ hh
 rename_i a;rw[if_neg a]at hh;exact hh
theorem C9(hl:Run.le r r'){cf:FuncId}{id:Nat}{ops:Array Oper}{s:PT}{h:H}{x:PT × H}(hh:wK C r cf id ops s h=some x):wK C r' cf id ops s h=some x:=by
 unfold wK at hh ⊢;split
 ·rename_i e;rw[e]at hh;exact Qj hl hh
 rename_i e;rw[e]at hh;exact Qk hl hh
theorem pz(hl:Run.le r r'){cf:FuncId}:∀(n m:Nat),n<=m->∀(c:Code) (s:PT) (h:H) (x:Ex × PT × H),fu C r cf n c s h=some x->fu C r' cf m c s h=some x:=by
 intro n;induction n with
 |zero=>intro m _ c s h x a;simp[fu]at a
 |succ n b=>
  intro m q c s h x a;obtain⟨m,rfl⟩:∃k,m=k+1:=⟨m-1,o_⟩
  have b:=b m o_;cases c<;>simp only[fu]at a ⊢<;>try exact a
  ·split at a
   ·rename_i f;rw[if_pos f];split at a<;>try(cases a;done)
    rename_i g j o;rw[C9 hl o];exact a
   rename_i f;rw[if_neg f];split at a<;>try(cases a;done)
   rename_i g j o;rw[og hl _ _ _ _ o];dsimp only;rw[xj hl o];exact a
  ·split at a
   ·rename_i g j l;rw[b _ _ _ _ l];exact b _ _ _ _ a
   rename_i d;rw[b _ _ _ _ a];split
   ·rename_i g j e;exact absurd (a.trans e) (d _ _)
   rfl
  ·split at a<;>try(cases a;done)
   ·rename_i p;exact b _ _ _ _ a
   rename_i p;exact b _ _ _ _ a
  ·split at a
   ·rename_i i g j l;rw[b _ _ _ _ l];exact a
   rename_i d;rw[b _ _ _ _ a];split
   ·rename_i i g j e;exact absurd (a.trans e) (d _ _ _)
   rfl
  ·split at a
   ·rename_i g j l;rw[b _ _ _ _ l];exact b _ _ _ _ a
   rename_i d;rw[b _ _ _ _ a];split
   ·rename_i g j e;exact absurd (a.trans e) (d _ _)
   rfl
  split at a<;>try(cases a;done)
  split at a<;>try(cases a;done)
  rename_i l;rw[if_pos l];split at a<;>try(cases a;done)
  rename_i v t p;rw[hl _ _ _ _ p];exact a
theorem J6(hl:Run.le r r'){n m i:Nat}(hnm:n<=m){args:LA}{h:H}{x:AV × H}(hh:AC C r n i args h=some x):AC C r' m i args h=some x:=by
 unfold AC at hh ⊢;split at hh<;>try(cases hh;done)
 split at hh<;>try(cases hh;done)
 rename_i c;rw[if_pos c];split at hh<;>try(cases hh;done)
 rename_i d f a;rw[pz hl _ _ hnm _ _ _ _ a];dsimp only;split at hh<;>try(cases hh;done)
 split at hh<;>try(cases hh;done)
 rename_i e g j b;rw[pz hl _ _ hnm _ _ _ _ b];exact hh
theorem jX:∀(n m:Nat),n<=m->Run.le (fA C n) (fA C m):=by
 intro n;induction n with
 |zero=>intro m _ f b h x a;simp[fA]at a
 |succ n d=>
  intro m p f b h x a;obtain⟨m,rfl⟩:∃k,m=k+1:=⟨m-1,o_⟩
  simp only[fA]at a ⊢;split at a
  ·rename_i g;split at a<;>try(cases a;done)
   rename_i i;rw[if_pos i];exact J6 (d m o_) o_ a
  rename_i q r;split at a
  ·rename_i z s;exact a
  split at a<;>try(cases a;done)
  rename_i c t;split at a<;>try(cases a;done)
  rename_i j;rw[if_pos j];split at a<;>try(cases a;done)
  ·rename_i l o e;rw[pz (d m o_) n m o_ _ _ _ _ e];exact a
  rename_i l o e;rw[pz (d m o_) n m o_ _ _ _ _ e];exact a
noncomputable def Call(C:Cfg) (f:FuncId) (args:LA) (h:H):Option (AV × H):=
 open Classical in if hx:∃n x,fA C n f args h=some x then some hx.choose_spec.choose else none
noncomputable def Exe(C:Cfg) (cf:FuncId) (c:Code) (s:PT) (h:H):Option (Ex × PT × H):=
 open Classical in if hx:∃n x,fu C (fA C n) cf n c s h=some x then some hx.choose_spec.choose else none
theorem Call_iff{f:FuncId}{args:LA}{h:H}{x:AV × H}:Call C f args h=some x↔∃n,fA C n f args h=some x:=by
 unfold Call;constructor
 ·intro d;split at d<;>try(cases d;done)
  rename_i c;simp only[aA]at d;exact⟨c.choose,by rw[<-d];exact c.choose_spec.choose_spec⟩
 rintro⟨n,e⟩;have c:∃n x,fA C n f args h=some x:=⟨n,x,e⟩
 rw[dif_pos c];have g:=c.choose_spec.choose_spec;have a:=jX c.choose (max c.choose n) (fN _ _) _ _ _ _ g;have b:=jX n (max c.choose n) (ey _ _) _ _ _ _ e;exact a.symm.trans b
theorem Exe_iff{cf:FuncId}{c:Code}{s:PT}{h:H}{x:Ex × PT × H}:Exe C cf c s h=some x↔∃n,fu C (fA C n) cf n c s h=some x:=by
 unfold Exe;constructor
 ·intro e;split at e<;>try(cases e;done)
  rename_i d;simp only[aA]at e;exact⟨d.choose,by rw[<-e];exact d.choose_spec.choose_spec⟩
 rintro⟨n,f⟩;have d:∃n x,fu C (fA C n) cf n c s h=some x:=⟨n,x,f⟩
 rw[dif_pos d];have g:=d.choose_spec.choose_spec;have a:=pz (jX d.choose (max d.choose n) (fN _ _)) (cf:=cf) d.choose (max d.choose n) (fN _ _) _ _ _ _ g;have b:=pz (jX n (max d.choose n) (ey _ _)) (cf:=cf) n (max d.choose n) (ey _ _) _ _ _ _ f;exact a.symm.trans b
theorem sH(n:Nat):Run.le (fA C n) (Call C):=λ_ _ _ _ a=>Call_iff.2 ⟨n,a⟩
theorem Jc{f:FuncId}{args:LA}{h:H}{x:AV × H}(n:Nat) (hh:fA C n f args h=some x):Call C f args h=some x:=Call_iff.2 ⟨n,hh⟩
theorem A4{f:FuncId}{args:LA}{h:H}{x:AV × H}(hh:dM C (Call C) f args h=some x):∃n,dM C (fA C n) f args h=some x:=by
 unfold dM at hh;split at hh
 ·rename_i a;have⟨n,b⟩:=Call_iff.1 hh;exact⟨n,by unfold dM;rw[a];exact b⟩
 ·rename_i a;split at hh<;>try(cases hh;done)
  rename_i i j c;have⟨n,b⟩:=Call_iff.1 c;exact⟨n,by unfold dM;rw[a];dsimp only;rw[b];exact hh⟩
 ·rename_i a;split at hh<;>try(cases hh;done)
  rename_i i j c;have⟨n,b⟩:=Call_iff.1 c;exact⟨n,by unfold dM;rw[a];dsimp only;rw[b];exact hh⟩
 rename_i d a e;split at hh<;>try(cases hh;done)
 rename_i k g;split at hh<;>try(cases hh;done)
 rename_i i j c;have⟨n,b⟩:=Call_iff.1 c;refine⟨n,?_⟩;unfold dM;split
 ·exact absurd ‹_› d
 ·exact absurd ‹_› a
 ·exact absurd ‹_› e
 rw[g];dsimp only;rw[b];exact hh
theorem EW{cf:FuncId}{s:PT}{h:H}{o:Oper}{x:AV × H}(hh:opV C (Call C) cf s h o=some x):∃n,opV C (fA C n) cf s h o=some x:=by
 unfold opV at hh;split at hh
 ·rename_i j;have:∃n,opA C (fA C n) cf s h o=some x:=by
   unfold opA at hh;split at hh
   case h_8 f args argTypes c=>
    split at hh<;>try(cases hh;done)
    ·rename_i g b l e a;split at hh
     ·rename_i k;have⟨n,d⟩:=A4 hh;refine⟨n,?_⟩;unfold opA;rw[c];dsimp only;rw[e,a];dsimp only;rw[if_pos k];exact d
     rename_i k;refine⟨0,?_⟩;unfold opA;rw[c];dsimp only;rw[e,a];dsimp only;rw[if_neg k];exact hh
    rename_i i l e a;have⟨n,d⟩:=Call_iff.1 hh;refine⟨n,?_⟩;unfold opA;rw[c];dsimp only;rw[e,a];exact d
   all_goals first|(cases hh;done)|(refine⟨0,?_⟩;unfold opA;rename_i c;rw[c];exact hh)
  have⟨n,d⟩:=this;exact⟨n,by unfold opV;rw[if_pos j];exact d⟩
 rename_i j;exact⟨0,by unfold opV;rw[if_neg j];exact hh⟩
theorem yF{cf:FuncId}{ops:Array Oper}:∀(l:List Oper) (s:PT) (h:H) (x:PT × H),dz C (Call C) cf ops l s h=some x->∃n,dz C (fA C n) cf ops l s h=some x:=by
 intro l;induction l with
 |nil=>intro s h x a;exact⟨0,a⟩
 |cons o l d=>
  intro s h x a;simp only[dz]at a;split at a
  ·rename_i b;split at a<;>try(cases a;done)
   rename_i v g e;have⟨n,f⟩:=EW e;have⟨m,c⟩:=d _ _ _ a;refine⟨max n m,?_⟩;simp only[dz];rw[if_pos b,Cv (jX n (max n m) (fN _ _)) f];exact og (jX m (max n m) (ey _ _)) _ _ _ _ c
  rename_i b;have⟨m,c⟩:=d _ _ _ a;refine⟨m,?_⟩;simp only[dz];rw[if_neg b];exact c
theorem rQ{α:Type}{a b:Option α}(h:∀x,a=some x↔b=some x):a=b:=by
 cases a with
 |none=>cases b with
  |none=>rfl
  |some y=>have:=(h y).2 rfl;cases this
 |some x=>exact((h x).1 rfl).symm
section
variable {cf:FuncId}{s:PT}{h:H}
theorem GG:Exe C cf .skip s h=some (.normal,s,h):=Exe_iff.2 ⟨1,rfl⟩
theorem GI(id:Nat):Exe C cf (.exit id) s h=some (.exit id,s,h):=Exe_iff.2 ⟨1,rfl⟩
theorem Ja:Exe C cf .ret s h=some (.ret,s,h):=Exe_iff.2 ⟨1,rfl⟩
theorem C8{cf:FuncId}{ops:Array Oper}{base i:Nat}{o:Oper}{s:PT}{h:H}{x:AV × H × FP}(hh:gg C (Call C) cf ops base i o s h=some x):∃n,gg C (fA C n) cf ops base i o s h=some x:=by
 unfold gg at hh;split at hh
 ·rename_i a;split at hh<;>try(cases hh;done)
  rename_i T e v f b c;have⟨n,d⟩:=EW c;exact⟨n,by unfold gg;rw[if_pos a,b,d];exact hh⟩
 rename_i a;exact⟨0,by unfold gg;rw[if_neg a];exact hh⟩
theorem AM{cf:FuncId}{ops:Array Oper}{base:Nat}:∀(m:Nat) (s:PT) (h:H) (x:PT × H × List FP),lM C (Call C) cf ops base m s h=some x->∃n,lM C (fA C n) cf ops base m s h=some x:=by
 intro m;induction m with
 |zero=>intro s h x a;exact⟨0,a⟩
 |succ m i=>
  intro s h x a;simp only[lM]at a;split at a<;>try(cases a;done)
  rename_i l p F o j k;split at a<;>try(cases a;done)
  rename_i v q f d;have⟨b,e⟩:=i _ _ _ j;have⟨c,g⟩:=C8 d;refine⟨max b c,?_⟩;simp only[lM];rw[wJ (jX b (max b c) (fN _ _)) _ _ _ _ e,k];dsimp only;rw[AN (jX c (max b c) (ey _ _)) g];exact a
theorem Ka{cf:FuncId}{ops:Array Oper}{s:PT}{h:H}{x:PT × H}(hh:ym C (Call C) cf ops s h=some x):∃n,ym C (fA C n) cf ops s h=some x:=by
 unfold ym at hh;split at hh
 ·rename_i a;split at hh<;>try(cases hh;done)
  rename_i d e F b;have⟨n,c⟩:=AM _ _ _ _ b;exact⟨n,by unfold ym;rw[if_pos a,c];exact hh⟩
 cases hh
theorem Kc{cf:FuncId}{c:Nat}{ops:Array Oper}{s:PT}{h:H}{x:PT × H}(hh:gM C (Call C) cf c ops s h=some x):∃n,gM C (fA C n) cf c ops s h=some x:=by
 unfold gM at hh;split at hh
 ·rename_i f;split at hh<;>try(cases hh;done)
  rename_i j k F g;split at hh<;>try(cases hh;done)
  rename_i i;have⟨a,d⟩:=AM _ _ _ _ g;have⟨b,e⟩:=yF _ _ _ _ hh;refine⟨max a b,?_⟩;unfold gM;rw[if_pos f,wJ (jX a (max a b) (fN _ _)) _ _ _ _ d];dsimp only;rw[if_pos i];exact og (jX b (max a b) (ey _ _)) _ _ _ _ e
 cases hh
theorem Kb{cf:FuncId}{id:Nat}{ops:Array Oper}{s:PT}{h:H}{x:PT × H}(hh:wK C (Call C) cf id ops s h=some x):∃n,wK C (fA C n) cf id ops s h=some x:=by
 unfold wK at hh;split at hh
 ·rename_i e;have⟨n,a⟩:=Ka hh;exact⟨n,by unfold wK;rw[e];exact a⟩
 rename_i e;have⟨n,a⟩:=Kc hh;exact⟨n,by unfold wK;rw[e];exact a⟩
theorem GH(id:Nat) (ops:Array Oper) (hm:C.mix cf id=true):Exe C cf (.region id ops true) s h=(match wK C (Call C) cf id ops s h with|some (s',h')=>some (.normal,s',h')|none=>none):=by
 have d:(true&&C.mix cf id)=true:=by simpa using hm
 apply rQ;intro x;rw[Exe_iff];constructor
 ·rintro⟨n,a⟩;cases n with
  |zero=>simp[fu]at a
  |succ n=>
   simp only[fu]at a;rw[if_pos d]at a;split at a<;>try(cases a;done)
   rename_i e f b;rw[C9 (sH (n+1)) b];exact a
 intro c;split at c<;>try(cases c;done)
 rename_i e f b;have⟨n,a⟩:=Kb b;refine⟨n+1,?_⟩;simp only[fu];rw[if_pos d,C9 (jX n (n+1) o_) a];exact c
theorem S8(id:Nat) (ops:Array Oper) (hm:C.mix cf id=true) (hc:C.cut cf id=none):Exe C cf (.region id ops true) s h=(match ym C (Call C) cf ops s h with|some (s',h')=>some (.normal,s',h')|none=>none):=by rw[GH id ops hm];simp only[wK,hc]
theorem S9(id:Nat) (ops:Array Oper) (c:Nat) (hm:C.mix cf id=true) (hc:C.cut cf id=some c):Exe C cf (.region id ops true) s h=(match gM C (Call C) cf c ops s h with|some (s',h')=>some (.normal,s',h')|none=>none):=by rw[GH id ops hm];simp only[wK,hc]
theorem IM(id:Nat) (ops:Array Oper) (d:Bool) (hm:(d&&C.mix cf id)=false):Exe C cf (.region id ops d) s h=(match dz C (Call C) cf ops ops.toList s h with|some (s',h')=>if pN C (Call C) cf ops d s h then some (.normal,s',h')else none|none=>none):=by
 have f:¬(d&&C.mix cf id)=true:=by rw[hm];simp
 apply rQ;intro x;rw[Exe_iff];constructor
 ·rintro⟨n,a⟩;cases n with
  |zero=>simp[fu]at a
  |succ n=>
   simp only[fu]at a;rw[if_neg f]at a;split at a<;>try(cases a;done)
   rename_i g i c;rw[og (sH (n+1)) _ _ _ _ c];dsimp only;rw[xj (sH (n+1)) c];exact a
 intro e;split at e<;>try(cases e;done)
 rename_i g i c;have⟨n,a⟩:=yF _ _ _ _ c;refine⟨n+1,?_⟩;simp only[fu];rw[if_neg f];have b:=og (jX n (n+1) o_) _ _ _ _ a;rw[b];dsimp only;rw[<-xj (sH (n+1)) b];exact e
theorem nc{c:Code}{x:Ex × PT × H}{n m:Nat}(hnm:n<=m) (hn:fu C (fA C n) cf n c s h=some x):fu C (fA C (m+1)) cf m c s h=some x:=pz (jX n (m+1) o_) n m hnm _ _ _ _ hn
theorem qY{c:Code}{x:Ex × PT × H}{n:Nat}(hn:fu C (fA C (n+1)) cf n c s h=some x):Exe C cf c s h=some x:=Exe_iff.2 ⟨n+1,pz (λ_ _ _ _ h=>h) n (n+1) o_ _ _ _ _ hn⟩
theorem S7(a b:Code):Exe C cf (.seq a b) s h=(match Exe C cf a s h with|some (.normal,s',h')=>Exe C cf b s' h'|r=>r):=by
 apply rQ;intro x;rw[Exe_iff];constructor
 ·rintro⟨n,c⟩;cases n with
  |zero=>simp[fu]at c
  |succ n=>
   simp only[fu]at c;split at c
   ·rename_i g i j;rw[qY j];exact qY c
   rename_i d;rw[qY c];split
   ·rename_i g i e;exact absurd (c.trans e) (d _ _)
   rfl
 intro f;split at f
 ·rename_i g i k;have⟨n,c⟩:=Exe_iff.1 k;have⟨m,l⟩:=Exe_iff.1 f;refine⟨max n m+1,?_⟩;simp only[fu];rw[nc (fN n m) c];exact nc (ey n m) l
 rename_i d;have⟨n,c⟩:=Exe_iff.1 f;refine⟨n+1,?_⟩;simp only[fu];rw[nc (aR n) c];split
 ·rename_i g i e;exact absurd (f.trans e) (d _ _)
 rfl
theorem Po(c:Operand) (a b:Code):Exe C cf (.cond c a b) s h=(match ev s c with|some (.bool true)=>Exe C cf a s h|some (.bool false)=>Exe C cf b s h|_=>none):=by
 apply rQ;intro x;rw[Exe_iff];constructor
 ·rintro⟨n,d⟩;cases n with
  |zero=>simp[fu]at d
  |succ n=>
   simp only[fu]at d;split at d<;>try(cases d;done)
   ·rename_i e;rw[e];exact qY d
   rename_i e;rw[e];exact qY d
 intro f;split at f<;>try(cases f;done)
 ·rename_i e;have⟨n,d⟩:=Exe_iff.1 f;exact⟨n+1,by simp only[fu,e];exact nc (aR n) d⟩
 rename_i e;have⟨n,d⟩:=Exe_iff.1 f;exact⟨n+1,by simp only[fu,e];exact nc (aR n) d⟩
theorem MC(id:Nat) (b:Code):Exe C cf (.block id b) s h=(match Exe C cf b s h with|some (.exit i,s',h')=>if i=id then some (.normal,s',h')else some (.exit i,s',h')|r=>r):=by
 apply rQ;intro x;rw[Exe_iff];constructor
 ·rintro⟨n,a⟩;cases n with
  |zero=>simp[fu]at a
  |succ n=>
   simp only[fu]at a;split at a
   ·rename_i i f g j;rw[qY j];exact a
   rename_i c;rw[qY a];split
   ·rename_i i f g e;exact absurd (a.trans e) (c _ _ _)
   rfl
 intro d;split at d
 ·rename_i i f g k;have⟨n,a⟩:=Exe_iff.1 k;refine⟨n+1,?_⟩;simp only[fu];rw[nc (aR n) a];exact d
 rename_i c;have⟨n,a⟩:=Exe_iff.1 d;refine⟨n+1,?_⟩;simp only[fu];rw[nc (aR n) a];split
 ·rename_i i f g e;exact absurd (d.trans e) (c _ _ _)
 rfl
theorem Pn(b:Code):Exe C cf (.loop b) s h=(match Exe C cf b s h with|some (.normal,s',h')=>Exe C cf (.loop b) s' h'|r=>r):=by
 apply rQ;intro x;rw[Exe_iff];constructor
 ·rintro⟨n,a⟩;cases n with
  |zero=>simp[fu]at a
  |succ n=>
   simp only[fu]at a;split at a
   ·rename_i f g i;rw[qY i];exact qY a
   rename_i c;rw[qY a];split
   ·rename_i f g e;exact absurd (a.trans e) (c _ _)
   rfl
 intro d;split at d
 ·rename_i f g j;have⟨n,a⟩:=Exe_iff.1 j;have⟨m,k⟩:=Exe_iff.1 d;refine⟨max n m+1,?_⟩;simp only[fu];rw[nc (fN n m) a];exact nc (ey n m) k
 rename_i c;have⟨n,a⟩:=Exe_iff.1 d;refine⟨n+1,?_⟩;simp only[fu];rw[nc (aR n) a];split
 ·rename_i f g e;exact absurd (d.trans e) (c _ _)
 rfl
end
theorem D6{f:FuncId}{args:LA}{h:H}{fn:Func}{c:Code}(hp:C.prim f args h=none) (hf:C.P.funcs[f]?=some fn) (hb:fn.body=some c) (hok:gO C f fn.ntmps false c=true) (hn:args.length<=fn.ntmps) :
  Call C f args h=(match Exe C f c (kC 0 args .leaf) h with
   |some (.normal,s,h')|some (.ret,s,h')=>(match aY C.P s h' fn.results.toList with|some v=>some (v,h')|none=>none)
   |_=>none):=by
 apply rQ;intro x;rw[Call_iff];constructor
 ·rintro⟨n,a⟩;cases n with
  |zero=>simp[fA]at a
  |succ n=>
   simp only[fA,hp,hf,hb]at a;rw[if_pos ⟨hok,hn⟩]at a;split at a<;>try(cases a;done)
   ·rename_i e g b;rw[Exe_iff.2 ⟨n,b⟩];exact a
   rename_i e g b;rw[Exe_iff.2 ⟨n,b⟩];exact a
 intro a;split at a<;>try(cases a;done)
 all_goals
  rename_i e g b;have⟨n,d⟩:=Exe_iff.1 b;refine⟨n+1,?_⟩;simp only[fA,hp,hf,hb];rw[if_pos ⟨hok,hn⟩,d];exact a
theorem oo{f:FuncId}{args:LA}{h:H}{fn:Func}{z:AV × H}(hf:C.P.funcs[f]?=some fn) (hp:C.prim f args h=some z):Call C f args h=some z:=
 Call_iff.2 ⟨1,by simp only[fA,hf,hp]⟩
end
theorem Jb [DFlag] {C:Cfg}(hP:Good C.P) (hprim:∀f,sN C.P f (C.prim f)):Ok C.P (Call C) where
 fn:=λf a h r b e c=>by have⟨n,d⟩:=Call_iff.1 c;exact(Au hP hprim n).fn f a h r b e d
 yl:=λi a h r b c=>by have⟨n,d⟩:=Call_iff.1 c;exact(Au hP hprim n).yl i a h r b d
end Go.V
