/- A part of the proof. -/
import Derived.Test.YtbcnnpkfkopoeaaGreatDoorSa
import Derived.MakeChecks
import Derived.OpenShut
set_option maxHeartbeats 4000000
set_option maxRecDepth 8000
namespace Go.VZ
open Go Go.V Go.Proofs Tryz TL
theorem ga{h g:H}{j:Nat}{o:VObj}(e:h[j]?=some o):(h++g)[j]?=some o:=by rw[aH (aB.1 e).1];exact e
theorem bn{e:TypeId}{h:H}{v:AV}{xs:LA}(o:OwnR e h v xs){i:Nat}{cs:LA}{st:OSt}(hi:h[i]?=some (.cells cs st)):cG v≠some i:=by
 intro b;rcases o with rfl|⟨a,rfl,c⟩
 ·cases b
 simp only[cG,aA]at b;subst b;rw[c]at hi;cases hi
def Ok3(i3:Nat) (pr:List (Nat × VObj)) (h:H) (l:Lq):Prop:=∃v,h[i3]?=some (.cells [v] .live)/\Row h v l/\∀p∈pr,h[p.1]?=some p.2/\p.1≠i3/\cG v≠some p.1
theorem L0{h:H}{v:AV}{l:Lq}(r:Row h v l){i:Nat}(e:cG v=some i):i<h.length:=by
 rcases r with⟨rfl,rfl⟩|⟨id,rfl,a⟩
 ·cases e
 simp only[cG,aA]at e;subst e;exact(aB.1 a).1
theorem GQ{h g:H}{v:AV}{l:Lq}(r:Row h v l):Row (h++g) v l:=by
 rcases r with⟨rfl,rfl⟩|⟨id,rfl,a⟩
 ·exact .inl ⟨rfl,rfl⟩
 exact .inr ⟨id,rfl,ga a⟩
theorem Ok3.push{i3:Nat}{pr:List (Nat × VObj)}{h:H}{l:Lq}(k:Ok3 i3 pr h l) (o:VObj):Ok3 i3 ((h.length,o)::pr) (h++[o]) l:=by
 have⟨v,b,c,d⟩:=k;refine⟨v,ga b,GQ c,λp a=>?_⟩;rcases aV.1 a with rfl|a
 ·exact⟨s_,λe=>by have:=(aB.1 b).1;simp only at e;omega,λe=>by have:=L0 c e;simp only at this;omega⟩
 exact⟨ga (d p a).1,(d p a).2⟩
theorem Ok3.less{i3:Nat}{pr pr':List (Nat × VObj)}{h:H}{l:Lq}(k:Ok3 i3 pr h l) (hp:∀p∈pr',p∈pr):Ok3 i3 pr' h l:=by have⟨v,a,b,c⟩:=k;exact⟨v,a,b,λp h=>c p (hp p h)⟩
theorem Ok3.at_{i3:Nat}{pr:List (Nat × VObj)}{h:H}{l:Lq}(k:Ok3 i3 pr h l){j:Nat}{o:VObj}(hp:(j,o)∈pr):h[j]?=some o:=by have⟨v,b,c,a⟩:=k;exact(a _ hp).1
def Clo(g:FuncId) (caps:LA) (i3:Nat) (pr0:List (Nat × VObj)) (f:T->Lq):Prop:=∀(t:T) (h:H) (l:Lq),t.size<4000000->l.length<100000000->Ok3 i3 pr0 h l ->
 ∃h',aj C h (.func g caps) (some [enc t])=some (.tuple [],h')/\∀pr,Ok3 i3 pr h l->Ok3 i3 pr h' (l++f t)
def zt:AV:=.agg [.int .i64 0,.str ⟨#[]⟩,.int .i64 0,.isl [] .full]
def zu:AV:=.agg [.int .i64 0,.str ⟨#[]⟩,.int .i64 0,.isl [] .unk]
def zuc:LA:=[.int .i64 0,.str ⟨#[]⟩,.int .i64 0,.isl [] .unk]
theorem K5(h:H):cQ C.P h 32 1 [(0,zt)]=some (.isl [zu] .full,h):=cY u23 s25 z25 rfl o_ rfl (es:=[zu]) rfl rfl s_ rfl
theorem Jz(h:H):cP h cM [zt]=[]:=(dM (h:=h) (l:=[zt]) (l':=[zu]) rfl rfl cM (by simp[cM])).2
theorem WY(h:H):bi C.P true h 32 (.isl [] .full) (.isl [zu] .full)=some (.msl h.length 0 4 1 none,h++[.cells zuc .live]):=by
 have a:jh h 4 (.isl [zu] .full)=some (zuc,1):=by simp[jh,iN,zu,am,zuc]
 simp only[bi,ey,dC,if_false,aT,de,u23,s25,b25,z25,a];simp[iN]
theorem WX{h:H}{id:Nat}{l:Lq}(hid:h[id]?=some (.cells (bZ l) .live)) (hl:l.length<100000000):bi C.P true h 32 (.msl id 0 4 l.length none) (.isl [zu] .full)=some (.msl h.length 0 4 (l.length+1) none,h.set id (.cells (bZ l) .dead)++[.cells (bZ l++zuc) .live]):=by
 have a:jh h 4 (.isl [zu] .full)=some (zuc,1):=by simp[jh,iN,zu,am,zuc]
 have b:=fU l;simp only[bi,ey,dC,if_false,aT,de,u23,s25,b25,z25,a,hid];rw[if_neg s_,if_neg s_,if_pos ⟨trivial,trivial,o_,o_⟩,bJ o_]
theorem VH{h:H}{id:Nat}{l:Lq}(x:T) (hid:h[id]?=some (.cells (bZ l++zuc) .live)):ah C.P h 41 (.ptr id (4*l.length)) (enc x)=some (h.set id (.cells (bZ (l++[x])) .live)):=by
 have a:=fU l;have e:bZ (l++[x])=bZ l++(enc x).cells:=by simp[bZ]
 rw[e];simp only[ah,hid,s25];rw[bV];have b:(bZ l++zuc).length=4*l.length+4:=by simp[a,zuc]
 simp only[aL,bB,b];rw[if_pos ⟨trivial,o_⟩,bq o_,bJ o_,iO o_,br];rfl
theorem Gp(l:Lq) (i k:Nat):AV.mvs i k (bZ l)=bZ l:=wb _ (by
 intro a b i k;simp only[bZ,bR]at b;have⟨f,_,b⟩:=b;rw[aq]at b;simp only[aV,dN,or_false]at b;rcases b with rfl|rfl|rfl|rfl<;>rfl) i k
theorem KL(l:Lq) (i k:Nat):VObj.mv i k (.cells (bZ l) .live)=.cells (bZ l) .live:=by simp[VObj.mv,Gp]
theorem Gs(l:Lq) (i k:Nat):VObj.mv i k (.cells (bZ l++zuc) .live)=.cells (bZ l++zuc) .live:=by
 have:AV.mvs i k (bZ l++zuc)=bZ l++zuc:=wb _ (by
  intro a b i k;rcases aK.1 b with b|b
  ·simp only[bZ,bR]at b;have⟨f,_,b⟩:=b;rw[aq]at b;simp only[aV,dN,or_false]at b;rcases b with rfl|rfl|rfl|rfl<;>rfl
  simp only[zuc,aV,dN,or_false]at b;rcases b with rfl|rfl|rfl|rfl<;>rfl) i k
 simp[VObj.mv,this]
theorem ID{h:H}{v:AV}{l:Lq}(r:Row h v l){i:Nat}{x:AV}{st:OSt}(hi:h[i]?=some (.cells [x] st)):cG v≠some i:=by
 intro e;rcases r with⟨rfl,rfl⟩|⟨id,rfl,a⟩
 ·cases e
 simp only[cG,aA]at e;subst e;rw[a]at hi;have:=fU l;simp only[aA,VObj.cells.injEq]at hi;rw[hi.1]at this;simp at this;omega
theorem Ro{h:H}{i:Nat}{v:AV}{l:Lq}(hi:h[i]?=some (.cells [v] .live)) (r:Row h v l):aJ C.P h 32 (.ptr i 0)=some v:=by rcases r with⟨rfl,rfl⟩|⟨id,rfl,a⟩<;>simp[aJ,hi,aY,a23,s23]
theorem VI{h:H}{i:Nat}{v u:AV}(hi:h[i]?=some (.cells [v] .live)) (hu:∃id n,u=.msl id 0 4 n none):ah C.P h 32 (.ptr i 0) u=some (h.set i (.cells [u] .live)):=by obtain⟨id,n,rfl⟩:=hu;simp[ah,hi,s23]
theorem Su{h:H}{v:AV}{l:Lq}(r:Row h v l):fG C.P 32 v=some (.int .i64 l.length):=by
 rcases r with⟨rfl,rfl⟩|⟨id,rfl,a⟩
 ·simp[fG,u23]
 simp[fG,u23]
theorem evc(s:PT):ev s (.const (.agg #[.int .i64 0,.string ⟨#[]⟩,.int .i64 0,.slice none 0 0]))=some zt:=k_
theorem oM{i o n k:Nat}(h:i<n):(AV.ptr i o).mv n k=.ptr i o:=by simp[AV.mv];omega
theorem FW{f:FuncId}{args caps:LA}{h:H}(hb:dl C.P f=true) (hm:C.mode f=.openH):aj C h (.func f caps) (some args)=Go.V.Call C f (args++caps) h:=by simp only[aj,hb,if_true];unfold dJ;rw[hm]
theorem ML{i3 b:Nat}{h H2:H}{l:Lq}{t:T}{v:AV}(k1:h[i3]?=some (.cells [v] .live)) (_k2:Row h v l) (hb:h.length<=b) (e3:H2[i3]?=some (.cells [.msl b 0 4 (l.length+1) none] .live)) (eb:H2[b]?=some (.cells (bZ (l++[t])) .live))
  (ho:∀j,j<h.length->j≠i3->cG v≠some j->H2[j]?=h[j]?):∀pr,Ok3 i3 pr h l->Ok3 i3 pr H2 (l++[t]):=by
 rintro pr ⟨m,f,_,i⟩;rw[k1]at f;simp only[aA,VObj.cells.injEq,ct,and_true]at f;subst f;refine⟨_,e3,.inr ⟨b,s_,eb⟩,λp k=>?_⟩;have⟨a,c,d⟩:=i p k;have g:=(aB.1 a).1;exact⟨by rw[ho _ g c d];exact a,c,λe=>by simp only[cG,aA]at e;omega⟩
theorem Tk(i3:Nat):Clo 87 [.ptr i3 0] i3 [] (λt=>[t]):=by
 rintro t h l ht hl ⟨v,E,z,-⟩;rw[FW k_ rfl];show ∃f,Go.V.Call C 87 [enc t,.ptr i3 0] h=_/\_;suffices U:∃r f,Go.V.Call C 87 [enc t,.ptr i3 0] h=some (r,f)/\(r=.tuple []/\∀pr,Ok3 i3 pr h l->Ok3 i3 pr f (l++[t])) by
  obtain⟨r,f,a,rfl,c⟩:=U;exact⟨f,a,c⟩
 refine kA rfl func87 rfl k_ (by simp[f87]) λR hR=>?_
 simp[go_sem,gx];obtain⟨d,n⟩:∃g,g=h++[.cells (enc t).cells .live]:=⟨_,rfl⟩
 rw[<-aq,<-n];have n1:d[h.length]?=some (.cells (enc t).cells .live):=by rw[n];simp
 have n3:d[i3]?=some (.cells [v] .live):=by rw[n];exact ga E
 have A:Row d v l:=by rw[n];exact GQ z
 have B:d.length=h.length+1:=by rw[n];simp
 have q2:i3<h.length:=(aB.1 E).1;have old:∀j,j<h.length->d[j]?=h[j]?:=λj s=>by rw[n];exact aH s
 clear n;refine xQ 1 _ (by rw[gM];decide) k_ ?_;show MX C 87 _ d.length _ 0 _ _ _ _;generalize F:d++List.replicate _ VObj.void=H0;have p:Pl d H0 8:=F▸Pl.mk' _ 8;have Y:=p.len;clear F;have p1:=p.get n1;have Z:=p.get n3;have r0:Row H0 v l:=by
  rcases A with⟨rfl,rfl⟩|⟨id,rfl,m⟩
  ·exact .inl ⟨rfl,rfl⟩
  exact .inr ⟨id,rfl,p.get m⟩
 have q0:=Ro Z r0;have q1:=sg t p1;have J:=Su z;have K:v.mv H0.length (d.length+0)=v:=by
  rcases z with⟨rfl,rfl⟩|⟨id,rfl,m⟩
  ·rfl
  have:=(aB.1 m).1;simp[AV.mv];omega
 refine cR (.ptr i3 0) v g_ q0 (dW o_) (p.isV (i:=0) d_) K ?_;refine cR (.ptr h.length 0) (enc t) g_ q1 (dW o_) (p.isV (i:=1) d_) (eN _ _ _) ?_;refine bE (.int .i64 l.length) rfl rfl (p.isV (i:=2) d_) (by simp[opN,go_sem,J]) rfl ?_;refine gH (parts:=[(0,.const (.agg #[.int .i64 0,.string ⟨#[]⟩,.int .i64 0,.slice none 0 0]))]) [(0,zt)] (.isl [zu] .full) (mN (evc _) rfl) (Jz _) (K5 _) (p.isV (i:=3) d_) ?_;have w:d.length+4<H0.length:=o_;have app:∃f g,bi C.P true H0 32 v (.isl [zu] .full)=some (.msl H0.length 0 4 (l.length+1) none,f)/\f.length<=H0.length+1/\(cF v++gZ v++cF (.isl [zu] .full)).contains (d.length+4)=false /\
   fin (d.length+4) (cF v++gZ v++cF (.isl [zu] .full)) H0 f=g/\g.length=H0.length/\g[d.length+4]?=some (.cells (bZ l++zuc) .live)/\∀j,j≠d.length+4->cG v≠some j->g[j]?=H0[j]?:=by
  rcases r0 with⟨rfl,rfl⟩|⟨id,rfl,m⟩
  ·refine⟨_,_,WY _,s_,rfl,jK w,s_,?_,λj s _=>aC (λe=>s e.symm)⟩;rw[aD w];rfl
  have q':id<d.length:=by
   rcases A with⟨e,_⟩|⟨q3,e,y⟩
   ·subst e;exact absurd m (by intro U;rename_i c;cases c)
   simp only[AV.msl.injEq]at e;rw[<-e.1]at y;exact(aB.1 y).1
  refine⟨_,_,WX m hl,s_,by simp[cF,gZ];omega,td w o_,s_,?_,λj s G=>?_⟩
  ·rw[aD (by simpa using w),Gs]
  rw[aC (λe=>s e.symm),aC (λe=>G (by rw[e];rfl))]
 have⟨f,g,a1,a2,a3,a4,a5,a6,L⟩:=app;refine dq v (.isl [zu] .full) _ f g g_ (by simp[go_sem];rfl) (by rw[wrC];exact a1) a2 a3 (p.isV (i:=4) d_) a4 ?_;rw[show(AV.msl H0.length 0 4 (l.length+1) none).mv H0.length (d.length+4)=.msl (d.length+4) 0 4 (l.length+1) none by simp[AV.mv]];have nv:∀i,4<i->i<8->dE g[d.length+i]?=true:=λi hi M=>by rw[L _ o_ (λe=>by have:=L0 A e;omega)];exact p.isV M
 refine bE (.ptr (d.length+4) (4*l.length)) rfl rfl (nv 5 d_ d_) (by simp[opN,go_sem,tV]) (oM o_) ?_;have s1:=VH t a6;refine iA (d.length+4) (4*l.length) (enc t) _ g_ g_ s1 o_ (nv 6 d_ d_) ?_;rw[KL];obtain⟨D,q⟩:∃D,D=g.set (d.length+4) (.cells (bZ (l++[t])) .live):=⟨_,rfl⟩
 rw[<-q];have b1:D[d.length+4]?=some (.cells (bZ (l++[t])) .live):=by rw[q];exact aD o_
 have N:∀j,j≠d.length+4->D[j]?=g[j]?:=λj s=>by rw[q];exact aC (λe=>s e.symm)
 have b3:D[i3]?=some (.cells [v] .live):=by rw[N _ o_,L _ o_ (ID z E)];exact Z
 have b4:D.length=H0.length:=by rw[q];simpa using a5
 clear q;have s2:=VI (u:=.msl (d.length+4) 0 4 (l.length+1) none) b3 ⟨_,_,rfl⟩;refine iA i3 0 (.msl (d.length+4) 0 4 (l.length+1) none) _ g_ g_ s2 o_ (by rw[N _ o_];exact nv 7 d_ d_) ?_;rw[show VObj.mv D.length (d.length+7) (.cells [.msl (d.length+4) 0 4 (l.length+1) none] .live)=.cells [.msl (d.length+4) 0 4 (l.length+1) none] .live by simp[VObj.mv,AV.mvs,AV.mv];omega];refine⟨?_,?_⟩
 ·unfold sq;generalize O:Region.before _=b;have Q:(b.getD 7 0).testBit 0=true:=by rw[<-O];kernel_rfl
  have S:(b.getD 6 0).testBit 4=true:=by rw[<-O];kernel_rfl
  clear O;have o:∀x∈cF v++gZ v++cF (.isl [zu] .full),x<h.length/\x≠i3:=by
   have G:=ID z E;rcases z with⟨rfl,rfl⟩|⟨id,rfl,m⟩
   ·intro x o;simp[cF,gZ]at o
   intro x o;simp[cF,gZ]at o;subst o;exact⟨(aB.1 m).1,λe=>G (by rw[<-e];rfl)⟩
  generalize cF v++gZ v++cF (.isl [zu] .full)=X at o;have y1:∀k,(d.length+k)∉X:=λk I=>by have:=(o _ I).1;omega
  have y2:i3∉X:=λI=>(o _ I).2 rfl
  have y3:h.length∉X:=λI=>by have:=(o _ I).1;omega
  have z1:∀x∈X,∀k,¬x=h.length+1+k:=λx f k e=>by have:=(o x f).1;omega
  have z2:∀x∈X,¬x=h.length:=λx f e=>by have:=(o x f).1;omega
  have z3:∀k,¬(h.length+1+k∈X):=λk f=>by have:=(o _ f).1;omega
  simp[it,qm,List.range,List.range.loop,B];refine⟨⟨.inl o_,.inl o_⟩,⟨.inl ⟨o_,λx f=>(o x f).2⟩,.inl ⟨o_,z2⟩,.inl ⟨z3 3,λx f=>z1 x f 3⟩⟩,⟨.inl ⟨o_,o_⟩,.inl ⟨o_,o_⟩,?_⟩,?_,.inl ⟨o_,o_⟩,.inl ⟨o_,o_⟩,?_,.inl ⟨⟨o_,o_⟩,o_,o_⟩⟩
  ·simpa[ar]using S
  ·simpa[ar]using Q
  exact .inl ⟨⟨o_,λx f=>⟨z1 x f 7,(o x f).2⟩⟩,z3 7,o_,y2⟩
 simp[go_sem];refine hR _ _ _ (.inl rfl) ⟨.tuple [],rfl,rfl,?_⟩;refine ML E z (b:=d.length+4) o_ (aD o_) (by rw[aC o_];exact b1) λj s h3 G=>?_
 rw[aC (λe=>h3 e.symm),N _ o_,L _ o_ G,p.old _ o_,old _ s]
end Go.VZ
namespace TL
mutual
def bm(f:T->Lq):T->Lq
 |.mk k n s l=>f (.mk k n s l)++eJ f l
def eJ(f:T->Lq):Lq->Lq
 |[]=>[]
 |t::l=>bm f t++eJ f l
end
theorem ss(f:T->Lq) (t:T):bm f t=f t++eJ f t.kids:=by cases t;rfl
theorem ng(f:T->Lq):∀l,eJ f l=l.flatMap (bm f)
 |[]=>rfl
 |t::l=>by rw[eJ,ng f l];rfl
theorem qe(f:T->Lq) (l m:Lq):eJ f (l++m)=eJ f l++eJ f m:=by simp[ng]
mutual
theorem qw(f:T->Lq) (hf:∀t,(f t).length<=1):∀t:T,(bm f t).length<=t.size
 |.mk k n s l=>by have:=kY f hf l;have:=hf (.mk k n s l);rw[bm,List.length_append,T.size];omega
theorem kY(f:T->Lq) (hf:∀t,(f t).length<=1):∀l:Lq,(eJ f l).length<=sizes l
 |[]=>by simp[eJ]
 |t::l=>by have:=qw f hf t;have:=kY f hf l;rw[eJ,List.length_append,sizes];omega
end
end TL
namespace Go.VZ
open Go Go.V Go.Proofs Tryz TL
def Wk(g:FuncId) (caps:LA) (i3:Nat) (pr0:List (Nat × VObj)) (f:T->Lq) (t:T):Prop:=∀(h:H) (l:Lq),t.size<4000000->l.length+t.size<=90000000->Ok3 i3 pr0 h l ->
 ∃h',Go.V.Call C 86 [enc t,.func g caps] h=some (.tuple [],h')/\∀pr,Ok3 i3 pr h l->Ok3 i3 pr h' (l++bm f t)
def XR(g:FuncId) (caps:LA) (i3:Nat) (f:T->Lq) (t:T) (h0:H) (l:Lq) (n:Nat) (st:PT) (h:H):Prop:=∃k:Nat,n=t.kids.length-k/\k<=t.kids.length/\st.get 1=.func g caps/\st.get 10=terms t.kids/\st.get 11=.int .i64 t.kids.length/\st.get 12=.int .i64 k /\
 ∀pr,Ok3 i3 pr h0 l->Ok3 i3 pr h (l++(f t++eJ f (t.kids.take k)))
theorem Of(g:FuncId) (caps:LA) (i3:Nat) (pr0:List (Nat × VObj)) (f:T->Lq) (hf:∀t,(f t).length<=1) (hg:Clo g caps i3 pr0 f):∀t,Wk g caps i3 pr0 f t:=by
 refine T.ind λt J i l K hl ok=>?_
 suffices hh:∃r v,Go.V.Call C 86 [enc t,.func g caps] i=some (r,v)/\(r=.tuple []/\∀d,Ok3 i3 d i l->Ok3 i3 d v (l++bm f t)) by
  obtain⟨r,v,a,rfl,c⟩:=hh;exact⟨v,a,c⟩
 refine kA rfl func86 rfl k_ (by simp[f86]) λR L=>?_
 have w:∀(h:H) (m:Lq) (o:VObj) d,Ok3 i3 d h m->Ok3 i3 d (h++[o]) m:=λh m o d k=>(k.push o).less λp M=>bP _ M
 have N:=size_kids t;have E:=pk t i;have⟨F,G,j⟩:=hg t (i++[.cells (enc t).cells .live]) l K o_ (w _ _ _ _ ok);have x:F[i.length]?=some (.cells (enc t).cells .live):=(j _ (ok.push (.cells (enc t).cells .live))).at_ (bv ..);have I:aJ C.P F 32 (.ptr i.length 3)=some (terms t.kids):=by rw[aq]at x;simp[aJ,x,aY,a23,s23,terms]
 have y:=dX t.kids;simp[go_sem,gx];rw[<-aq];simp[go_sem,E,G,I,y];refine bX (XR g caps i3 f t i l) t.kids.length ⟨0,rfl,aO _,g_,g_,g_,g_,λd k=>by simpa[eJ]using j _ (w _ _ _ _ k)⟩ ?_;clear E I G x j;rintro n st h ⟨k,rfl,hk,O,z,q,s,e⟩;have A:(l++(f t++eJ f (t.kids.take k))).length<=l.length+1+sizes (t.kids.take k):=by have:=hf t;have:=kY f hf (t.kids.take k);simp only[List.length_append];omega
 by_cases b:k<t.kids.length
 ·have u:(k:Int)<t.kids.length:=o_;have B:=dh t.kids k b;have Q:=qM t.kids[k] h;have S:=pk t.kids[k] h;have U:IntKind.i64.wrap ((k:Int)+1)=((k+1:Nat):Int):=by have:=len_sizes t.kids;rw[ay o_];omega
  have X:=kid_size (aG b);have Y:=take_sizes b;have Z:=take_sizes_le t.kids (k+1);have⟨h2,c2,ok2⟩:=J t.kids[k] (aG b) (h++[.cells (enc t.kids[k]).cells .live]) (l++(f t++eJ f (t.kids.take k))) o_ o_ (w _ _ _ _ (e _ ok));have cv:=(eT (f:=86) k_ rfl).trans c2;simp[go_sem,O,z,q,s,u,B,ee,Q,S,cv,-Int.natCast_add,U];refine⟨t.kids.length-(k+1),o_,k+1,rfl,b,g_,g_,g_,g_,λd D=>?_⟩;have:=ok2 _ (w _ _ (.cells (enc t.kids[k]).cells .live) _ (e _ D));rw[be b,qe];simpa[eJ,List.append_assoc]using this
 have:k=t.kids.length:=o_;subst this;rw[ak]at e;simp[go_sem,q,s];refine L _ _ _ (.inl rfl) ⟨.tuple [],rfl,rfl,λd D=>?_⟩;rw[ss];exact e _ D
end Go.VZ
namespace Go.VZ
open Go Go.V Go.Proofs Tryz TL
theorem ue{h:H}{v:AV}{xs:Lq}{i o:Nat}{cs:LA}(y:T) (go:OwnR 41 h v (xs.map enc)) (hi:h[i]?=some (.cells cs .live)) (ho:o<cs.length) (hl:xs.length<10000000) :
  ∃v' h',bi C.P false h 32 v (.isl [enc y] .full)=some (v',h')/\ah C.P h' 32 (.ptr i o) v'=some (h'.set i (.cells (cs.set o v') .live))/\OwnR 41 (h'.set i (.cells (cs.set o v') .live)) v' ((xs++[y]).map enc) /\
   (∀(j:Nat) c st,j≠i->h[j]?=some (.cells c st)->(h'.set i (.cells (cs.set o v') .live))[j]?=some (.cells c st))/\(h'.set i (.cells (cs.set o v') .live))[i]?=some (.cells (cs.set o v') .live):=by
 have⟨v',h',p,l,d,g⟩:=jN (ys:=[y]) (x:=.full) go (by simp;omega);have a:∀(j:Nat) c st,h[j]?=some (.cells c st)->cG v≠some j:=λj c st b=>bn go b
 have f:=d.get hi (a _ _ _ hi);have k:=(aB.1 f).1;refine⟨v',h',by simpa using p,?_,?_,?_,aD k⟩
 ·obtain⟨x,rfl⟩:=l.isl;simp[ah,f,s23,ho]
 ·refine l.keep (Keep.set _ _ _) (λj b e=>?_);simp only[aA]at e;subst e;rcases g with m|⟨m,q⟩
  ·exact a _ _ _ hi (m▸b)
  have:=(aB.1 hi).1;rw[q]at b;simp only[aA]at b;omega
 intro j c st b n;rw[aC (λe=>b e.symm)];exact d.get n (a _ _ _ n)
def tcv(t:T) (v:AV):LA:=[.int .i64 t.kind,.str t.name,.int .i64 t.sort,v]
def XL(t:T) (m:Nat) (s:PT) (h:H):Prop:=∃(k:Nat) (v:AV),m=t.kids.length-k/\k<=t.kids.length/\s.get 1=.ptr 0 0/\s.get 2=.ptr 1 0/\s.get 9=terms t.kids/\s.get 10=.int .i64 t.kids.length/\s.get 11=.int .i64 k/\h[0]?=some (.cells (tcv t v) .live)/\h[1]?=some (.cells zc .live) /\
 OwnR 41 h v ((t.kids.take k).map enc)
theorem Nk(t:T) (hv:t.size<4000000) (hc:∀k∈t.kids,az C 129 [enc k]=some (enc k)):az C 129 [enc t]=some (enc t):=by
 refine bL func129 rfl λR V=>?_
 have X:=size_kids t;have L:=len_sizes t.kids;have A:=dX t.kids;have Y:∀(y:VObj) (a b c:AV),ah C.P [.cells [a,b,c,terms t.kids] .live,y] 32 (.ptr 0 3) (.isl [] .full)=some [.cells [a,b,c,.isl [] .full] .live,y]:=λy a b c=>by simp[ah,s23]
 have Z:∀(y:VObj) (a b c:AV),aJ C.P [.cells [a,b,c,terms t.kids] .live,y] 32 (.ptr 0 3)=some (terms t.kids):=λy a b c=>by simp[aJ,aY,a23,s23,terms]
 simp[go_sem,gx,Y,Z,A];refine bX (XL t) t.kids.length ⟨0,.isl [] .full,rfl,aO _,g_,g_,g_,g_,g_,rfl,rfl,.inl rfl⟩ ?_;rintro m s h ⟨k,v,rfl,hk,M,N,g9,n,j,O,B,z⟩;have D:=z.isl;have q':au v=true:=by obtain⟨x,rfl⟩:=D;rfl
 by_cases e:k<t.kids.length
 ·have p:(k:Int)<t.kids.length:=o_;have E:=dh t.kids k e;have w2:=wS k o_;have ck:∀h,aj C h (.func 129 []) (some [enc t.kids[k]])=some (enc t.kids[k],h):=λh=>an (fv _) (by simp[bF]) s_ (hc _ (aG e))
  have Q:=qM t.kids[k] h;have q:=pk t.kids[k] h;obtain⟨r,d⟩:∃g,g=h++[.cells (enc t.kids[k]).cells .live]:=⟨_,rfl⟩
  have F:r[0]?=some (.cells (tcv t v) .live):=by rw[d];exact ga O
  have n1:r[1]?=some (.cells zc .live):=by rw[d];exact ga B
  have f:OwnR 41 r v ((t.kids.take k).map enc):=by rw[d];exact z.keep (Keep.append _ _ none) s_
  have nb:r[h.length]?=some (.cells (enc t.kids[k]).cells .live):=by rw[d];simp
  have l0:aJ C.P r 32 (.ptr 0 3)=some v:=by simp[aJ,F,tcv,aY,a23,s23]
  rw[<-d]at Q q;have⟨v',h',ha,G,S,u,l⟩:=ue (i:=0) (o:=3) t.kids[k] f F (by simp[tcv]) (by simp;omega);have I:t.kids.take k++[t.kids[k]]=t.kids.take (k+1):=aW e;rw[I]at S;have J:=bn f F;have K:=bn f nb;simp[go_sem,g9,n,j,p,E,ee,Q];refine eQ 6 _ (by simp[gM]) rfl ?_;simp[go_sem,M,j,l0,q,ck,fO,ha,G,-Int.natCast_add,w2];refine⟨?_,t.kids.length-(k+1),o_,k+1,v',rfl,e,g_,g_,g_,g_,g_,l,u 1 _ _ o_ n1,S⟩;rcases f with rfl|⟨id,rfl,hd⟩
  ·simp[go_sem,ff,fL,fP,iC,dy,cF]
  simp only[cG,ne_eq,aA]at J K;simp[go_sem,ff,fL,fP,iC,dy,cF]
  (try omega)
 have:k=t.kids.length:=o_;subst this;rw[ak]at z;obtain⟨x,rfl⟩:=z.isl;have q:aJ C.P h 41 (.ptr 0 0)=some (.agg [.int .i64 t.kind,.str t.name,.int .i64 t.sort,.isl (t.kids.map enc) x]):=by simp[aJ,O,aY,a25,s25,tcv]
 have U:ah C.P h 41 (.ptr 1 0) (.agg [.int .i64 t.kind,.str t.name,.int .i64 t.sort,.isl (t.kids.map enc) x])=some (h.set 1 (.cells [.int .i64 t.kind,.str t.name,.int .i64 t.sort,.isl (t.kids.map enc) x] .live)):=by simp[ah,B,s25,zc]
 have e7:=(aB.1 B).1;generalize w:AV.agg [.int .i64 t.kind,.str t.name,.int .i64 t.sort,.isl (t.kids.map enc) x]=zz at q U;simp[go_sem,M,N,n,j,q,U];refine V ⟨zz,?_,?_⟩
 ·simp[ag,cO,f129,go_sem,N,aJ,aD e7,aY,a25,s25,<-w]
 rw[bV,<-w];exact aU rfl rfl
theorem DR(t:T):t.size<4000000->az C 129 [enc t]=some (enc t):=by
 induction t using T.ind with
 |_ t b=>exact λc=>Nk t c (λk a=>b k a (by have:=kid_size a;omega))
theorem Qp(t:T) (hv:t.size<4000000) (h:H):aj C h (.func 129 []) (some [enc t])=some (enc t,h):=an (fv _) (by simp[bF]) s_ (DR t hv)
end Go.VZ
namespace TL
def ddj(l:Lq):Nat->Lq
 |0=>[]
 |j+1=>if j≠0/\(l.getD j default).cmp (l.getD (j-1) default)=0 then ddj l j else ddj l j++[l.getD j default]
def dd(l:Lq):Lq:=ddj l l.length
theorem Iw(l:Lq):∀j,(ddj l j).length<=j
 |0=>aP _
 |j+1=>by
  have:=Iw l j;rw[ddj];split
  ·omega
  simp;omega
theorem wz{l:Lq}:∀j,j<=l.length->(∀i,0<i->i<j->(l.getD i default).cmp (l.getD (i-1) default)≠0)->ddj l j=l.take j
 |0,_,_=>by simp[ddj]
 |j+1,hj,h=>by rw[ddj,if_neg (λe=>h j o_ o_ e.2),wz j o_ (λi a b=>h i a o_),be o_];simp[aF (show j<l.length by omega)]
theorem Cy{l:Lq}{x:T}:∀j,j<=l.length->x∈ddj l j->x∈l
 |0,_,h=>by simp[ddj]at h
 |j+1,hj,h=>by
  rw[ddj]at h;split at h
  ·exact Cy j o_ h
  rcases aK.1 h with h|h
  ·exact Cy j o_ h
  simp only[aS]at h;rw[h,dL,aF o_];exact aG _
theorem St{l:Lq}{x:T}(h:x∈dd l):x∈l:=Cy _ (aP _) h
end TL
namespace Go.V
open Go
section
variable {C:Cfg}{cf:FuncId}{ops:Array Oper}{K:PT->H->Prop}{l:List Oper}{s:PT}{h:H}{d:Option Tmp}{ty:TypeId}{p:String}{af:Array Edge}
@[go_sem] theorem Yk {P:Program}(t:TypeId) (x lo:Operand) (g:Option (Nat × Bool)):opN P s ⟨d,.slice t x (some lo) none none,ty,p,af,g⟩=bi2 (ev s x) (ev s lo) λa b=>fF P t a (some b) none none:=by simp only[opN,bi2,cT,Option.map_none];cases ev s x<;>cases ev s lo<;>rfl
@[go_sem] theorem Yl {P:Program}(t:TypeId) (x hi:Operand) (g:Option (Nat × Bool)):opN P s ⟨d,.slice t x none (some hi) none,ty,p,af,g⟩=bi2 (ev s x) (ev s hi) λa b=>fF P t a none (some b) none:=by simp only[opN,bi2,cT,Option.map_none];cases ev s x<;>cases ev s hi<;>rfl
@[go_sem] theorem YN (t:TypeId) (x:Operand):OW C cf ops (⟨none,.call {callee:=.builtin .clear,args:=#[x],argTypes:=#[t]},ty,p,af,none⟩::l) s h K↔bO (bi1 (ev s x) (vo C.P h t)) λh'=>OW C cf ops l s h' K:=by
 rw[qt rfl,bO_iff];simp only[opA,bi1];constructor
 ·rintro⟨v,h',c,e⟩;split at c<;>try(cases c;done)
  rename_i a d;split at c<;>try(cases c;done)
  rename_i f b;simp only[aA,aE]at c;obtain⟨rfl,rfl⟩:=c;exact⟨f,by rw[d];exact b,e⟩
 rintro⟨h',b,e⟩;cases d:ev s x with
 |none=>rw[d]at b;cases b
 |some a=>
  rw[d]at b
  replace b:vo C.P h t a=some h':=b
  exact⟨AV.undef,h',by simp only[b],e⟩
end
end Go.V
namespace Go.VZ
open Go Go.V Go.Proofs Tryz TL
def Zs(r:LA):Prop:=∀x∈r,x=.int .i64 0\/x=.str ⟨#[]⟩\/x=.isl [] .full\/x=.isl [] .unk
def RowZ(N:Nat) (h:H) (v:AV) (l:Lq):Prop:=(l=[]/\v=.isl [] .full)\/∃id rest,v=.msl id 0 4 l.length none/\h[id]?=some (.cells (bZ l++rest) .live)/\Zs rest/\4*l.length+rest.length<=N
theorem Row.z{h:H}{v:AV}{l:Lq}(r:Row h v l):RowZ (4*l.length) h v l:=by
 rcases r with e|⟨id,rfl,a⟩
 ·exact .inl e
 exact .inr ⟨id,[],rfl,by simpa using a,λx b=>by simp at b,s_⟩
theorem pj{h:H}{l:Lq}{rest:LA}{id k:Nat}(hid:h[id]?=some (.cells (bZ l++rest) .live)) (hk:k<l.length):aJ C.P h 41 (.ptr id (4*k))=some (enc l[k]):=by
 have b:=sS hk;have a:=fU (l.take k);have c:(l.take k).length=k:=by simp;omega
 rw[c]at a;have d:((bZ l++rest).drop (4*k)).take 4=(enc l[k]).cells:=by rw[b,List.append_assoc,List.append_assoc,List.drop_append_of_le_length o_,<-a,bH,cN,bq (by simp[aq])];simp[aq]
 have e:=fU l;have f:(bZ l++rest).length=4*l.length+rest.length:=by rw[List.length_append,e]
 simp only[aJ,hid,aY,a25,s25];simp only[d,f];rw[if_pos o_];simp only[aq];rw[bV]
theorem xX{h:H}{l:Lq}{rest:LA}{id k:Nat}(x:T) (hid:h[id]?=some (.cells (bZ l++rest) .live)) (hk:k<l.length):ah C.P h 41 (.ptr id (4*k)) (enc x)=some (h.set id (.cells (bZ (l.set k x)++rest) .live)):=by
 have a:=fU (l.take k);have c:(l.take k).length=k:=by simp;omega
 rw[c]at a;have d:=fU l;have e:bZ (l.set k x)=(bZ l).take (4*k)++(enc x).cells++(bZ l).drop (4*k+4):=by
  have b:=sS hk;have f:=sS (l:=l.set k x) (k:=k) (by simpa using hk);rw[f];have g:(bZ l).take (4*k)=bZ (l.take k):=by rw[b,List.append_assoc,bq o_,bJ o_]
  have i:(bZ l).drop (4*k+4)=bZ (l.drop (k+1)):=by
   rw[b,List.drop_append];have:(bZ (l.take k)++(enc l[k]).cells).length=4*k+4:=by simp[a,aq]
   rw[this,iO o_];simp
  rw[g,i,List.take_set_of_le o_,List.drop_set_of_lt o_];simp
 have j:(bZ l++rest).length=4*l.length+rest.length:=by rw[List.length_append,d]
 rw[e];simp only[ah,hid,s25];rw[bV];simp only[aL,bB,j];rw[if_pos ⟨trivial,o_⟩,bq o_,List.drop_append_of_le_length o_];simp[am,List.append_assoc]
theorem SC:Zs zc:=λx a=>by simp only[zc,aV,dN,or_false]at a;rcases a with rfl|rfl|rfl|rfl<;>simp
theorem CF{h:H}{l:Lq}{rest:LA}{id k:Nat}(hid:h[id]?=some (.cells (bZ l++rest) .live)) (hk:k<=l.length) (hz:Zs rest) :
  ∃rest',vo C.P h 32 (.msl id (4*k) 4 (l.length-k) none)=some (h.set id (.cells (bZ (l.take k)++rest') .live))/\Zs rest'/\4*k+rest'.length=4*l.length+rest.length:=by
 have c:=fU l;have d:(bZ l++rest).length=4*l.length+rest.length:=by rw[List.length_append,c]
 have e:(bZ l).take (4*k)=bZ (l.take k):=by
  have f:bZ l=bZ (l.take k)++bZ (l.drop k):=by unfold bZ;rw[<-fm,dx]
  have b:=fU (l.take k);rw[f,bq (by rw[b];simp;omega),bJ (by rw[b];simp;omega)]
 refine⟨(List.replicate (l.length-k) zc).flatten++rest,?_,?_,by simp[zc];omega⟩
 ·simp only[vo,u23,hid,zV,s25,am,d];rw[if_pos ⟨trivial,o_⟩,bq o_,e,List.drop_append,iO (by omega:(bZ l).length<=4*k+(l.length-k)*4)];rw[show 4*k+(l.length-k)*4-(bZ l).length=0 by omega];simp[zc,List.append_assoc]
 intro x a;rcases aK.1 a with a|a
 ·simp only[oJ,mT]at a;obtain⟨m,⟨_,rfl⟩,a⟩:=a;exact SC x a
 exact hz x a
theorem O7(a b:T) (hs:a.size<4000000) (hs2:b.size<4000000):az C 128 [enc a,enc b]=some (.bool (decide (a.cmp b=0))):=by
 refine bL func128 rfl λR c=>?_
 have q:=uj a b hs hs2;simp[go_sem,yO,pZ,pX,q];refine c ⟨_,rfl,?_⟩;simp[go_sem];exact aU rfl rfl
theorem JF(a b:T) (hs:a.size<4000000) (hs2:b.size<4000000) (h:H):aj C h (.func 128 []) (some [enc a,enc b])=some (.bool (decide (a.cmp b=0)),h):=an (fA _ _) (by simp[bF]) s_ (O7 a b hs hs2)
theorem SY(a b:T) (hs:a.size<4000000) (hs2:b.size<4000000):az C 90 [enc a,enc b]=some (.bool (decide (a.cmp b=0))):=by
 refine bL func90 rfl λR c=>?_
 have q:=uj a b hs hs2;simp[go_sem,yO,pZ,pX,q];refine c ⟨_,rfl,?_⟩;simp[go_sem];exact aU rfl rfl
theorem Ny(a b:T) (hs:a.size<4000000) (hs2:b.size<4000000) (h:H):aj C h (.func 90 []) (some [enc a,enc b])=some (.bool (decide (a.cmp b=0)),h):=an (fA _ _) (by simp[bF]) s_ (SY a b hs hs2)
theorem Ii{id o n k:Nat}(hk:k<n):aZ C.P 32 (.msl id (4*o) 4 n none) (.int .i64 k)=some (.ptr id (4*(o+k))):=by simp[aZ,u23,s25,hk];omega
theorem N7{n k:Nat}(hk:k<=n):qC n (.int .i64 k)=some k:=by unfold qC;dsimp only;rw[if_pos ⟨o_,o_⟩];simp
theorem CY{id n k:Nat}(hk:k<n):fF C.P 32 (.msl id 0 4 n none) (some (.int .i64 k)) none none=some (.msl id (4*k) 4 (n-k) none):=by
 have e:=N7 (nO hk);by_cases a:k=0
 ·subst a;simp only[Int.natCast_zero]at e ⊢;simp[fF,u23,s25,mB,e]
 simp[fF,u23,s25,mB,e,a,hk];omega
theorem IA{id n k:Nat}(hk:k<=n):fF C.P 32 (.msl id 0 4 n none) none (some (.int .i64 k)) none=some (.msl id 0 4 k none):=by have e:=N7 hk;simp[fF,u23,s25,mB,e]
end Go.VZ
namespace Go.VZ
open Go Go.V Go.Proofs Tryz TL
theorem pq{l:Lq}{j:Nat}(h:j<l.length):l.getD j default=l[j]:=by rw[dL,aF h];rfl
def NIA(l:Lq) (rest:LA) (id n:Nat) (m:Nat) (st:PT) (h:H):Prop:=∃k:Nat,m=n-k/\1<=k/\k<=n/\h[id]?=some (.cells (bZ l++rest) .live)/\st.get 0=.msl id 0 4 n none/\st.get 1=.func 128 []/\st.get 5=.int .i64 k /\
 ∀i,0<i->i<k->(l.getD i default).cmp (l.getD (i-1) default)≠0
def NIB(l:Lq) (rest:LA) (id n k0:Nat) (m:Nat) (st:PT) (h:H):Prop:=∃(j p:Nat),m=n-j/\k0+1<=j/\j<=n/\p=(ddj l j).length/\p+1<=j/\h[id]?=some (.cells (bZ (ddj l j++l.drop p)++rest) .live)/\st.get 0=.msl id 0 4 n none/\st.get 1=.func 128 []/\st.get 5=.int .i64 p /\
 st.get 6=.msl id (4*k0) 4 (n-k0) none/\st.get 7=.int .i64 ((j-k0:Nat):Int)
theorem HS{N:Nat}{h0:H}{v:AV}{l:Lq}(r:RowZ N h0 v l) (hs:∀t∈l,t.size<4000000) (hl:l.length<1000000000):∃v' h',Go.V.Call C 127 [v,.func 128 []] h0=some (v',h')/\RowZ N h' v' (dd l):=by
 refine kA rfl func127 rfl k_ (by simp[f127]) λR hR=>?_
 rcases r with⟨rfl,rfl⟩|⟨id,d,rfl,c,hz,hN⟩
 ·simp[go_sem,dP,fq];exact hR _ _ _ (.inr rfl) ⟨.isl [] .full,by simp[ag,cO,f127,go_sem],.inl ⟨rfl,rfl⟩⟩
 have f:fG C.P 32 (.msl id 0 4 l.length none)=some (.int .i64 l.length):=by simp[fG,u23]
 obtain⟨n,E⟩:∃n,n=l.length:=⟨_,rfl⟩
 rw[<-E]at f hl ⊢;by_cases q3:n<2
 ·have o:(n:Int)<2:=o_;simp[go_sem,dP,f,o];refine hR _ _ _ (.inr rfl) ⟨.msl id 0 4 n none,by simp[ag,cO,f127,go_sem],.inr ⟨id,d,?_,?_,hz,?_⟩⟩;all_goals
   have e:dd l=l:=by unfold dd;rw[wz _ (aP _) (λi a b=>o_),ak]
   rw[e]
  ·rw[E]
  ·exact ga c
  exact hN
 have o:¬(n:Int)<2:=o_;simp[go_sem,f,o];refine bX (NIA l d id n) (n-1) ⟨1,rfl,aP _,o_,ga c,g_,g_,g_,λi a b=>o_⟩ ?_;clear c;rintro m st h ⟨k,rfl,q4,hk,c,F,M,G,A⟩;have O:IntKind.i64.wrap ((k:Int)-1)=((k-1:Nat):Int):=by rw[ay o_];omega
 by_cases X:k<n
 rotate_left
 ·have:k=n:=o_;subst this;simp[go_sem,F,G,f];refine hR _ _ _ (.inr rfl) ⟨.msl id 0 4 k none,by simp[ag,cO,f127,go_sem],.inr ⟨id,d,?_,?_,hz,?_⟩⟩;all_goals
   have e:dd l=l:=by unfold dd;rw[wz _ (aP _) (λi a b=>A i a o_),ak]
   rw[e]
  ·rw[E]
  ·exact c
  exact hN
 have q:(k:Int)<n:=o_;have I:k<l.length:=o_;have s:k-1<l.length:=o_;have Q:aZ C.P 32 (.msl id 0 4 n none) (.int .i64 k)=some (.ptr id (4*k)):=tV X;have S:aZ C.P 32 (.msl id 0 4 n none) (.int .i64 ((k-1:Nat):Int))=some (.ptr id (4*(k-1))):=tV o_;have J:=pj c I;have K:=pj c s;have U:=JF l[k] l[k-1] (hs _ (aG _)) (hs _ (aG _));have Y:=wS k o_;by_cases z:l[k].cmp l[k-1]=0
 rotate_left
 ·simp[go_sem,F,M,G,f,q,O,Q,S,J,K,U,z,-Int.natCast_add,Y];refine⟨n-(k+1),o_,k+1,rfl,o_,o_,c,g_,g_,g_,λi a b=>?_⟩;by_cases e:i<k
  ·exact A i a e
  have:i=k:=o_;subst this;rw[pq I,pq s];exact z
 have s1:fF C.P 32 (.msl id 0 4 n none) (some (.int .i64 k)) none none=some (.msl id (4*k) 4 (n-k) none):=CY X;simp[go_sem,F,M,G,f,q,O,Q,S,J,K,U,z,s1];have Z:ddj l k=l.take k:=wz k o_ A;have u:ddj l (k+1)=l.take k:=by rw[ddj,if_pos ⟨o_,by rw[pq I,pq s];exact z⟩,Z]
 refine bX (NIB l d id n k) (n-(k+1)) ⟨k+1,k,rfl,aP _,o_,by rw[u];simp;omega,aP _,by rw[u,dx];exact c,g_,g_,g_,g_,g_⟩ ?_;clear c F M G J K U z s1 Q S O Y A Z u q;rintro m st h ⟨j,p,rfl,q5,hj,B,q6,c,F,M,G,g6,g7⟩;have w:fG C.P 32 (.msl id (4*k) 4 (n-k) none)=some (.int .i64 ((n-k:Nat):Int)):=by simp[fG,u23]
 have q0:(ddj l j++l.drop p).length=l.length:=by simp[<-B];omega
 by_cases q7:j<n
 ·have D:((j-k:Nat):Int)<((n-k:Nat):Int):=o_;have q1:j<l.length:=o_;have q':j-1<l.length:=o_;have Q:aZ C.P 32 (.msl id (4*k) 4 (n-k) none) (.int .i64 ((j-k:Nat):Int))=some (.ptr id (4*j)):=by rw[Ii o_,show k+(j-k)=j by omega]
  have S:aZ C.P 32 (.msl id (4*k) 4 (n-k) none) (.int .i64 ((j-k-1:Nat):Int))=some (.ptr id (4*(j-1))):=by rw[Ii o_,show k+(j-k-1)=j-1 by omega]
  have i3:aZ C.P 32 (.msl id 0 4 n none) (.int .i64 p)=some (.ptr id (4*p)):=tV o_;have O:IntKind.i64.wrap (((j-k:Nat):Int)-1)=((j-k-1:Nat):Int):=by rw[ay o_];omega
  have Y:IntKind.i64.wrap (((j-k:Nat):Int)+1)=((j+1-k:Nat):Int):=by rw[ay o_];omega
  have w3:=wS p o_;have J:=pj c (k:=j) o_;have K:=pj c (k:=j-1) o_;have e1:(ddj l j++l.drop p)[j]' o_=l[j]:=by rw[jB o_];simp only[<-B,List.getElem_drop];congr 1;omega
  have e2:(ddj l j++l.drop p)[j-1]' o_=l[j-1]:=by rw[jB o_];simp only[<-B,List.getElem_drop];congr 1;omega
  rw[e1]at J;rw[e2]at K;have U:=JF l[j] l[j-1] (hs _ (aG _)) (hs _ (aG _));have g:ddj l (j+1)=if l[j].cmp l[j-1]=0 then ddj l j else ddj l j++[l[j]]:=by
   rw[ddj,pq q1,pq q'];by_cases e:l[j].cmp l[j-1]=0
   ·rw[if_pos ⟨o_,e⟩,if_pos e]
   rw[if_neg (λx=>e x.2),if_neg e]
  by_cases z:l[j].cmp l[j-1]=0
  ·rw[if_pos z]at g;simp[go_sem,M,g6,g7,w,D,O,Q,S,J,K,U,z,-Int.natCast_add,Y];exact⟨n-(j+1),o_,j+1,p,rfl,o_,o_,by rw[g];exact B,o_,by rw[g];exact c,g_,g_,g_,g_,g_⟩
  rw[if_neg z]at g;have s2:=xX l[j] c (k:=p) o_;have e3:(ddj l j++l.drop p).set p l[j]=ddj l j++[l[j]]++l.drop (p+1):=by rw[List.set_append_right _ _ o_,<-B,nN,aI (by omega:p<l.length)];simp only[List.set_cons_zero,List.append_assoc,nZ]
  rw[e3]at s2;have y:=(aB.1 c).1;simp[go_sem,F,M,G,g6,g7,w,D,O,Q,S,J,K,U,z,i3,s2,-Int.natCast_add,Y,w3,-List.append_assoc];exact⟨n-(j+1),o_,j+1,p+1,rfl,o_,o_,by rw[g];simp[<-B],o_,by rw[g];exact aD y,g_,g_,g_,g_,g_⟩
 have:j=n:=o_;subst this;have s1:fF C.P 32 (.msl id 0 4 j none) (some (.int .i64 p)) none none=some (.msl id (4*p) 4 (j-p) none):=CY o_;have s2:fF C.P 32 (.msl id 0 4 j none) none (some (.int .i64 p)) none=some (.msl id 0 4 p none):=IA o_;have⟨L,hc,q2,q8⟩:=CF c (k:=p) o_ hz;rw[q0,<-E]at hc;have y:=(aB.1 c).1;have et:(ddj l j++l.drop p).take p=dd l:=by unfold dd;rw[<-E,bq o_,bJ o_]
 rw[et]at hc;simp[go_sem,F,G,g6,g7,w,s1,s2,hc];refine hR _ _ _ (.inr rfl) ⟨.msl id 0 4 p none,by simp[ag,cO,f127,go_sem],.inr ⟨id,L,?_,aD y,q2,?_⟩⟩
 ·unfold dd;rw[<-E,<-B]
 unfold dd;rw[<-E,<-B];omega
end Go.VZ
namespace Go.VZ
open Go Go.V TL
theorem DL:∀a b:T,enc a=enc b->a=b:=by
 refine T.ind λa c b h=>?_
 cases a with
 |mk k n s l=>cases b with
  |mk i j o d=>
   rw[bV,bV]at h;simp only[AV.agg.injEq,ct,AV.int.injEq,AV.str.injEq,true_and,and_true,T.kind,T.name,T.sort,T.kids,terms,AV.isl.injEq]at h c;obtain⟨rfl,rfl,rfl,h⟩:=h;congr 1
   clear k n s;induction l generalizing d with
   |nil=>cases d with
    |nil=>rfl
    |cons b m=>cases h
   |cons a l e=>cases d with
    |nil=>cases h
    |cons b m=>simp only[aM,ct]at h;rw[c a s_ b h.1,e (λk f b g=>c k (by simp[f]) b g) m h.2]
theorem Ar:∀l m:Lq,bZ l=bZ m->l=m
 |[],[],_=>rfl
 |[],b::m,h=>by rw[jL]at h;cases h
 |a::l,[],h=>by rw[jL]at h;cases h
 |a::l,b::m,h=>by rw[jL,jL]at h;simp only[cV,cN,ct]at h;have⟨h1,h2,h3,h4,h5⟩:=h;rw[Ar l m h5,DL a b (by rw[bV,bV,h1,h2,h3,h4])]
theorem As{l:Lq}{j c:Nat}(hj:j<l.length) (hc:c<4):(bZ l)[4*j+c]?=(enc l[j]).cells[c]?:=by
 induction l generalizing j with
 |nil=>simp at hj
 |cons a l b=>
  have e:bZ (a::l)=(enc a).cells++bZ l:=rfl;have d:(enc a).cells.length=4:=by rw[aq];rfl
  rw[e];cases j with
  |zero=>rw[aH o_];simp
  |succ j=>rw[ap o_,show 4*(j+1)+c-(enc a).cells.length=4*j+c by omega,b (by simpa using hj)];simp
end Go.VZ
namespace TL
def qJ(l:Lq):Lq:=dd (srt l)
theorem MY{l:Lq}{t:T}(h:t∈qJ l):t∈l:=mem_srt.1 (St h)
theorem EX(l:Lq):(qJ l).length<=l.length:=by have:=Iw (srt l) (srt l).length;have e:=srt_len l;unfold qJ dd;omega
end TL
namespace Go.VZ
open Go Go.V Go.Proofs Tryz TL
theorem Qq{h:H}{v:AV}{l:Lq}(r:Row h v l) (hs:∀t∈l,t.size<4000000) (hl:l.length<1000000000):∃h',aj C h (.func 126 []) (some [v,.func 98 []])=some (.tuple [],h')/\Row h' v (srt l)/\h'.length=h.length:=by
 rw[eT k_ rfl];rcases r with⟨rfl,rfl⟩|⟨id,rfl,b⟩
 ·refine⟨h,kK (C:=C) (fn:=f126) func126 rfl,.inl ⟨?_,rfl⟩,rfl⟩;have:=srt_len [];simpa using this
 refine⟨h.set id (.cells (bZ (srt l)) .live),kK (C:=C) (fn:=f126) func126 ?_,.inr ⟨id,by rw[srt_len],aD (aB.1 b).1⟩,s_⟩;have d:∀a,C.prim 126 a h=tH a h:=λa=>by have:C.prim=Go.VZ.prim:=rfl;rw[this];rfl
 rw[d];have e:∃l':Lq,l.length=l'.length/\l'.length<1000000000/\(∀t∈l',t.size<4000000)/\h[id]?=some (.cells (l'.flatMap λt=>(enc t).cells) .live):=⟨l,rfl,hl,hs,b⟩
 have f:e.choose=l:=by have c:=e.choose_spec.2.2.2;generalize e.choose=m at c;rw[b]at c;simp only[aA,VObj.cells.injEq,and_true]at c;exact(Ar _ _ c).symm
 have g:tH [.msl id 0 4 l.length none,.func 98 []] h=@dite _ (∃l':Lq,l.length=l'.length/\l'.length<1000000000/\(∀t∈l',t.size<4000000)/\h[id]?=some (.cells (l'.flatMap λt=>(enc t).cells) .live)) (Classical.propDecidable _) (λe=>some (.tuple [],h.set id (.cells ((srt e.choose).flatMap λt=>(enc t).cells) .live))) (λ_=>none):=rfl;rw[g,dif_pos e,f];rfl
def XQ(N:Nat) (l:Lq) (v:AV) (m:Nat) (st:PT) (h:H):Prop:=∃k:Nat,m=l.length-k/\k<=l.length/\RowZ N h v l/\st.get 0=v/\st.get 9=.int .i64 l.length/\st.get 10=.int .i64 k
theorem RowZ.len{N:Nat}{h:H}{v:AV}{l:Lq}(r:RowZ N h v l):fG C.P 32 v=some (.int .i64 l.length):=by rcases r with⟨rfl,rfl⟩|⟨id,a,rfl,_⟩<;>simp[fG,u23]
theorem Gh{h0:H}{v:AV}{l:Lq}(r:Row h0 v l) (hs:∀t∈l,t.size<4000000) (hl:l.length<1000000000):∃v' h',Go.V.Call C 88 [v] h0=some (v',h')/\RowZ (4*l.length) h' v' (qJ l):=by
 refine kA rfl func88 rfl k_ (by simp[f88]) λR s=>?_
 have⟨O,x,y,_⟩:=Qq (h:=h0++[.tok 0 41]) (GQ r) hs hl;have⟨q,F,A,b⟩:=HS y.z (λt u=>hs t (mem_srt.1 u)) (by rw[srt_len];exact hl);have i:=(eT (f:=127) k_ rfl).trans A;have c:=b.len;have w:(qJ l).length<1000000000:=by have:=EX l;omega
 have j:∀t∈qJ l,t.size<4000000:=λt u=>hs t (MY u)
 rw[srt_len]at b;change RowZ (4*l.length) F q (qJ l)at b;change fG C.P 32 q=some (.int .i64 (qJ l).length)at c;generalize qJ l=m at b c w j s;generalize 4*l.length=N at b s;simp[go_sem,x,i,c];refine bX (XQ N m q) m.length ⟨0,rfl,aO _,b,g_,g_,g_⟩ ?_;clear b A i x y c;rintro _ st h ⟨k,rfl,Q,b,B,D,n⟩;by_cases a:k<m.length
 ·have o:(k:Int)<m.length:=o_;rcases b with⟨e,_⟩|⟨id,d,rfl,g,G,I⟩
  ·subst e;simp at a
  have J:=wS k o_;have K:aZ C.P 32 (.msl id 0 4 m.length none) (.int .i64 k)=some (.ptr id (4*k)):=tV a;have L:=pj g a;have E:=xX m[k] g a;rw[List.set_getElem_self]at E;have M:=Qp m[k] (j _ (aG a));have p:=(aB.1 g).1;simp[go_sem,B,D,n,o,K,L,E,M,-Int.natCast_add,J];exact⟨m.length-(k+1),o_,k+1,rfl,a,.inr ⟨id,d,rfl,aD p,G,I⟩,g_,g_,g_⟩
 have:k=m.length:=o_;subst this;simp[go_sem,B,D,n];refine s _ _ _ (.inr rfl) ⟨q,?_,b⟩;rcases b with⟨_,rfl⟩|⟨id,d,rfl,_⟩<;>simp[ag,cO,f88,go_sem]
end Go.VZ
namespace TL
def iv(t:T):Bool:=decide (t.kind=1)
end TL
namespace Go.VZ
open Go Go.V Go.Proofs Tryz TL
theorem VS(t:T):az C 48 [enc t]=some (.bool (!iv t)):=by
 refine bL func48 rfl λR a=>?_
 simp[go_sem,dP];refine a ⟨_,rfl,?_⟩;simp[go_sem,iv];exact aU rfl rfl
theorem Nu(t:T) (h:H):aj C h (.func 48 []) (some [enc t])=some (.bool (!iv t),h):=an (fv _) (by simp[bF]) s_ (VS t)
def XS(l:Lq) (v:AV) (h0:H) (m:Nat) (st:PT) (h:H):Prop:=∃k:Nat,m=l.length-k/\k<=l.length/\h=h0/\st.get 0=v/\st.get 1=.func 48 []/\st.get 7=.int .i64 l.length/\st.get 8=.int .i64 k/\∀t∈l.take k,iv t=true
theorem Mz{N:Nat}{h0:H}{v:AV}{l:Lq}(r:RowZ N h0 v l) (hl:l.length<1000000000):∃i:Int,Go.V.Call C 85 [v,.func 48 []] h0=some (.int .i64 i,h0)/\((i = -1/\∀t∈l,iv t=true)\/∃k:Nat,i=k/\∃hk:k<l.length,iv l[k]=false/\∀t∈l.take k,iv t=true):=by
 suffices hh:∃x o,Go.V.Call C 85 [v,.func 48 []] h0=some (x,o)/\(o=h0/\∃i:Int,x=.int .i64 i/\((i = -1/\∀t∈l,iv t=true)\/∃k:Nat,i=k/\∃hk:k<l.length,iv l[k]=false/\∀t∈l.take k,iv t=true)) by
  obtain⟨x,o,a,rfl,i,rfl,c⟩:=hh;exact⟨i,a,c⟩
 refine kA rfl func85 rfl k_ (by simp[f85]) λR y=>?_
 have p:=r.len;simp[go_sem,p];refine bX (XS l v h0) l.length ⟨0,rfl,aO _,rfl,g_,g_,g_,g_,s_⟩ ?_;rintro m st h ⟨k,rfl,hk,rfl,z,A,q,s,j⟩;by_cases b:k<l.length
 ·have d:(k:Int)<l.length:=o_;rcases r with⟨e,_⟩|⟨id,B,rfl,u,G,I⟩
  ·subst e;simp at b
  have F:=wS k o_;have D:aZ C.P 32 (.msl id 0 4 l.length none) (.int .i64 k)=some (.ptr id (4*k)):=tV b;have E:=pj u b;have n:=Nu l[k];by_cases w:iv l[k]=true
  ·rw[w]at n;simp[go_sem,z,A,q,s,d,D,E,n,-Int.natCast_add,F];refine⟨l.length-(k+1),o_,k+1,rfl,b,rfl,g_,g_,g_,g_,λt f=>?_⟩;rw[be b]at f;rcases aK.1 f with f|f
   ·exact j t f
   simp only[aS]at f;rw[f];exact w
  have g:iv l[k]=false:=by simpa using w
  rw[g]at n;simp[go_sem,z,A,q,s,d,D,E,n];exact y _ _ _ (.inr rfl) ⟨.int .i64 k,by simp[ag,cO,f85,go_sem],rfl,k,rfl,.inr ⟨k,rfl,b,g,j⟩⟩
 have:k=l.length:=o_;subst this;rw[ak]at j;simp[go_sem,q,s];exact y _ _ _ (.inr rfl) ⟨.int .i64 (-1),by simp[ag,cO,f85,go_sem],rfl,-1,rfl,.inl ⟨rfl,j⟩⟩
def Zj(N:Nat) (l:Lq) (id n:Nat) (m:Nat) (st:PT) (h:H):Prop:=∃(j p:Nat) (rest:LA),m=n-j/\j<=n/\p=((l.take j).filter iv).length/\p+1<=j/\h[id]?=some (.cells (bZ ((l.take j).filter iv++l.drop p)++rest) .live)/\Zs rest/\4*n+rest.length<=N/\st.get 0=.msl id 0 4 n none/\st.get 1=.func 48 []/\st.get 5=.int .i64 p/\st.get 6=.int .i64 j
theorem NW{N:Nat}{h0:H}{v:AV}{l:Lq}(r:RowZ N h0 v l) (hl:l.length<1000000000):∃v' h',Go.V.Call C 46 [v,.func 48 []] h0=some (v',h')/\RowZ N h' v' (l.filter iv):=by
 refine kA rfl func46 rfl k_ (by simp[f46]) λR hR=>?_
 have I:RowZ N (h0++[.tok 0 41]) v l:=by
  rcases r with e|⟨id,a,rfl,b,q,x⟩
  ·exact .inl e
  exact .inr ⟨id,a,rfl,ga b,q,x⟩
 have⟨i,y,hi⟩:=Mz I hl;have u:=(eT (f:=85) k_ rfl).trans y;rcases hi with⟨rfl,z⟩|⟨k,rfl,hk,hv,A⟩
 ·have ef:l.filter iv=l:=pE.2 z;simp[go_sem,dP,u];refine hR _ _ _ (.inr rfl) ⟨v,?_,by rw[ef];exact I⟩;rcases r with⟨_,rfl⟩|⟨id,a,rfl,_⟩<;>simp[ag,cO,f46,go_sem]
 rcases I with⟨e,_⟩|⟨id,a,rfl,b,q,x⟩
 ·subst e;simp at hk
 have o:fG C.P 32 (.msl id 0 4 l.length none)=some (.int .i64 l.length):=by simp[fG,u23]
 obtain⟨n,D⟩:∃n,n=l.length:=⟨_,rfl⟩
 rw[<-D]at o hl hk u ⊢;have J:¬((k:Int) = -1):=o_;have E:=wS k o_;simp[go_sem,u,J,-Int.natCast_add,E];have ft:(l.take k).filter iv=l.take k:=pE.2 A;have K:k<l.length:=o_;have B:(l.take (k+1)).filter iv=l.take k:=by rw[be K,gu,ft];simp[hv]
 refine bX (Zj N l id n) (n-(k+1)) ⟨k+1,k,a,rfl,o_,by rw[B];simp;omega,aP _,by rw[B,dx];exact b,q,o_,g_,g_,g_,g_⟩ ?_;clear b q x a;rintro m st h ⟨j,p,a,rfl,hj,s,q',b,q,x,L,g1,g5,M⟩;have O:((l.take j).filter iv++l.drop p).length=l.length:=by rw[List.length_append,<-s,ek];omega
 by_cases Q:j<n
 ·have t:(j:Int)<n:=o_;have S:j<l.length:=o_;have i1:aZ C.P 32 (.msl id 0 4 n none) (.int .i64 j)=some (.ptr id (4*j)):=tV Q;have i3:aZ C.P 32 (.msl id 0 4 n none) (.int .i64 p)=some (.ptr id (4*p)):=tV o_;have E:=wS j o_;have w3:=wS p o_;have U:=pj b (k:=j) o_;have e1:((l.take j).filter iv++l.drop p)[j]' o_=l[j]:=by rw[jB o_];simp only[<-s,List.getElem_drop];congr 1;omega
  rw[e1]at U;have e4:=qM l[j] h;have e5:=pk l[j] h;have d:(h++[.cells (enc l[j]).cells .live])[id]?=some (.cells (bZ ((l.take j).filter iv++l.drop p)++a) .live):=ga b;have y:=Nu l[j];have c:(l.take (j+1)).filter iv=if iv l[j]=true then(l.take j).filter iv++[l[j]]else(l.take j).filter iv:=by rw[be S,gu];by_cases e:iv l[j]=true<;>simp[e]
  by_cases F:iv l[j]=true
  ·rw[if_pos F]at c;rw[F]at y;have G:=xX l[j] d (k:=p) o_;have e3:((l.take j).filter iv++l.drop p).set p l[j]=(l.take j).filter iv++[l[j]]++l.drop (p+1):=by rw[List.set_append_right _ _ o_,<-s,nN,aI (by omega:p<l.length)];simp only[List.set_cons_zero,List.append_assoc,nZ]
   rw[e3]at G;have g:=(aB.1 d).1;simp[go_sem,L,g1,g5,M,o,t,i1,U,e4,e5,y,i3,G,-Int.natCast_add,E,w3,-List.append_assoc];exact⟨n-(j+1),o_,j+1,p+1,a,rfl,o_,by rw[c];simp[<-s],o_,by rw[c];exact aD g,q,x,g_,g_,g_,g_⟩
  rw[if_neg F]at c;have X:iv l[j]=false:=by simpa using F
  rw[X]at y;simp[go_sem,L,g1,M,o,t,i1,U,e4,e5,y,-Int.natCast_add,E];exact⟨n-(j+1),o_,j+1,p,a,rfl,o_,by rw[c];exact s,o_,by rw[c];exact d,q,x,g_,g_,g_,g_⟩
 have:j=n:=o_;subst this;have s1:fF C.P 32 (.msl id 0 4 j none) (some (.int .i64 p)) none none=some (.msl id (4*p) 4 (j-p) none):=CY o_;have G:fF C.P 32 (.msl id 0 4 j none) none (some (.int .i64 p)) none=some (.msl id 0 4 p none):=IA o_;have⟨w,Y,Z,q0⟩:=CF b (k:=p) o_ q;rw[O,<-D]at Y;have g:=(aB.1 b).1;rw[D,ak]at s;have et:((l.take j).filter iv++l.drop p).take p=l.filter iv:=by rw[D,ak,bq o_,bJ o_]
 rw[et]at Y;simp[go_sem,L,g5,M,o,s1,G,Y];refine hR _ _ _ (.inr rfl) ⟨.msl id 0 4 p none,by simp[ag,cO,f46,go_sem],.inr ⟨id,w,by rw[<-s],aD g,Z,by rw[<-s];omega⟩⟩
end Go.VZ
namespace TL
def bD(t:T):Lq:=[t]
theorem kd(t:T):(bD t).length<=1:=aP _
theorem pU{f:T->Lq}(hf:∀t,∀x∈f t,x=t){n:Nat}:∀t:T,t.size<n->∀x∈bm f t,x.size<n:=by
 refine T.ind λt c d x a=>?_
 rw[ss]at a;rcases aK.1 a with a|a
 ·rw[hf t x a];exact d
 rw[ng,bR]at a;have⟨k,b,a⟩:=a;exact c k b (by have:=kid_size b;omega) x a
theorem Du{f:T->Lq}(hf:∀t,∀x∈f t,x=t){n:Nat}{l:Lq}(hl:∀t∈l,t.size<n):∀x∈eJ f l,x.size<n:=λx a=>by rw[ng,bR]at a;have⟨k,b,a⟩:=a;exact pU hf k (hl k b) x a
theorem rW(t:T):∀x∈bD t,x=t:=λx a=>by simpa[bD]using a
theorem NX{l:Lq}:∀j,0<j->ddj l j≠[]
 |0,h=>o_
 |1,_=>by simp[ddj]
 |j+2,_=>by
  rw[ddj];split
  ·exact NX (j+1) o_
  simp
theorem PS{l:Lq}(h:l≠[]):qJ l≠[]:=by unfold qJ dd;refine NX _ ?_;rw[srt_len];exact jY.2 h
end TL
namespace Go.VZ
open Go Go.V Go.Proofs Tryz TL
theorem YW:iV C.P 32=some (.isl [] .full):=k_
theorem KF:Ok3 0 [] [.cells [.isl [] .full] .live] []:=⟨.isl [] .full,rfl,.inl ⟨rfl,rfl⟩,λp a=>by simp at a⟩
theorem up3{i3:Nat}{h:H}{m:Lq}(o:VObj){pr:List (Nat × VObj)}(k:Ok3 i3 pr h m):Ok3 i3 pr (h++[o]) m:=(k.push o).less λ_p a=>bP _ a
def Zi(l:Lq) (m:Nat) (st:PT) (h:H):Prop:=∃k:Nat,m=l.length-k/\k<=l.length/\st.get 3=.ptr 0 0/\st.get 6=terms l/\st.get 7=.int .i64 l.length/\st.get 8=.int .i64 k/\Ok3 0 [] h (eJ bD (l.take k))
theorem VA(l:Lq) (hs:∀t∈l,t.size<4000000) (hl:sizes l<80000000):∃v' h',Go.V.Call C 47 [terms l] []=some (v',h')/\RowZ (4*(eJ bD l).length) h' v' (qJ (eJ bD l)):=by
 refine kA rfl func47 rfl k_ (by simp[f47]) λR u=>?_
 have c:=dX l;have j:=len_sizes l;simp[go_sem,YW,c];refine bX (Zi l) l.length ⟨0,rfl,aO _,g_,g_,g_,g_,KF⟩ ?_;rintro m st h ⟨k,rfl,I,n,w,o,p,ok⟩;by_cases a:k<l.length
 ·have b:(k:Int)<l.length:=o_;have d:=dh l k a;have x:=qM l[k] h;have y:=pk l[k] h;have z:=wS k o_;have e:=hs _ (aG a);have A:=take_sizes a;have B:=take_sizes_le l (k+1);have g:=kY bD kd (l.take k);have⟨J,D,ok2⟩:=Of 87 [.ptr 0 0] 0 [] bD kd (Tk 0) l[k] (h++[.cells (enc l[k]).cells .live]) (eJ bD (l.take k)) e o_ (up3 _ ok);have i:=(eT (f:=86) k_ rfl).trans D;simp[go_sem,n,w,o,p,b,d,ee,x,y,i,-Int.natCast_add,z];refine⟨l.length-(k+1),o_,k+1,rfl,a,g_,g_,g_,g_,?_⟩;have:=ok2 _ (up3 _ ok);rw[be a,qe];simpa[eJ]using this
 have:k=l.length:=o_;subst this;rw[ak]at ok;have⟨v,E,q,_⟩:=ok;have F:=Ro E q;have g:=kY bD kd l;have⟨v',h',G,r⟩:=Gh q (Du rW hs) o_;have i:=(eT (f:=88) k_ rfl).trans G;simp[go_sem,n,o,p,F,i];refine u _ _ _ (.inr rfl) ⟨v',?_,r⟩;rcases r with⟨_,rfl⟩|⟨id,s,rfl,_⟩<;>simp[ag,cO,f47,go_sem]
theorem DO:∀ {r:LA},Zs r->∃r',iT r=some r'/\Zs r'/\r'.length=r.length
 |[],_=>⟨[],rfl,λx hx=>by simp at hx,rfl⟩
 |a::r,hz=>by
  have⟨r',h1,h2,h3⟩:=DO (r:=r) λx hx=>hz x (by simp[hx])
  have:∃b,dat a=some b/\(b=.int .i64 0\/b=.str ⟨#[]⟩\/b=.isl [] .full\/b=.isl [] .unk):=by
   rcases hz a s_ with rfl|rfl|rfl|rfl
   ·exact⟨_,rfl,.inl rfl⟩
   ·exact⟨_,rfl,.inr (.inl rfl)⟩
   ·exact⟨.isl [] .unk,rfl,.inr (.inr (.inr rfl))⟩
   exact⟨.isl [] .unk,rfl,.inr (.inr (.inr rfl))⟩
  have⟨b,e,c⟩:=this;refine⟨b::r',by simp only[iT,e,h1],λx hx=>?_,by simp[h3]⟩;rcases aV.1 hx with rfl|hx
  ·exact c
  exact h2 x hx
theorem EC{r:LA}(hz:Zs r):r.all short=true:=by rw[av];intro x a;rcases hz x a with rfl|rfl|rfl|rfl<;>rfl
theorem FU{f:FuncId}{h:H}{args args':LA}(hb:dl C.P f=true) (hm:C.mode f=.ownM) (hd:iT args=some args') (hs:args.all short=true) (hl:args.length<90000)
  {id len sz:Nat}{h1:H}{cs cs':LA}(hsz:1<sz) (hc:Go.V.Call C f args' []=some (.msl id 0 sz len none,h1)) (hid:h1[id]?=some (.cells cs .live)) (hcs:iT cs=some cs') (hsh:cs.all short=true) (hcl:cs.length<=90000) (hlen:len*sz<=cs.length) :
  aj C h (.func f []) (some args)=some (.msl h.length 0 sz len none,h++[.cells cs' .live]):=by
 have⟨a,b⟩:=dM (h:=h) hd hs cM (by unfold cM;omega);simp only[aj,hb,if_true,br];unfold dJ;rw[hm];dsimp only;rw[b];simp only[Go.V.freeze,a];rw[hc];dsimp only;unfold kS;dsimp only;have c:=(dM (h:=kJ h1 id) hcs hsh cM (by unfold cM;omega)).1;have d:iw C.P .ownM h1 h (.msl id 0 sz len none)=none:=by simp only[iw,nY,hid];rw[if_neg o_]
 rw[d];simp only[iy,kP,hid,c];rw[if_pos ⟨o_,o_⟩]
end Go.VZ
namespace Go.VZ
open Go Go.V Go.Proofs Tryz TL
theorem vK:∀(l:Lq) (r:LA),io 4 l.length (bZ l++r)=l.map enc
 |[],r=>rfl
 |a::l,r=>by have:=vK l r;rw[jL];simp only[aL,io,cV,cN,lV,qF,lZ,eH,aM,this,bV]
theorem Bg{N:Nat}{h:H}{v:AV}{l:Lq}(r:RowZ N h v l) (hN:N<=80000):eW (bo h) cM v=some (terms l):=by
 rcases r with⟨rfl,rfl⟩|⟨id,a,rfl,b,c,j⟩
 ·exact aU rfl rfl
 have⟨k,f,m,n⟩:=DO c;have d:=fU l;have g:=sk b;have e:(bZ l++a).length<=80000:=by rw[List.length_append,d];omega
 have i:=(dM (h:=bo h) (jo (tj l) f) (by rw[eM,rX,EC c];rfl) 999999 o_).1;have:cM=999999+1:=rfl;rw[this];simp only[eW,g,i];rw[if_pos (by rw[List.length_append,d];omega),eH,vK];rfl
def cC(fs:List Fa):Lq:=fs.flatMap Fa.terms
theorem oS{fs:List Fa}{k:Nat}(hk:k<fs.length):cC (fs.take (k+1))=cC (fs.take k)++fs[k].terms:=by rw[be hk,cC,fm];simp[cC]
def Dv(fs:List Fa):Lq:=(qJ (eJ bD (cC fs))).filter iv
def qI:LA:=[.int .i64 0,.int .i64 0,.isl [] .full]
theorem qv:iV C.P 34=some (.agg qI):=k_
theorem yW(f:Fa) (h:H):ah C.P (h++[.cells qI .live]) 34 (.ptr h.length 0) (aQ f)=some (h++[.cells (faC f) .live]):=by simp[ah,s35,aQ,faC,qI]
theorem Rn(f:Fa) (h:H):aJ C.P (h++[.cells (faC f) .live]) 34 (.ptr h.length 0)=some (aQ f):=by simp[aJ,aY,a35,s35,faC,aQ]
def Zr(fs:List Fa) (m:Nat) (st:PT) (h:H):Prop:=∃k:Nat,m=fs.length-k/\k<=fs.length/\st.get 6=bK fs/\st.get 7=.int .i64 fs.length/\st.get 8=.int .i64 k/\OwnR 41 h (st.get 3) ((cC (fs.take k)).map enc)
theorem yv(fs:List Fa) (k:Nat):(cC (fs.take k)).length<=(cC fs).length:=by
 conv=>rhs;rw[<-dx k fs]
 simp only[cC,fm,List.length_append];omega
theorem LV(fs:List Fa) (hs:∀t∈cC fs,t.size<4000000) (hl:sizes (cC fs)<=10000) (hfl:fs.length<=10000) (hne:cC fs≠[]):az C 24 [bK fs]=some (terms (Dv fs)):=by
 refine bL func24 rfl λR N=>?_
 have s:=iu fs;have O:=len_sizes (cC fs);simp[go_sem,s];refine bX (Zr fs) fs.length ⟨0,rfl,aO _,g_,g_,g_,.inr ⟨1,by simp[go_sem,cC]⟩⟩ ?_;rintro m st h ⟨k,rfl,hk,Q,G,I,q⟩;obtain⟨u,w⟩:∃v,v=st.get 3:=⟨_,rfl⟩
 rw[<-w]at q;by_cases c:k<fs.length
 ·have i:(k:Int)<fs.length:=o_;have y:aZ C.P 29 (bK fs) (.int .i64 k)=some (.iptr (aQ fs[k]) 0):=kD fs k c .unk;have S:=wS k o_;have J:=yW fs[k] h;have z:=ll fs[k] h;obtain⟨r,d⟩:∃g,g=h++[.cells (faC fs[k]) .live]:=⟨_,rfl⟩
  have nb:r[h.length]?=some (.cells (faC fs[k]) .live):=by rw[d];simp
  have A:=mY nb;rw[<-d]at J;have B:OwnR 41 r u ((cC (fs.take k)).map enc):=by rw[d];exact q.keep (Keep.append _ _ none) s_
  have D:=yv fs (k+1);rw[oS c,List.length_append]at D;have⟨U,V,j,K,_,_⟩:=jN (ys:=fs[k].terms) (x:=.unk) B o_;rw[<-oS c]at K;change bi C.P false r 32 u (terms fs[k].terms)=some (U,V)at j;simp[go_sem,Q,G,I,<-w,i,y,z,qv,J,A,j,am,-Int.natCast_add,S];exact⟨fs.length-(k+1),o_,k+1,rfl,c,g_,g_,g_,by simpa[go_sem]using K⟩
 have:k=fs.length:=o_;subst this;rw[ak]at q;have⟨x,X⟩:=q.isl;have Y:=kY bD kd (cC fs);have⟨v1,h1,Z,r1⟩:=VA (cC fs) hs o_;have n:eJ bD (cC fs)≠[]:=by
  intro e;cases j:cC fs with
  |nil=>exact hne j
  |cons a l=>rw[j,eJ,ss]at e;simp[bD]at e
 rcases r1 with⟨e,_⟩|⟨id,o,rfl,E,L,hN⟩
 ·exact absurd e (PS n)
 have⟨b,d1,d2,d3⟩:=DO L;have p:=fU (qJ (eJ bD (cC fs)));have cv:aj C h (.func 47 []) (some [u])=some (.msl h.length 0 4 (qJ (eJ bD (cC fs))).length none,h++[.cells (bZ (qJ (eJ bD (cC fs)))++b) .live]):=by rw[X];exact FU k_ rfl (args':=[terms (cC fs)]) rfl rfl s_ o_ Z E (jo (tj _) d1) (by rw[eM,rX,EC L];rfl) (by rw[List.length_append,p];omega) (by rw[List.length_append,p];omega)
 have r2:RowZ (4*(eJ bD (cC fs)).length) (h++[.cells (bZ (qJ (eJ bD (cC fs)))++b) .live]) (.msl h.length 0 4 (qJ (eJ bD (cC fs))).length none) (qJ (eJ bD (cC fs))):=
  .inr ⟨h.length,b,rfl,s_,d2,by rw[d3];exact hN⟩
 have q':=EX (eJ bD (cC fs));have⟨v2,r,c2,M⟩:=NW r2 o_;have F:=(eT (f:=46) k_ rfl).trans c2;simp[go_sem,G,I,<-w,cv,F];refine N ⟨v2,?_,Bg M o_⟩;rcases M with⟨_,rfl⟩|⟨id,o,rfl,_⟩<;>simp[ag,cO,f24,go_sem]
theorem call49(fs:List Fa) (hs:∀t∈cC fs,t.size<4000000) (hl:sizes (cC fs)<=10000) (hfl:fs.length<=10000) (hne:cC fs≠[]) (h:H):aj C h (.func 24 []) (some [bK fs])=some (terms (Dv fs),h):=an (args':=[bK fs]) rfl rfl s_ (LV fs hs hl hfl hne)
theorem Mj{h:H}{i:Nat}{b:T × T}(hi:h[i]?=some (.cells (bT b).cells .live)):aJ C.P h 41 (.ptr i 0)=some (enc b.1):=by simp only[bT,am]at hi;simp[aJ,hi,aY,a25,s25];rw[bV]
theorem Mi{h:H}{i:Nat}{b:T × T}(hi:h[i]?=some (.cells (bT b).cells .live)):aJ C.P h 41 (.ptr i 4)=some (enc b.2):=by simp only[bT,am]at hi;simp[aJ,hi,aY,a25,s25];rw[bV]
theorem ldB{h:H}{i:Nat}{b:T × T}(hi:h[i]?=some (.cells (bT b).cells .live)):aJ C.P h 121 (.ptr i 0)=some (bT b):=by simp only[bT,am]at hi;simp[aJ,hi,aY,a86,s86,bT]
end Go.VZ
namespace TL
def pN(t:T):Lq->Lq
 |[]=>[t]
 |x::r=>if t.cmp x<0 then t::x::r else if t.cmp x=0 then x::r else x::pN t r
def rY(l:Lq):Lq:=l.foldl (λs t=>pN t s) []
theorem mem_addS{t x:T}:∀ {s:Lq},x∈pN t s↔x=t\/x∈s
 |[]=>by simp[pN]
 |y::r=>by
  rw[pN];split
  ·simp
  split
  ·rename_i h1 h2;have e:=cmp_zero.1 h2;subst e;simp
  rw[aV,mem_addS (s:=r),aV];constructor
  ·rintro(h|h|h)
   ·exact .inr (.inl h)
   ·exact .inl h
   exact .inr (.inr h)
  rintro(h|h|h)
  ·exact .inr (.inl h)
  ·exact .inl h
  exact .inr (.inr h)
theorem Fy(t:T):∀s:Lq,(pN t s).length<=s.length+1
 |[]=>by simp[pN]
 |x::r=>by
  rw[pN];split
  ·simp
  split
  ·simp
  have:=Fy t r;simp;omega
theorem mem_setS{x:T}{l:Lq}:x∈rY l↔x∈l:=by
 have b:∀(l s:Lq),x∈l.foldl (λs t=>pN t s) s↔x∈s\/x∈l:=by
  intro l;induction l with
  |nil=>intro s;simp
  |cons a l c=>
   intro s;rw[dc,c,mem_addS,aV];constructor
   ·rintro((h|h)|h)
    ·exact .inr (.inl h)
    ·exact .inl h
    exact .inr (.inr h)
   rintro(h|h|h)
   ·exact .inl (.inr h)
   ·exact .inl (.inl h)
   exact .inr h
 simpa[rY]using b l []
theorem zw(l:Lq):(rY l).length<=l.length:=by
 have b:∀(l s:Lq),(l.foldl (λs t=>pN t s) s).length<=s.length+l.length:=by
  intro l;induction l with
  |nil=>intro s;simp
  |cons a l c=>intro s;have:=c (pN a s);have:=Fy a s;rw[dc,aL];omega
 simpa[rY]using b l []
theorem Jp{l:Lq}{k:Nat}(hk:k<l.length):rY (l.take (k+1))=pN l[k] (rY (l.take k)):=by rw[be hk,rY,List.foldl_append];rfl
def jz(t:T) (s:Lq):Nat->Lq × Bool
 |0=>([],false)
 |j+1=>
  let x:=s.getD j default
  let (o,d):=jz t s j
  if d=false/\t.cmp x<=0 then((if t.cmp x<0 then o++[t]else o)++[x],true)else(o++[x],d)
def Hs(t:T) (s:Lq):Lq:=if(jz t s s.length).2=true then(jz t s s.length).1 else(jz t s s.length).1++[t]
theorem JU(t:T) (s:Lq):∀k,k<=s.length->((jz t s k).2=false->jz t s k=(s.take k,false)/\pN t s=s.take k++pN t (s.drop k))/\((jz t s k).2=true->pN t s=(jz t s k).1++s.drop k)
 |0,_=>by simp[jz]
 |k+1,hk=>by
  have⟨h1,h2⟩:=JU t s k o_;have a:k<s.length:=o_;have f:s.getD k default=s[k]:=by rw[dL,aF a];rfl
  have g:jz t s (k+1)=if(jz t s k).2=false/\t.cmp s[k]<=0 then((if t.cmp s[k]<0 then(jz t s k).1++[t]else(jz t s k).1)++[s[k]],true)else((jz t s k).1++[s[k]],(jz t s k).2):=by rw[jz,f]
  rw[g];cases e:(jz t s k).2 with
  |true=>rw[if_neg s_];refine⟨λx=>by simp at x,λ_=>?_⟩;rw[h2 e,aI a];simp
  |false=>
   have⟨h,c⟩:=h1 e;rw[h];by_cases d:t.cmp s[k]<=0
   ·rw[if_pos ⟨rfl,d⟩];refine⟨λx=>by simp at x,λ_=>?_⟩;rw[c,aI a,pN];by_cases b:t.cmp s[k]<0
    ·rw[if_pos b,if_pos b];simp
    rw[if_neg b,if_neg b,if_pos o_];simp
   rw[if_neg (λx=>d x.2)];refine⟨λ_=>⟨by rw[be a],?_⟩,λx=>by simp at x⟩;rw[c,aI a,pN,if_neg o_,if_neg o_,be a,List.append_assoc,nZ]
theorem RN(t:T) (s:Lq):Hs t s=pN t s:=by
 have⟨a,b⟩:=JU t s s.length (aP _);unfold Hs;by_cases e:(jz t s s.length).2=true
 ·rw[if_pos e,b e];simp
 have c:(jz t s s.length).2=false:=by simpa using e
 have⟨d,f⟩:=a c;rw[if_neg e,d,f];simp[pN]
end TL
namespace Go.VZ
open Go Go.V Go.Proofs Tryz TL
def XI(t:T) (m:Nat) (st:PT) (h:H):Prop:=∃k:Nat,m=t.kids.length-k/\k<=t.kids.length/\st.get 1=.ptr 0 0/\st.get 4=.int .i64 k/\h[0]?=some (.cells (enc t).cells .live)/\OwnR 41 h (st.get 3) ((bD t++eJ bD (t.kids.take k)).map enc)
theorem wh{h:H}{i:Nat}{t:T}(hi:h[i]?=some (.cells (enc t).cells .live)):aJ C.P h 32 (.ptr i 3)=some (terms t.kids):=by rw[aq]at hi;simp[aJ,hi,aY,a23,s23,terms]
theorem UJ(t:T) (hs:t.size<4000000) (hc:∀k∈t.kids,az C 104 [enc k]=some (terms (bm bD k))):az C 104 [enc t]=some (terms (bm bD t)):=by
 refine bL func104 rfl λR B=>?_
 have D:=size_kids t;have q:=len_sizes t.kids;have c:=dX t.kids;obtain⟨r,b⟩:∃g:H,g=[.cells (enc t).cells .live,.tok 0 41]:=⟨_,rfl⟩
 have s:aJ C.P r 41 (.ptr 0 0)=some (enc t):=sg t (by rw[b];rfl);simp[go_sem,gx];rw[<-aq,<-b];simp[go_sem,s,fO];refine bX (XI t) t.kids.length ⟨0,rfl,aO _,g_,g_,rfl,.inl (by simp[go_sem,bD,eJ])⟩ ?_;clear s b r;rintro m st h ⟨k,rfl,N,u,w,i,d⟩;have y:=wh i;obtain⟨E,j⟩:∃v,v=st.get 3:=⟨_,rfl⟩
 rw[<-j]at d;by_cases a:k<t.kids.length
 ·have e:(k:Int)<t.kids.length:=o_;have l:=dh t.kids k a;have F:=wS k o_;have G:∀h,aj C h (.func 104 []) (some [enc t.kids[k]])=some (terms (bm bD t.kids[k]),h):=λh=>an (fv _) (by simp[bF]) s_ (hc _ (aG a))
  have n:=kY bD kd (t.kids.take (k+1));have I:=take_sizes_le t.kids (k+1);have f:eJ bD (t.kids.take (k+1))=eJ bD (t.kids.take k)++bm bD t.kids[k]:=by rw[be a,qe];simp[eJ]
  rw[f,List.length_append]at n;have⟨J,K,z,A,o,L⟩:=jN (ys:=bm bD t.kids[k]) (x:=.unk) d (by simp only[bD,List.length_append,aL,bB];omega);rw[List.append_assoc,<-f]at A;change bi C.P false h 32 E (terms (bm bD t.kids[k]))=some (J,K)at z;have p:=o.get i (bn d i);simp[go_sem,u,w,<-j,y,c,e,l,ee,G,z,-Int.natCast_add,F];exact⟨t.kids.length-(k+1),o_,k+1,rfl,a,g_,g_,p,by simpa[go_sem]using A⟩
 have:k=t.kids.length:=o_;subst this;rw[ak]at d;have⟨x,M⟩:=d.isl;simp[go_sem,u,w,<-j,y,c];refine B ⟨.isl ((bm bD t).map enc) x,by rw[ss,<-M];simp[ag,cO,f104,go_sem],aU rfl rfl⟩
theorem Hq(t:T):t.size<4000000->az C 104 [enc t]=some (terms (bm bD t)):=by
 induction t using T.ind with
 |_ t b=>exact λc=>UJ t c (λk a=>b k a (by have:=kid_size a;omega))
theorem Dc(t:T) (hv:t.size<4000000) (h:H):aj C h (.func 104 []) (some [enc t])=some (terms (bm bD t),h):=an (fv _) (by simp[bF]) s_ (Hq t hv)
def XM(t:T) (s:Lq) (m:Nat) (st:PT) (h:H):Prop:=∃k:Nat,m=s.length-k/\k<=s.length/\st.get 0=terms s/\st.get 3=.ptr 0 0/\st.get 6=.bool (jz t s k).2/\st.get 7=.int .i64 k/\h[0]?=some (.cells (enc t).cells .live)/\OwnR 41 h (st.get 5) ((jz t s k).1.map enc)
theorem Fz(t:T) (s:Lq):∀k,(jz t s k).1.length<=k+(if(jz t s k).2=true then 1 else 0)
 |0=>by simp[jz]
 |k+1=>by
  have:=Fz t s k;rw[jz];generalize jz t s k=r at this;have⟨o,d⟩:=r;dsimp only at this ⊢;split
  ·rename_i a;rw[a.1]at this;simp only[aT,if_false]at this;split<;>simp<;>omega
  simp only[List.length_append,aL,bB];omega
theorem UL(s:Lq) (t:T) (hs:∀x∈s,x.size<4000000) (ht:t.size<4000000) (hl:s.length<4000000):az C 114 [terms s,enc t]=some (terms (Hs t s)):=by
 refine bL func114 rfl λR V=>?_
 have g:=dX s;simp[go_sem,gx];rw[<-aq];refine bX (XM t s) s.length ⟨0,rfl,aO _,g_,g_,by simp[go_sem,jz],g_,rfl,.inr ⟨2,by simp[go_sem,jz]⟩⟩ ?_;rintro m st h ⟨k,rfl,hk,w,F,i,z,p,j⟩;have G:=sg t p;obtain⟨v5,q⟩:∃v,v=st.get 5:=⟨_,rfl⟩
 rw[<-q]at j;have N:=Fz t s k;have n:(jz t s k).1.length<=k+1:=by split at N<;>omega
 by_cases b:k<s.length
 ·have c:(k:Int)<s.length:=o_;have l:=dh s k b;have K:=wS k o_;have L:=sX t s[k] ht (hs _ (aG b));have a:jz t s (k+1)=if(jz t s k).2=false/\t.cmp s[k]<=0 then((if t.cmp s[k]<0 then(jz t s k).1++[t]else(jz t s k).1)++[s[k]],true)else((jz t s k).1++[s[k]],(jz t s k).2):=by rw[jz,pq b]
  generalize jz t s k=r at a i j n;have⟨o,d⟩:=r;dsimp only at a i j n;have one:∀ {h:H}{v:AV}{o:Lq}(y:T),OwnR 41 h v (o.map enc)->h[0]?=some (.cells (enc t).cells .live)->o.length<10000000->∃I A,bi C.P false h 32 v (.isl [enc y] .full)=some (I,A)/\OwnR 41 A I ((o++[y]).map enc)/\A[0]?=some (.cells (enc t).cells .live):=λy j p hl=>by have⟨I,A,M,O,J,_⟩:=jN (ys:=[y]) (x:=.full) j (by simp;omega);exact⟨I,A,by simpa using M,O,J.get p (bn j p)⟩
  by_cases u:d=false/\t.cmp s[k]<=0
  ·rw[if_pos u]at a;obtain⟨rfl,u⟩:=u;by_cases f:t.cmp s[k]<0
   ·rw[if_pos f]at a;have⟨v1,h1,Z,o1,n1⟩:=one t j p o_;have⟨X,Y,B,D,E⟩:=one s[k] o1 n1 (by simp;omega);simp[go_sem,w,F,i,z,<-q,g,c,l,ee,L,G,u,f,fO,Z,B,-Int.natCast_add,K];exact⟨s.length-(k+1),o_,k+1,rfl,b,g_,g_,by simp[go_sem,a],g_,E,by simpa[go_sem,a]using D⟩
   rw[if_neg f]at a;have⟨X,Y,B,D,E⟩:=one s[k] j p o_;simp[go_sem,w,F,i,z,<-q,g,c,l,ee,L,G,u,f,fO,B,-Int.natCast_add,K];exact⟨s.length-(k+1),o_,k+1,rfl,b,g_,g_,by simp[go_sem,a],g_,E,by simpa[go_sem,a]using D⟩
  rw[if_neg u]at a;have⟨X,Y,B,D,E⟩:=one s[k] j p o_;cases d with
  |true=>simp[go_sem,w,F,i,z,<-q,g,c,l,ee,L,G,fO,B,-Int.natCast_add,K];exact⟨s.length-(k+1),o_,k+1,rfl,b,g_,g_,by simp[go_sem,a,i],g_,E,by simpa[go_sem,a]using D⟩
  |false=>
   have Q:¬t.cmp s[k]<=0:=λe=>u ⟨rfl,e⟩
   simp[go_sem,w,F,i,z,<-q,g,c,l,ee,L,G,Q,fO,B,-Int.natCast_add,K];exact⟨s.length-(k+1),o_,k+1,rfl,b,g_,g_,by simp[go_sem,a,i],g_,E,by simpa[go_sem,a]using D⟩
 have:k=s.length:=o_;subst this;by_cases a:(jz t s s.length).2=true
 ·have⟨x,S⟩:=j.isl;rw[a]at i;simp[go_sem,w,i,z,<-q,g];refine V ⟨.isl ((Hs t s).map enc) x,by rw[Hs,if_pos a,<-S];simp[ag,cO,f114,go_sem],aU rfl rfl⟩
 have U:(jz t s s.length).2=false:=by simpa using a
 rw[U]at i;have⟨I,A,M,O,J,_⟩:=jN (ys:=[t]) (x:=.full) j (by simp;omega);have⟨x,S⟩:=O.isl;simp only[aM,bM]at M;simp[go_sem,w,F,i,z,<-q,g,G,fO,M];refine V ⟨.isl ((Hs t s).map enc) x,by rw[Hs,if_neg a,<-S];simp[ag,cO,f114,go_sem],aU rfl rfl⟩
theorem Qt(s:Lq) (x:Ext) (t:T) (hs:∀x∈s,x.size<4000000) (ht:t.size<4000000) (hl:s.length<4000000) (h:H):aj C h (.func 114 []) (some [.isl (s.map enc) x,enc t])=some (terms (pN t s),h):=by rw[<-RN];exact an (args':=[terms s,enc t]) (by rw[bV];rfl) (by rw[bV];rfl) s_ (UL s t hs ht hl)
def XX(l:Lq) (m:Nat) (st:PT) (_h:H):Prop:=∃k:Nat,m=l.length-k/\k<=l.length/\st.get 0=terms l/\st.get 4=.int .i64 k/\∃x,st.get 3=.isl ((rY (l.take k)).map enc) x
theorem SQ(l:Lq) (hs:∀x∈l,x.size<4000000) (hl:l.length<4000000):az C 70 [terms l]=some (terms (rY l)):=by
 refine bL func70 rfl λR n=>?_
 have b:=dX l;simp[go_sem];refine bX (XX l) l.length ⟨0,rfl,aO _,g_,g_,_,by simp[go_sem,rY];rfl⟩ ?_;rintro m st h ⟨k,rfl,q,g,i,x,d⟩;by_cases a:k<l.length
 ·have c:(k:Int)<l.length:=o_;have e:=dh l k a;have o:=wS k o_;have f:=zw (l.take k);have j:=Qt (rY (l.take k)) x l[k] (λy p=>hs y (dF (mem_setS.1 p))) (hs _ (aG a)) (by simp only[bU]at f;omega);rw[<-Jp a]at j;simp[go_sem,g,d,i,b,c,e,ee,j,-Int.natCast_add,o];exact⟨l.length-(k+1),o_,k+1,rfl,a,g_,g_,.unk,by simp[go_sem,terms]⟩
 have:k=l.length:=o_;subst this;rw[ak]at d;simp[go_sem,g,d,i,b];exact n ⟨.isl ((rY l).map enc) x,by simp[ag,cO,f70,go_sem],aU rfl rfl⟩
theorem JK(l:Lq) (x:Ext) (hs:∀x∈l,x.size<4000000) (hl:l.length<4000000) (h:H):aj C h (.func 70 []) (some [.isl (l.map enc) x])=some (terms (rY l),h):=an (args':=[terms l]) rfl rfl s_ (SQ l hs hl)
def isK(k:Int) (t:T):Bool:=decide (t.kind=k)
def XN(t:T) (c:Int) (m:Nat) (st:PT) (h:H):Prop:=∃k:Nat,m=(bm bD t).length-k/\k<=(bm bD t).length/\st.get 1=.int .i64 c/\st.get 6=terms (bm bD t)/\st.get 7=.int .i64 k/\OwnR 41 h (st.get 5) ((((bm bD t).take k).filter (isK c)).map enc)
theorem Ep(t:T) (h:H):aJ C.P h 3 (.iptr (enc t) 0)=some (.int .i64 t.kind):=by simp[aJ,aY,a3,s3,aq]
theorem pL(e:AV):bp C.P 41 (.iptr e 0) 0=some (.iptr e 0):=k_
theorem Pm(t:T) (c:Int) (hs:t.size<4000000):az C 113 [enc t,.int .i64 c]=some (terms (rY ((bm bD t).filter (isK c)))):=by
 refine bL func113 rfl λR I=>?_
 have J:=qw bD kd t;have s:=pU rW t hs;have z:=Dc t hs;obtain⟨A,i⟩:∃g:H,g=[.cells (enc t).cells .live,.tok 0 41,.tok 0 41]:=⟨_,rfl⟩
 have B:aJ C.P A 41 (.ptr 0 0)=some (enc t):=sg t (by rw[i];rfl);simp[go_sem,gx];rw[<-aq,<-i];simp[go_sem,B,z];generalize a:bm bD t=w at *;have j:=dX w;refine bX (XN t c) w.length ⟨0,by rw[a];rfl,aO _,g_,by simp[go_sem,a],g_,.inr ⟨2,g_⟩⟩ ?_;clear B i A z;rintro m st h ⟨k,rfl,K,D,l,u,n⟩;rw[a]at K l n;obtain⟨O,q⟩:∃v,v=st.get 5:=⟨_,rfl⟩
 rw[<-q]at n;have o:=dS (isK c) (w.take k);by_cases b:k<w.length
 ·have f:(k:Int)<w.length:=o_;have p:=dh w k b;have E:=wS k o_;have d:(w.take (k+1)).filter (isK c)=if w[k].kind=c then(w.take k).filter (isK c)++[w[k]]else(w.take k).filter (isK c):=by rw[be b,gu];by_cases e:w[k].kind=c<;>simp[e,isK]
  by_cases r:w[k].kind=c
  ·rw[if_pos r]at d;have⟨Q,S,F,G,_,_⟩:=jN (ys:=[w[k]]) (x:=.full) n (by simp only[bU,aL,bB]at o ⊢;omega);rw[<-d]at G;simp only[aM,bM]at F;simp[go_sem,D,l,u,<-q,j,f,p,ee,Ep,pL,r,fO,F,-Int.natCast_add,E];exact⟨(bm bD t).length-(k+1),by rw[a];omega,k+1,rfl,by rw[a];exact b,g_,by simp[go_sem,l,a],g_,by rw[a];simpa[go_sem]using G⟩
  rw[if_neg r]at d;simp[go_sem,D,l,u,j,f,p,Ep,pL,r,-Int.natCast_add,E];exact⟨(bm bD t).length-(k+1),by rw[a];omega,k+1,rfl,by rw[a];exact b,g_,by simp[go_sem,l,a],g_,by rw[a,d];simpa[go_sem,<-q]using n⟩
 have:k=w.length:=o_;subst this;rw[ak]at n o;have⟨x,L⟩:=n.isl;have M:=JK (w.filter (isK c)) x (λy N=>s y (cE.1 N).1) o_;simp[go_sem,l,u,<-q,j,L,M];exact I ⟨terms (rY (w.filter (isK c))),by simp[ag,cO,f113,go_sem],aU rfl rfl⟩
end Go.VZ
namespace Go.VZ
open Go Go.V Go.Proofs Tryz TL
theorem Qu(t:T) (c:Int) (hs:t.size<4000000) (h:H):aj C h (.func 113 []) (some [enc t,.int .i64 c])=some (terms (rY ((bm bD t).filter (isK c))),h):=an (args':=[enc t,.int .i64 c]) (by rw[bV];rfl) (by simp[bF,xZ]) s_ (Pm t c hs)
def jS(t:T):Lq:=rY ((bm bD t).filter (isK 1))
theorem Oh(t:T) (hs:t.size<4000000):az C 69 [enc t]=some (terms (jS t)):=by
 refine bL func69 rfl λR a=>?_
 have b:=Qu t 1 hs;have c:aJ C.P [.cells [.int .i64 t.kind,.str t.name,.int .i64 t.sort,terms t.kids] .live,.tok 0 41] 41 (.ptr 0 0)=some (enc t):=by simp[aJ,aY,a25,s25];rw[bV]
 simp[go_sem,dP,gx,c,b];exact a ⟨terms (jS t),by simp[ag,cO,f69,go_sem,jS],aU rfl rfl⟩
theorem JN(t:T) (hs:t.size<4000000) (h:H):aj C h (.func 69 []) (some [enc t])=some (terms (jS t),h):=an (fv _) (by simp[bF]) s_ (Oh t hs)
def bS(l:Lq):Lq:=rY (l.flatMap jS)
def Zn(l:Lq) (m:Nat) (st:PT) (h:H):Prop:=∃k:Nat,m=l.length-k/\k<=l.length/\st.get 0=terms l/\st.get 4=.int .i64 k/\OwnR 41 h (st.get 3) (((l.take k).flatMap jS).map enc)
theorem xR(t:T):(jS t).length<=t.size:=by have a:=zw ((bm bD t).filter (isK 1));have b:=dS (isK 1) (bm bD t);have c:=qw bD kd t;unfold jS;omega
theorem pV(l:Lq):(l.flatMap jS).length<=sizes l:=by
 induction l with
 |nil=>simp[sizes]
 |cons a l b=>have:=xR a;rw[dt,List.length_append,sizes];omega
theorem yT{t:T}{n:Nat}(h:t.size<n):∀x∈jS t,x.size<n:=λx a=>pU rW t h x (cE.1 (mem_setS.1 a)).1
theorem LU(l:Lq) (hs:∀x∈l,x.size<4000000) (hl:sizes l<4000000):az C 35 [terms l]=some (terms (bS l)):=by
 refine bL func35 rfl λR t=>?_
 have c:=dX l;have p:=len_sizes l;simp[go_sem];refine bX (Zn l) l.length ⟨0,rfl,aO _,g_,g_,.inr ⟨1,g_⟩⟩ ?_;rintro m st h ⟨k,rfl,G,q,r,g⟩;obtain⟨u,j⟩:∃v,v=st.get 3:=⟨_,rfl⟩
 rw[<-j]at g;by_cases b:k<l.length
 ·have d:(k:Int)<l.length:=o_;have n:=dh l k b;have w:=wS k o_;have z:=JN l[k] (hs _ (aG b));have e:(l.take (k+1)).flatMap jS=(l.take k).flatMap jS++jS l[k]:=by rw[be b,fm];simp
  have f:=pV (l.take (k+1));have A:=take_sizes_le l (k+1);rw[e,List.length_append]at f;have⟨B,D,i,s,_,_⟩:=jN (ys:=jS l[k]) (x:=.unk) g o_;rw[<-e]at s;change bi C.P false h 32 u (terms (jS l[k]))=some (B,D)at i;simp[go_sem,q,r,<-j,c,d,n,ee,z,i,-Int.natCast_add,w];exact⟨l.length-(k+1),o_,k+1,rfl,b,g_,g_,by simpa[go_sem]using s⟩
 have:k=l.length:=o_;subst this;rw[ak]at g;have⟨x,E⟩:=g.isl;have f:=pV l;have F:=JK (l.flatMap jS) x (λy o=>by have⟨a,i,o⟩:=bR.1 o;exact yT (hs a i) y o) o_
 simp[go_sem,q,r,<-j,c,E,F];exact t ⟨terms (bS l),by simp[ag,cO,f35,go_sem,bS],aU rfl rfl⟩
theorem He(l:Lq) (x:Ext) (hs:∀x∈l,x.size<4000000) (hl:sizes l<4000000) (h:H):aj C h (.func 35 []) (some [.isl (l.map enc) x])=some (terms (bS l),h):=an (args':=[terms l]) rfl rfl s_ (LU l hs hl)
end Go.VZ
namespace TL
def lt(x y:T):Prop:=x.cmp y<0
theorem AP{x:T}(a:lt x x):False:=by unfold lt at a;rw[cmp_refl]at a;omega
theorem Be:∀ {l m:Lq},l.Pairwise lt->m.Pairwise lt->(∀x,x∈l↔x∈m)->l=m
 |[],[],_,_,_=>rfl
 |[],b::m,_,_,h=>by have:=(h b).2 s_;simp at this
 |a::l,[],_,_,h=>by have:=(h a).1 s_;simp at this
 |a::l,b::m,h1,h2,h=>by
  rw[dw]at h1 h2;have d:a=b:=by
   rcases aV.1 ((h a).1 s_)with e|e
   ·exact e
   rcases aV.1 ((h b).2 s_)with f|f
   ·exact f.symm
   exact(AP (cmp_trans (h1.1 b f) (h2.1 a e))).elim
  subst d;congr 1
  refine Be h1.2 h2.2 λx=>?_
  constructor
  ·intro c;rcases aV.1 ((h x).1 (by simp[c]))with e|e
   ·subst e;exact(AP (h1.1 _ c)).elim
   exact e
  intro c;rcases aV.1 ((h x).2 (by simp[c]))with e|e
  ·subst e;exact(AP (h2.1 _ c)).elim
  exact e
theorem yy{t:T}:∀ {s:Lq},s.Pairwise lt->(pN t s).Pairwise lt
 |[],_=>by simp[pN]
 |x::r,h=>by
  rw[dw]at h;rw[pN];split
  ·rename_i hlt;rw[dw,dw];refine⟨λy hy=>?_,h⟩;rcases aV.1 hy with rfl|hy
   ·exact hlt
   exact cmp_trans hlt (h.1 y hy)
  split
  ·rw[dw];exact h
  rename_i h1 h2;rw[dw];refine⟨λy hy=>?_,yy h.2⟩;rcases mem_addS.1 hy with rfl|hy
  ·exact cmp_lt o_
  exact h.1 y hy
theorem oX(l:Lq):(rY l).Pairwise lt:=by
 have b:∀(l s:Lq),s.Pairwise lt->(l.foldl (λs t=>pN t s) s).Pairwise lt:=by
  intro l;induction l with
  |nil=>intro s h;exact h
  |cons a l c=>intro s h;exact c _ (yy h)
 exact b l [] List.Pairwise.nil
theorem FD{l:Lq}(hs:l.Pairwise le):∀j,j<=l.length->(ddj l j).Pairwise lt/\∀x,x∈ddj l j↔x∈l.take j
 |0,_=>by simp[ddj]
 |j+1,hj=>by
  have⟨h1,h2⟩:=FD hs j o_;have b:j<l.length:=o_;have v:∀i,i<l.length->l.getD i default=l[i]!:=λi k=>by rw[dL,aF k];simp[List.getElem!_eq_getElem?_getD,aF k]
  have o:l.getD j default=l[j]:=by rw[dL,aF b];rfl
  rw[ddj,o];split
  ·rename_i d;have a:j-1<l.length:=o_;have c:l.getD (j-1) default=l[j-1]:=by rw[dL,aF a];rfl
   rw[c]at d;have e:=cmp_zero.1 d.2;refine⟨h1,λx=>?_⟩;rw[h2,be b,aK,aS];constructor
   ·exact .inl
   rintro(h|h)
   ·exact h
   rw[h,e,List.mem_take_iff_getElem];exact⟨j-1,o_,rfl⟩
  rename_i d;refine⟨?_,λx=>?_⟩
  ·rw[List.pairwise_append];refine⟨h1,s_,λx p y n=>?_⟩;simp only[aS]at n;subst n;obtain⟨i,k,rfl⟩:=List.mem_take_iff_getElem.1 ((h2 x).1 p);have q:i<j:=o_;have f:=iz.1 hs;have a:j-1<l.length:=o_;have c:l.getD (j-1) default=l[j-1]:=by rw[dL,aF a];rfl
   rw[c]at d;have m:l[j].cmp l[j-1]≠0:=λe=>d ⟨o_,e⟩
   have r:le l[j-1] l[j]:=f (j-1) j a b o_;have g:lt l[j-1] l[j]:=by rw[le_iff]at r;unfold lt;rw[cmp_anti]at m;omega
   by_cases e:i=j-1
   ·subst e;exact g
   have s:le l[i] l[j-1]:=f i (j-1) o_ a o_;rw[le_iff]at s;unfold lt at g ⊢;have t:=cmp_tri l[i] l[j-1] l[j];by_cases u:l[i].cmp l[j-1]=0
   ·rw[t.1 u];exact g
   exact t.2.2 o_ g
  rw[aK,h2,be b,aK]
theorem Bu(l:Lq):(qJ l).Pairwise lt/\∀x,x∈qJ l↔x∈l:=by have⟨a,b⟩:=FD (srt_sorted l) (srt l).length (aP _);refine⟨a,λx=>?_⟩;unfold qJ dd;rw[b,ak,mem_srt]
end TL
namespace Go.VZ
open TL
theorem Bb(fs:List Fa) (l:Lq) (h:∀t,t∈cC fs↔t∈l):Dv fs=bS l:=by
 refine Be ((Bu _).1.filter _) (oX _) λx=>?_
 rw[Dv,cE,(Bu _).2,bS,mem_setS,ng,bR,bR];constructor
 ·rintro⟨⟨a,c,b⟩,d⟩;exact⟨a,(h a).1 c,by rw[jS,mem_setS,cE];exact⟨b,by simpa[iv,isK]using d⟩⟩
 rintro⟨a,c,b⟩;rw[jS,mem_setS,cE]at b;exact⟨⟨a,(h a).2 c,b.1⟩,by simpa[iv,isK]using b.2⟩
end Go.VZ
namespace Go.VZ
open Go Go.V Go.Proofs Tryz TL
def ia:List Fa->Int
 |[]=>0
 |f::l=>if eZ f≠0 then eZ f else ia l
def bY(c:Cl):Int:=if 12<c.body.length then 3 else ia (aN c)
theorem E8(l:List Fa) (f:Fa):ia (l++[f])=if ia l≠0 then ia l else eZ f:=by
 induction l with
 |nil=>by_cases h:eZ f=0<;>simp[ia,h]
 |cons a l b=>rw[cV,ia,ia,b];by_cases h:eZ a≠0<;>simp[h]
def okF(l:List Fa):Prop:=∀f∈l,zo f.terms/\f.terms.length<4000000
def Zu(l:List Fa) (n:Nat) (st:PT) (_h:H):Prop:=∃k:Nat,n=l.length-k/\k<=l.length/\st.get 11=bK l/\st.get 12=.int .i64 l.length/\st.get 13=.int .i64 k/\ia l=ia (l.drop k)
theorem Om(c:Cl) (hs:okF (aN c)):az C 41 [ai c]=some (.int .i64 (bY c)):=by
 refine bL func41 rfl λR B=>?_
 have fin:∀(st:PT) (h:H) (e:Int),st.get 2=.int .i64 e->bY c=e->R .ret st h:=λst h e D t=>B ⟨.int .i64 e,by simp[ag,cO,f41,D],by rw[t];exact aU rfl rfl⟩
 have v:([.cells (clC c) .live]:H)[0]?=some (.cells (clC c) .live):=rfl;have w:=jn v;have E:=jJ v;have i:=iu c.body;by_cases j:12<c.body.length
 ·have a:(12:Int)<c.body.length:=o_;simp[go_sem,dP,fk,w,i,a];exact fin _ _ 3 g_ (by rw[bY,if_pos j])
 have a:¬(12:Int)<c.body.length:=o_;have x:=Tn c o_;have t:bY c=ia (aN c):=by rw[bY,if_neg j]
 rw[t]at fin;have u:(aN c).length<=13:=by simp[aN];omega
 generalize aN c=l at x hs fin u;have m:=iu l;simp[go_sem,fk,w,i,a,E,x,m];refine bX (Zu l) l.length ⟨0,rfl,aO _,g_,g_,g_,rfl⟩ ?_;rintro n st h ⟨k,rfl,G,o,f,g,p⟩;by_cases b:k<l.length
 ·have d:(k:Int)<l.length:=o_;have q:aZ C.P 29 (bK l) (.int .i64 k)=some (.iptr (aQ l[k]) 0):=kD l k b .unk;have y:=yW l[k] h;have z:=Rn l[k] h;have r:=ll l[k] h;have A:=Tm l[k] (hs _ (aG b)).1 (hs _ (aG b)).2;rw[aI b,ia]at p;by_cases s:eZ l[k]=0
  ·have F:=wS k o_;simp[go_sem,o,f,g,d,q,r,qv,y,z,A,am,s,-Int.natCast_add,F];exact⟨l.length-(k+1),o_,k+1,rfl,b,g_,g_,g_,by rw[p,if_neg (by simpa using s)]⟩
  simp[go_sem,o,f,g,d,q,r,qv,y,z,A,am,s];exact fin _ _ (eZ l[k]) g_ (by rw[p,if_pos s])
 have:k=l.length:=o_;subst this;rw[bH,ia]at p;simp[go_sem,f,g];exact fin _ _ 0 g_ p
theorem Nz(c:Cl) (hs:okF (aN c)) (h:H):aj C h (.func 41 []) (some [ai c])=some (.int .i64 (bY c),h):=an (oy c) (by simp[jF]) s_ (Om c hs)
def Zt(c:Cl) (n:Nat) (st:PT) (h:H):Prop:=∃k:Nat,n=c.body.length-k/\k<=c.body.length/\st.get 1=.ptr 0 0/\st.get 3=.int .i64 k/\h[0]?=some (.cells (clC c) .live)/\ia c.body=ia (c.body.drop k)
theorem Ol(c:Cl) (hs:okF (aN c)):az C 29 [ai c]=some (.int .i64 (bY c)):=by
 refine bL func29 rfl λR v=>?_
 have fin:∀(st:PT) (h:H) (e:Int),st.get 2=.int .i64 e->bY c=e->R .ret st h:=λst h e w r=>v ⟨.int .i64 e,by simp[ag,cO,f29,w],by rw[r];exact aU rfl rfl⟩
 have i:([.cells (clC c) .live]:H)[0]?=some (.cells (clC c) .live):=rfl;have f:=jn i;have a:=iu c.body;by_cases l:12<c.body.length
 ·have b:(12:Int)<c.body.length:=o_;simp[go_sem,dP,fk,f,a,b];exact fin _ _ 3 g_ (by rw[bY,if_pos l])
 have b:¬(12:Int)<c.body.length:=o_;have r:bY c=if ia c.body≠0 then ia c.body else eZ c.head:=by rw[bY,if_neg l,aN,E8]
 simp[go_sem,fk,f,a,b];refine bX (Zt c) c.body.length ⟨0,rfl,aO _,g_,g_,rfl,rfl⟩ ?_;clear i f;rintro n st h ⟨k,rfl,z,t,u,i,j⟩;have f:=jn i;have x:=lQ i;by_cases g:k<c.body.length
 ·have d:(k:Int)<c.body.length:=o_;have m:aZ C.P 29 (bK c.body) (.int .i64 k)=some (.iptr (aQ c.body[k]) 0):=kD c.body k g .unk;have o:=ll c.body[k] h;have p:c.body[k]∈aN c:=by simp[aN]
  have s:=Nw c.body[k] (hs _ p).1 (hs _ p).2;rw[aI g,ia]at j;by_cases q:eZ c.body[k]=0
  ·have y:=wS k o_;simp[go_sem,t,u,f,a,d,m,o,s,q,-Int.natCast_add,y];exact⟨c.body.length-(k+1),o_,k+1,rfl,g,g_,g_,i,by rw[j,if_neg (by simpa using q)]⟩
  rw[if_pos q]at j;simp[go_sem,t,u,f,a,d,m,o,s,q];exact fin _ _ (eZ c.body[k]) g_ (by rw[r,j,if_pos q])
 have:k=c.body.length:=o_;subst this;rw[bH,ia]at j;have p:c.head∈aN c:=by simp[aN]
 have s:=Nw c.head (hs _ p).1 (hs _ p).2;simp[go_sem,t,u,f,a,x,s];exact fin _ _ (eZ c.head) g_ (by rw[r,j];simp)
theorem qB(c:Cl) (hs:okF (aN c)) (h:H):aj C h (.func 29 []) (some [ai c])=some (.int .i64 (bY c),h):=an (oy c) (by simp[jF]) s_ (Ol c hs)
theorem JW{C:Cfg}{cf:FuncId}{ops:Array Oper}{base:Nat}{K K':PT->H->List FP->Prop}(hk:∀s h F,K s h F->K' s h F):∀(l:List Oper) (i:Nat) (s:PT) (h:H) (F:List FP),MX C cf ops base K i l s h F->MX C cf ops base K' i l s h F
 |[],_,_,_,_,hx=>hk _ _ _ hx
 |_::l,_,_,_,_,⟨v,h2,f,e,hx⟩=>⟨v,h2,f,e,JW hk l _ _ _ _ hx⟩
theorem ic{C:Cfg}{cf:FuncId}{R:Ex->PT->H->Prop}{k:List It}{s:PT}{h:H}(id:Nat) (ops:Array Oper) (P:PT->H->Prop) (hm:C.mix cf id=true) (ht:zY ops=true)
  (hx:MX C cf ops h.length (λs' h' F=>sq ops F=true/\P s' h') 0 ops.toList s (h++List.replicate ops.size .void) []) (hk:∀s' h',P s' h'->N C cf R k s' h'):W C cf R (.region id ops true) k s h:=
 xQ id ops hm ht (JW (λ_ _ _ a=>⟨a.1,hk _ _ a.2⟩) _ _ _ _ _ hx)
def bN(c:Cl):Lq:=c.head.terms++cC c.body
def Zq(c:Cl) (n:Nat) (st:PT) (h:H):Prop:=∃k:Nat,n=c.body.length-k/\k<=c.body.length/\st.get 1=.ptr 0 0/\st.get 4=.int .i64 k/\h[0]?=some (.cells (clC c) .live)/\OwnR 41 h (st.get 3) ((c.head.terms++cC (c.body.take k)).map enc)
theorem Ib{h:H}{i:Nat}{c:Cl}(hi:h[i]?=some (.cells (clC c) .live)):aJ C.P h 32 (.ptr i 3)=some (terms c.head.terms):=by simp[aJ,hi,aY,a23,s23,clC,faC,terms]
theorem sL(e:AV):bp C.P 34 (.iptr e 0) 2=some (.iptr e 2):=k_
theorem Mm(f:Fa) (h:H):aJ C.P h 32 (.iptr (aQ f) 2)=some (terms f.terms):=by simp[aJ,aY,a23,s23,aQ,faC,am,terms]
theorem K6(h:H):cQ C.P h 32 0 []=some (.isl [] .full,h):=cY u23 s25 z25 rfl o_ rfl rfl rfl s_ rfl
theorem oG(h:H):cQ C.P h 29 0 []=some (.isl [] .full,h):=cY u33 s35 z35 rfl o_ rfl rfl rfl s_ rfl
theorem Hz(c:Cl) (hl:(bN c).length<4000000) (hb:c.body.length<4000000):az C 36 [ai c]=some (terms (bN c)):=by
 refine bL func36 rfl λR B=>?_
 obtain⟨l,b⟩:∃g:H,g=[.cells (clC c) .live,.tok 0 41]:=⟨_,rfl⟩
 have d:l[0]?=some (.cells (clC c) .live):=by rw[b];rfl
 have e:=Ib d;have f:=iu c.body;simp only[bN,List.length_append]at hl;have⟨J,K,m,t,u,_⟩:=jN (h:=l) (v:=.isl [] .full) (xs:=[]) (ys:=c.head.terms) (x:=.unk) (.inl rfl) (by simp;omega);change bi C.P false l 32 _ (terms c.head.terms)=_ at m;simp[go_sem,fk];rw[<-b];simp[go_sem,K6,e,m];refine bX (Zq c) c.body.length ⟨0,rfl,aO _,g_,g_,u.get d (by simp[cG]),by simpa[go_sem,cC]using t⟩ ?_;clear d e m t u b;rintro n st h ⟨k,rfl,L,w,y,d,i⟩;have e:=jn d;obtain⟨D,o⟩:∃v,v=st.get 3:=⟨_,rfl⟩
 rw[<-o]at i;by_cases a:k<c.body.length
 ·have j:(k:Int)<c.body.length:=o_;have p:aZ C.P 29 (bK c.body) (.int .i64 k)=some (.iptr (aQ c.body[k]) 0):=kD c.body k a .unk;have E:=wS k o_;have q:=yv c.body (k+1);rw[oS a,List.length_append]at q;have⟨F,G,z,A,r,_⟩:=jN (ys:=c.body[k].terms) (x:=.unk) i (by simp only[List.length_append];omega);rw[List.append_assoc,<-oS a]at A;change bi C.P false h 32 D (terms c.body[k].terms)=some (F,G)at z;have s:=r.get d (bn i d);simp[go_sem,w,y,<-o,e,f,j,p,sL,Mm,z,-Int.natCast_add,E];exact⟨c.body.length-(k+1),o_,k+1,rfl,a,g_,g_,s,by simpa[go_sem]using A⟩
 have:k=c.body.length:=o_;subst this;rw[ak]at i;have⟨x,I⟩:=i.isl;simp[go_sem,w,y,<-o,e,f,I];exact B ⟨.isl ((bN c).map enc) x,by simp[ag,cO,f36,go_sem,bN],aU rfl rfl⟩
theorem To(c:Cl) (hl:(bN c).length<4000000) (hb:c.body.length<4000000) (h:H):aj C h (.func 36 []) (some [ai c])=some (terms (bN c),h):=an (oy c) (by simp[jF]) s_ (Hz c hl hb)
theorem Fm(h:H) (a:Fa) (l:List Fa) (x:Ext) (hl:(a::l).length<=10000):bi C.P false h 29 (.isl [] .full) (.isl ((a::l).map aQ) x)=some (.isl ((a::l).map aQ) (.tok h.length),h++[.tok (a::l).length 34]):=by
 have b:=gS (a::l);have c:((a::l).map aQ).length*(40+1)<=35184372088832:=by simp only[ax];omega
 generalize e:(a::l).map aQ=es at b c;have f:es≠[]:=by rw[<-e];simp
 have d:es.length=(a::l).length:=by rw[<-e];simp
 have g:iN 3 []=true:=rfl;simp only[gN,ed,u33,s35,b35,km,z35,b,g];cases es with
 |nil=>exact absurd rfl f
 |cons y i=>rw[<-d];simp only[bB,bu,cN];rw[if_neg s_,if_neg s_,if_neg (by simpa using c)]
theorem Hp(h:H) (x:Ext):bi C.P false h 29 (.isl [] .full) (.isl [] x)=some (.isl [] .full,h):=by have a:iN 3 []=true:=rfl;simp only[gN,ed,u33,s35,b35,km,z35,a];rfl
theorem WZ{h:H}{i:Nat}(l:List Fa) (f:Fa) (hi:h[i]?=some (.tok l.length 34)) (hl:l.length<=10000):bi C.P false h 29 (.isl (l.map aQ) (.tok i)) (.isl [aQ f] .full)=some (.isl ((l++[f]).map aQ) (.tok i),h.set i (.tok (l.length+1) 34)):=by have b:=gS l;have a:=gS [f];simp only[aM,bM]at a;simp only[gN,ed,u33,s35,b35,km,z35,b,a,ax,aL,bB,hi];rw[if_neg s_,if_neg s_,if_neg (by simp;omega),if_pos ⟨trivial,trivial⟩];simp
def dV(l:List Cl):AV:=.isl (l.map ai) .unk
theorem u22:C.P.underlying 24=some (.slice 39):=underlying24
theorem b37:jy C.P 39=some 64:=k_
theorem z37:ip C.P 39=true:=k_
theorem ZF:ja C.P 24=some 39:=k_
theorem ZD:ja C.P 46=some 95:=k_
attribute [go_sem] ZF ZD
theorem IY(l:List Cl) (x:Ext):fG C.P 24 (.isl (l.map ai) x)=some (.int .i64 l.length):=by simp[fG,u22]
theorem sG(l:List Cl):fG C.P 24 (dV l)=some (.int .i64 l.length):=IY l _
theorem sF(l:Lb):fG C.P 81 (binds l)=some (.int .i64 l.length):=by simp[binds,En]
theorem vG(l:List Cl) (k:Nat) (hk:k<l.length):aZ C.P 24 (dV l) (.int .i64 k)=some (.iptr (ai l[k]) 0):=by simp[dV,aZ,u22,s37,ai,clC,faC,am,hk]
theorem sh(c:Cl) (h:H):aJ C.P h 39 (.iptr (ai c) 0)=some (ai c):=by simp[aJ,aY,a37,s37,ai,clC,faC,am]
theorem TP(i:Nat):bp C.P 95 (.ptr i 0) 0=some (.ptr i 0):=k_
theorem TO(i:Nat):bp C.P 95 (.ptr i 0) 1=some (.ptr i 1):=k_
theorem TN(i:Nat):bp C.P 95 (.ptr i 0) 2=some (.ptr i 2):=k_
theorem TM(i:Nat):bp C.P 95 (.ptr i 0) 3=some (.ptr i 3):=k_
theorem CN(f:Fa):fV C.P 39 [(1,aQ f)]=some (.agg (.isl [] .full::faC f)):=by have e:fV C.P 39 [(1,.agg [.int .i64 f.kind,.int .i64 f.goal,.isl (f.terms.map enc) .unk])]=some (.agg [.isl [] .full,.int .i64 f.kind,.int .i64 f.goal,.isl (f.terms.map enc) .unk]):=k_;exact e
theorem KI(a b:Int):az C 108 [.int .i64 a,.int .i64 b]=some (.int .i64 (sgn a b)):=by
 refine bL func108 rfl λR e=>?_
 by_cases c:a<b
 ·simp[go_sem,c];refine e ⟨_,rfl,?_⟩;simp[go_sem,sgn,c];exact aU rfl rfl
 by_cases d:b<a
 ·simp[go_sem,c,d];refine e ⟨_,rfl,?_⟩;simp[go_sem,sgn,c,d];exact aU rfl rfl
 simp[go_sem,c,d];refine e ⟨_,rfl,?_⟩;simp[go_sem,sgn,c,d];exact aU rfl rfl
theorem xJ(a b:Int) (h:H):aj C h (.func 108 []) (some [.int .i64 a,.int .i64 b])=some (.int .i64 (sgn a b),h):=an rfl rfl s_ (KI a b)
def UW(l m:Lq) (n:Nat) (s:PT) (_h:H):Prop:=∃k:Nat,n=l.length-k/\k<=l.length/\s.get 1=terms m/\s.get 2=.func 90 []/\s.get 15=terms l/\s.get 16=.int .i64 l.length/\s.get 17=.int .i64 k/\(l.drop k=m.drop k↔l=m)
theorem QH(l m:Lq) (hl:smallT l) (hm:smallT m):az C 89 [terms l,terms m,.func 90 []]=some (.bool (decide (l=m))):=by
 refine bL func89 rfl λR z=>?_
 by_cases B:l.length=m.length
 ·have b:(l.length:Int)=m.length:=o_;simp[go_sem,terms,fq,b];refine bX (UW l m) l.length ⟨0,rfl,aO _,by simp[go_sem,terms],g_,by simp[go_sem,terms],by simp[go_sem,b],g_,s_⟩ ?_;rintro n s h ⟨k,rfl,L,x,D,c,i,j,r⟩;have J:=hl.1;simp only[terms]at x c;by_cases d:k<l.length
  ·have f:(k:Int)<l.length:=o_;have a:k<m.length:=o_;have t:=lu l k d .unk;have u:=lu m k a .unk;have E:=Ny l[k] m[k] (hl.2 _ (aG d)) (hm.2 _ (aG a));have K:=wS k o_;rw[aI d,aI a,ct]at r;obtain⟨y,o⟩:∃g,g=h++[.cells (enc l[k]).cells .live]:=⟨_,rfl⟩
   have A:=qM l[k] h;rw[<-o]at A;have F:=qM m[k] y;have G:=pk m[k] y;have I:aJ C.P (y++[.cells (enc m[k]).cells .live]) 41 (.ptr h.length 0)=some (enc l[k]):=by
    have q:=pk l[k] h;rw[<-o]at q;have v:h.length<y.length:=by rw[o];simp
    simp only[aJ]at q ⊢;rw[aH v];exact q
   by_cases w:l[k].cmp m[k]=0
   ·simp[go_sem,x,D,c,i,j,f,t,u,ee,A,F,G,I,E,w,-Int.natCast_add,K];rw[cmp_zero]at w;exact⟨l.length-(k+1),o_,k+1,rfl,d,by simp[go_sem,x,terms],g_,by simp[go_sem,c,terms],g_,g_,by rw[<-r];exact⟨λe=>⟨w,e⟩,λe=>e.2⟩⟩
   simp[go_sem,x,D,c,i,j,f,t,u,ee,A,F,G,I,E,w];have p:l≠m:=λe=>w (cmp_zero.mpr (r.mpr e).1)
   refine z ⟨.bool (decide (l=m)),by simp[ag,cO,f89,go_sem,p],aU rfl rfl⟩
  have:k=l.length:=o_;subst this;rw[bH,B,bH]at r;have e:=r.mp rfl;simp[go_sem,i,j];refine z ⟨.bool (decide (l=m)),by simp[ag,cO,f89,go_sem,e],aU rfl rfl⟩
 have b:¬(l.length:Int)=m.length:=o_;simp[go_sem,dP,terms,fq,b];have p:l≠m:=λe=>B (by rw[e])
 refine z ⟨.bool (decide (l=m)),by simp[ag,cO,f89,go_sem,p],aU rfl rfl⟩
theorem N4(l m:Lq) (hl:smallT l) (hm:smallT m) (h:H):aj C h (.func 89 []) (some [terms l,terms m,.func 90 []])=some (.bool (decide (l=m)),h):=an rfl (by simp[tC,GG]) s_ (QH l m hl hm)
def GL(a b:Fa):Bool:=decide (a.kind=b.kind)&&decide (a.goal=b.goal)&&decide (a.terms=b.terms)
def kV(a b:Fa):Int:=thn (sgn a.kind b.kind) (thn (sgn a.goal b.goal) (thn (sgn a.terms.length b.terms.length) (cmps a.terms b.terms)))
theorem Ki(a b:Fa):kV a b=0↔GL a b=true:=by
 simp only[kV,thn_zero,sgn_zero,cmps_zero,GL,bI,decide_eq_true_eq];constructor
 ·rintro⟨a,b,_,d⟩;exact⟨⟨a,b⟩,d⟩
 rintro⟨⟨a,b⟩,d⟩;exact⟨a,b,by rw[d],d⟩
def Zl(a b:Fa) (n:Nat) (st:PT) (h:H):Prop:=∃k:Nat,n=a.terms.length-k/\k<=a.terms.length/\h[0]?=some (.cells (faC a) .live)/\h[1]?=some (.cells (faC b) .live)/\st.get 2=.ptr 0 0/\st.get 3=.ptr 1 0/\st.get 8=.int .i64 k/\cmps a.terms b.terms=cmps (a.terms.drop k) (b.terms.drop k)
theorem P6(a b:Fa) (ha:smallT a.terms) (hb:smallT b.terms):az C 76 [aQ a,aQ b]=some (.int .i64 (kV a b)):=by
 refine bL func76 rfl λR L=>?_
 have fin:∀(st:PT) (h:H) (e:Int),st.get 4=.int .i64 e->kV a b=e->R .ret st h:=λst h e M A=>L ⟨.int .i64 e,by simp[ag,cO,f76,M],by rw[A];exact aU rfl rfl⟩
 obtain⟨F,d⟩:∃g:H,g=[.cells (faC a) .live,.cells (faC b) .live]:=⟨_,rfl⟩
 have i:F[0]?=some (.cells (faC a) .live):=by rw[d];rfl
 have j:F[1]?=some (.cells (faC b) .live):=by rw[d];rfl
 have t:=rK i;have B:=vC i;have o:=mY i;have u:=rK j;have D:=vC j;have r:=mY j;have c:=dX a.terms;have v:=dX b.terms;simp[go_sem,nI];rw[<-d];by_cases l:sgn a.kind b.kind=0
 rotate_left
 ·simp[go_sem,t,u,xJ,l];exact fin _ _ (sgn a.kind b.kind) g_ (by rw[kV,thn,if_neg l])
 by_cases s:sgn a.goal b.goal=0
 rotate_left
 ·simp[go_sem,t,B,u,D,xJ,l,s];exact fin _ _ (sgn a.goal b.goal) g_ (by rw[kV,thn,if_pos l,thn,if_neg s])
 by_cases w:sgn a.terms.length b.terms.length=0
 rotate_left
 ·simp[go_sem,t,B,o,u,D,r,c,v,xJ,l,s,w];exact fin _ _ (sgn a.terms.length b.terms.length) g_ (by rw[kV,thn,if_pos l,thn,if_pos s,thn,if_neg w])
 have A:kV a b=cmps a.terms b.terms:=by rw[kV,thn,if_pos l,thn,if_pos s,thn,if_pos w]
 simp[go_sem,t,B,o,u,D,r,c,v,xJ,l,s,w];have x:a.terms.length=b.terms.length:=by have:=sgn_zero.1 w;omega
 refine bX (Zl a b) a.terms.length ⟨0,rfl,aO _,i,j,g_,g_,g_,rfl⟩ ?_;clear i j t B o u D r d F;rintro n st h ⟨k,rfl,O,i,j,G,J,I,p⟩;have o:=mY i;have r:=mY j;by_cases f:k<a.terms.length
 ·have m:(k:Int)<a.terms.length:=o_;have q:k<b.terms.length:=o_;have y:=dh a.terms k f;have z:=dh b.terms k q;have N:IntKind.i64.wrap ((k:Int)+1)=((k+1:Nat):Int):=by have:=ha.1;rw[ay o_];omega
  have K:=sX a.terms[k] b.terms[k] (ha.2 _ (aG f)) (hb.2 _ (aG q));rw[aI f,aI q,cmps]at p;by_cases E:a.terms[k].cmp b.terms[k]=0
  ·rw[thn,if_pos E]at p;simp[go_sem,G,J,I,o,r,c,m,y,z,ee,K,E,-Int.natCast_add,N];exact⟨a.terms.length-(k+1),o_,k+1,rfl,f,i,j,g_,g_,g_,p⟩
  rw[thn,if_neg E]at p;simp[go_sem,G,J,I,o,r,c,m,y,z,ee,K,E];exact fin _ _ (a.terms[k].cmp b.terms[k]) g_ (by rw[A,p])
 have:k=a.terms.length:=o_;subst this;rw[bH,x,bH,cmps]at p;simp[go_sem,G,I,o,c];exact fin _ _ 0 g_ (by rw[A,p])
theorem yM(a b:Fa) (ha:smallT a.terms) (hb:smallT b.terms) (h:H):aj C h (.func 76 []) (some [aQ a,aQ b])=some (.int .i64 (kV a b),h):=an (args':=[aQ a,aQ b]) rfl rfl s_ (P6 a b ha hb)
def Xv(l:Lb) (t:T) (m:Nat) (st:PT) (h:H):Prop:=∃k:Nat,m=l.length-k/\k<=l.length/\h[0]?=some (.cells (enc t).cells .live)/\h[1]?=some (.cells zc .live)/\st.get 3=.ptr 0 0/\st.get 4=.ptr 1 0/\st.get 13=binds l/\st.get 14=.int .i64 l.length/\st.get 15=.int .i64 k/\dp (l.drop k) t=dp l t
def Xk(l:Lb) (t:T) (m:Nat) (st:PT) (h:H):Prop:=∃(k:Nat) (v:AV),m=t.kids.length-k/\k<=t.kids.length/\h[1]?=some (.cells zc .live)/\h[2]?=some (.cells (tcv t v) .live)/\st.get 0=binds l/\st.get 4=.ptr 1 0/\st.get 7=.ptr 2 0/\st.get 30=terms t.kids/\st.get 31=.int .i64 t.kids.length/\st.get 32=.int .i64 k /\
 OwnR 41 h v (((t.kids.take k).map (cy l)).map enc)
theorem GD{h:H}{i:Nat}(t:T) (hi:h[i]?=some (.cells zc .live)):ah C.P h 41 (.ptr i 0) (enc t)=some (h.set i (.cells (enc t).cells .live)):=by rw[bV];simp[ah,hi,s25,zc,am]
theorem Sg(l:Lb) (t:T) (hs:small l) (hv:t.size<4000000) (hl:l.length<4000000) (hc:∀k∈t.kids,az C 99 [binds l,enc k]=some (enc (cy l k))):az C 99 [binds l,enc t]=some (enc (cy l t)):=by
 refine bL func99 rfl λR hR=>?_
 have fin:∀(s:PT) (D:T) (h:H),s.get 4=.ptr 1 0->h[1]?=some (.cells (enc D).cells .live)->D=cy l t->R .ret s h:=λs D h hs hh ht=>by
  refine hR ⟨enc D,?_,?_⟩
  ·simp[ag,cO,f99,hs,aJ,hh,aY,a25,s25,aq];rw[bV]
  rw[<-ht];exact aU (oh D) (bF D)
 have j:=fh l t;have q6:=size_kids t;have q5:=len_sizes t.kids;have q7:=dX t.kids;have U:=sF l;by_cases E:t.kind=1
 ·rw[if_pos E]at j;simp[go_sem,gx,E,U];refine bX (Xv l t) l.length ⟨0,rfl,aO _,by rw[aq,E];rfl,rfl,g_,g_,g_,g_,g_,rfl⟩ ?_;rintro m st h ⟨k,rfl,hk,m0,u,V,F,G,w,z,r⟩;by_cases e:k<l.length
  ·have f:(k:Int)<l.length:=o_;have n:aZ C.P 81 (binds l) (.int .i64 k)=some (.iptr (bT l[k]) 0):=yk l k e .unk;have X:=wS k o_;have Y:=λN c2 c3 c4 c5 c6 c7 c8=>Ye l[k] N c2 c3 c4 c5 c6 c7 c8 h
   have hb:=hs _ (aG e);obtain⟨p,d⟩:∃g,g=h++[.cells (bT l[k]).cells .live]:=⟨_,rfl⟩
   simp only[<-d]at Y;have nb:p[h.length]?=some (.cells (bT l[k]).cells .live):=by rw[d];simp
   have n0:p[0]?=some (.cells (enc t).cells .live):=by rw[d];exact ga m0
   have I:p[1]?=some (.cells zc .live):=by rw[d];exact ga u
   have O:=Mj nb;have l4:=Mi nb;have lt:=sg t n0;have N:=Ny l[k].1 t hb.1 hv;rw[aI e,dp]at r;by_cases Q:l[k].1.cmp t=0
   ·rw[if_pos Q]at r;have Z:=GD l[k].2 I;simp[go_sem,V,F,G,w,z,f,n,Mk,am,Y,O,l4,lt,N,Q,Z];exact fin _ l[k].2 _ g_ (aD (aB.1 I).1) (by rw[j,r])
   rw[if_neg Q]at r;simp[go_sem,V,G,w,z,f,n,Mk,am,Y,O,lt,N,Q,-Int.natCast_add,X];exact⟨l.length-(k+1),o_,k+1,rfl,e,n0,I,g_,g_,g_,g_,g_,r⟩
  have:k=l.length:=o_;subst this;rw[bH,dp]at r;have lt:=sg t m0;have Z:=GD t u;simp[go_sem,V,F,w,z,lt,Z];exact fin _ t _ g_ (aD (aB.1 u).1) (by rw[j,<-r])
 rw[if_neg E]at j;have q1:∀(x y:VObj) (a b c:AV),ah C.P [x,y,.cells [a,b,c,.isl (t.kids.map enc) .unk] .live] 32 (.ptr 2 3) (.isl [] .full)=some [x,y,.cells [a,b,c,.isl [] .full] .live]:=λx y a b c=>by simp[ah,s23]
 simp[go_sem,aq,E,vD,H8,terms,q1,Vl,fq];refine bX (Xk l t) t.kids.length ⟨0,.isl [] .full,rfl,aO _,rfl,rfl,g_,g_,g_,by simp[go_sem,terms],g_,g_,.inl rfl⟩ ?_;clear q1;rintro m s h ⟨k,v,rfl,hk,u,m2,g0,F,g7,q',J,A,S⟩;have q8:au v=true:=by obtain⟨x,rfl⟩:=S.isl;rfl
 by_cases e:k<t.kids.length
 ·have f:(k:Int)<t.kids.length:=o_;have n:=dh t.kids k e;have X:=wS k o_;have ck:∀h,aj C h (.func 99 []) (some [binds l,enc t.kids[k]])=some (enc (cy l t.kids[k]),h):=λh=>an (py _ _) (by simp[el,bF]) s_ (hc _ (aG e))
  have e4:=qM t.kids[k] h;have K:=pk t.kids[k] h;obtain⟨p,d⟩:∃g,g=h++[.cells (enc t.kids[k]).cells .live]:=⟨_,rfl⟩
  have I:p[1]?=some (.cells zc .live):=by rw[d];exact ga u
  have n2:p[2]?=some (.cells (tcv t v) .live):=by rw[d];exact ga m2
  have q:OwnR 41 p v (((t.kids.take k).map (cy l)).map enc):=by rw[d];exact S.keep (Keep.append _ _ none) s_
  have nb:p[h.length]?=some (.cells (enc t.kids[k]).cells .live):=by rw[d];simp
  have O:aJ C.P p 32 (.ptr 2 3)=some v:=by simp[aJ,n2,tcv,aY,a23,s23]
  rw[<-d]at e4 K;have⟨v',h',ha,q0,hw,L,B⟩:=ue (i:=2) (o:=3) (cy l t.kids[k]) q n2 (by simp[tcv]) (by simp;omega);have q2:(t.kids.take k).map (cy l)++[cy l t.kids[k]]=(t.kids.take (k+1)).map (cy l):=by rw[<-aW e,List.map_append];rfl
  rw[q2]at hw;have q3:=bn q n2;have q4:=bn q nb;simp[go_sem,q',J,A,f,n,ee,e4];refine eQ 14 _ (by simp[gM]) rfl ?_;simp[go_sem,g0,g7,A,O,K,ck,fO,ha,q0,-Int.natCast_add,X];refine⟨?_,t.kids.length-(k+1),o_,k+1,v',rfl,e,L 1 _ _ o_ I,B,g_,g_,g_,g_,g_,g_,hw⟩;rcases q with rfl|⟨id,rfl,r⟩
  ·simp[go_sem,ff,fL,fP,iC,dy,cF]
  simp only[cG,ne_eq,aA]at q3 q4;simp[go_sem,ff,fL,fP,iC,dy,cF]
  (try omega)
 have:k=t.kids.length:=o_;subst this;rw[ak]at S;obtain⟨x,rfl⟩:=S.isl;have K:aJ C.P h 41 (.ptr 2 0)=some (.agg [.int .i64 t.kind,.str t.name,.int .i64 t.sort,.isl ((t.kids.map (cy l)).map enc) x]):=by simp[aJ,m2,aY,a25,s25,tcv]
 have e6:ah C.P h 41 (.ptr 1 0) (.agg [.int .i64 t.kind,.str t.name,.int .i64 t.sort,.isl ((t.kids.map (cy l)).map enc) x])=some (h.set 1 (.cells [.int .i64 t.kind,.str t.name,.int .i64 t.sort,.isl ((t.kids.map (cy l)).map enc) x] .live)):=by simp[ah,u,s25,zc]
 have e7:=(aB.1 u).1;generalize M:AV.agg [.int .i64 t.kind,.str t.name,.int .i64 t.sort,.isl ((t.kids.map (cy l)).map enc) x]=zz at K e6;simp[go_sem,F,g7,J,A,K,e6];refine hR ⟨zz,?_,?_⟩
 ·simp[ag,cO,f99,go_sem,F,aJ,aD e7,aY,a25,s25,<-M]
 rw[j,bV,<-M];exact aU rfl rfl
theorem Gb(l:Lb) (hs:small l) (hl:l.length<4000000) (t:T):t.size<4000000->az C 99 [binds l,enc t]=some (enc (cy l t)):=by
 induction t using T.ind with
 |_ t b=>exact λc=>Sg l t hs c hl (λk a=>b k a (by have:=kid_size a;omega))
theorem Q5(l:Lb) (t:T) (hs:small l) (hv:t.size<4000000) (hl:l.length<4000000) (h:H):aj C h (.func 99 []) (some [binds l,enc t])=some (enc (cy l t),h):=an (py _ _) (by simp[el,bF]) s_ (Gb l hs hl t hv)
def cD(l:Lb) (f:Fa):Fa:=⟨f.kind,f.goal,f.terms.map (cy l)⟩
def fK(l:Lb) (c:Cl):Cl:=⟨c.body.map (cD l),cD l c.head⟩
def fav(f:Fa) (v:AV):LA:=[.int .i64 f.kind,.int .i64 f.goal,v]
theorem GC{h:H}{i:Nat}(a b c:AV) (f:Fa) (x:Ext) (hi:h[i]?=some (.cells [a,b,c] .live)):ah C.P h 34 (.ptr i 0) (.agg [.int .i64 f.kind,.int .i64 f.goal,.isl (f.terms.map enc) x])=some (h.set i (.cells [.int .i64 f.kind,.int .i64 f.goal,.isl (f.terms.map enc) x] .live)):=by simp[ah,hi,s35]
def Zp(l:Lb) (f:Fa) (m:Nat) (s:PT) (h:H):Prop:=∃(k:Nat) (v:AV),m=f.terms.length-k/\k<=f.terms.length/\h[1]?=some (.cells qI .live)/\h[2]?=some (.cells (fav f v) .live)/\s.get 0=binds l/\s.get 4=.ptr 1 0/\s.get 5=.ptr 2 0/\s.get 11=terms f.terms/\s.get 12=.int .i64 f.terms.length/\s.get 13=.int .i64 k /\
 OwnR 41 h v (((f.terms.take k).map (cy l)).map enc)
theorem Rh(l:Lb) (f:Fa) (hs:small l) (hl:l.length<4000000) (hv:smallT f.terms):az C 95 [binds l,aQ f]=some (aQ (cD l f)):=by
 refine bL func95 rfl λR hR=>?_
 have G:=dX f.terms;have q':=hv.1;obtain⟨p,b⟩:∃g:H,g=[.cells (faC f) .live,.cells qI .live]:=⟨_,rfl⟩
 have I:p[0]?=some (.cells (faC f) .live):=by rw[b];rfl
 have J:aJ C.P p 34 (.ptr 0 0)=some (aQ f):=by simp[aJ,I,aY,a35,s35,faC,aQ]
 have t:=yW f p;have e:p.length=2:=by rw[b];rfl
 obtain⟨c,a⟩:∃g,g=p++[.cells (faC f) .live]:=⟨_,rfl⟩
 have u:ah C.P c 32 (.ptr p.length 2) (.isl [] .full)=some (c.set 2 (.cells (fav f (.isl [] .full)) .live)):=by
  have:c[2]?=some (.cells (faC f) .live):=by rw[a,<-e];simp
  simp[ah,this,s23,fav,faC,e]
 have K:c.length=3:=by rw[a];simp[e]
 have Y:(c.set 2 (.cells (fav f (.isl [] .full)) .live))[0]?=some (.cells (faC f) .live):=by rw[aC s_,a];exact ga I
 have Z:(c.set 2 (.cells (fav f (.isl [] .full)) .live))[1]?=some (.cells qI .live):=by rw[aC s_,a,b];rfl
 have k2:(c.set 2 (.cells (fav f (.isl [] .full)) .live))[2]?=some (.cells (fav f (.isl [] .full)) .live):=aD o_;have w:=mY Y;rw[<-a]at t;simp only[b,aL,bB]at t u J
 replace t:ah C.P [.cells (faC f) .live,.cells qI .live,.cells qI .live] 34 (.ptr 2 0) (aQ f)=some c:=t
 replace u:ah C.P c 32 (.ptr 2 2) (.isl [] .full)=some (c.set 2 (.cells (fav f (.isl [] .full)) .live)):=u
 simp[go_sem,nI,qv,am,J,t,u,w,G];refine bX (Zp l f) f.terms.length ⟨0,.isl [] .full,rfl,aO _,Z,k2,g_,g_,g_,g_,g_,g_,.inl rfl⟩ ?_;clear w Y Z k2 u t J I a K c b e p;rintro m s h ⟨k,v,rfl,hk,L,m2,g0,g4,g5,M,y,q,F⟩;have q0:au v=true:=by obtain⟨x,rfl⟩:=F.isl;rfl
 by_cases j:k<f.terms.length
 ·have z:(k:Int)<f.terms.length:=o_;have N:=dh f.terms k j;have w2:=wS k o_;have ck:=Q5 l f.terms[k] hs (hv.2 _ (aG j)) hl;have e4:=qM f.terms[k] h;have A:=pk f.terms[k] h;obtain⟨B,d⟩:∃g,g=h++[.cells (enc f.terms[k]).cells .live]:=⟨_,rfl⟩
  have n1:B[1]?=some (.cells qI .live):=by rw[d];exact ga L
  have O:B[2]?=some (.cells (fav f v) .live):=by rw[d];exact ga m2
  have n:OwnR 41 B v (((f.terms.take k).map (cy l)).map enc):=by rw[d];exact F.keep (Keep.append _ _ none) s_
  have nb:B[h.length]?=some (.cells (enc f.terms[k]).cells .live):=by rw[d];simp
  have l0:aJ C.P B 32 (.ptr 2 2)=some v:=by simp[aJ,O,fav,aY,a23,s23]
  rw[<-d]at e4 A;have⟨v',h',ha,Q,hw,D,r⟩:=ue (i:=2) (o:=2) (cy l f.terms[k]) n O (by simp[fav]) (by simp;omega);have S:(f.terms.take k).map (cy l)++[cy l f.terms[k]]=(f.terms.take (k+1)).map (cy l):=by rw[<-aW j,List.map_append];rfl
  rw[S]at hw;have U:=bn n O;have V:=bn n nb;simp[go_sem,M,y,q,z,N,ee,e4];refine eQ 6 _ (by simp[gM]) rfl ?_;simp[go_sem,g0,g5,q,l0,A,ck,fO,ha,Q,-Int.natCast_add,w2];refine⟨?_,f.terms.length-(k+1),o_,k+1,v',rfl,j,D 1 _ _ o_ n1,r,g_,g_,g_,g_,g_,g_,hw⟩;rcases n with rfl|⟨id,rfl,hd⟩
  ·simp[go_sem,ff,fL,fP,iC,dy,cF]
  simp only[cG,ne_eq,aA]at U V;simp[go_sem,ff,fL,fP,iC,dy,cF]
  (try omega)
 have:k=f.terms.length:=o_;subst this;rw[ak]at F;obtain⟨x,rfl⟩:=F.isl;have A:aJ C.P h 34 (.ptr 2 0)=some (.agg [.int .i64 f.kind,.int .i64 f.goal,.isl ((cD l f).terms.map enc) x]):=by simp[aJ,m2,aY,a35,s35,fav,cD]
 have X:=GC _ _ _ (cD l f) x L;have e7:=(aB.1 L).1;change ah C.P h 34 (.ptr 1 0) (.agg [.int .i64 f.kind,.int .i64 f.goal,.isl ((cD l f).terms.map enc) x])=_ at X;generalize E:AV.agg [.int .i64 f.kind,.int .i64 f.goal,.isl ((cD l f).terms.map enc) x]=zz at A X;simp[go_sem,g4,g5,y,q,A,X];refine hR ⟨zz,?_,?_⟩
 ·simp[ag,cO,f95,go_sem,g4,aJ,aD e7,aY,a35,s35,<-E,cD]
 rw[<-E];exact aU rfl rfl
theorem Nx(l:Lb) (f:Fa) (hs:small l) (hl:l.length<4000000) (hv:smallT f.terms) (h:H):aj C h (.func 95 []) (some [binds l,aQ f])=some (aQ (cD l f),h):=an (args':=[binds l,aQ f]) rfl (by simp[el];rfl) s_ (Rh l f hs hl hv)
theorem Rx(f:Fa):fV C.P 34 [(0,.int .i64 f.kind),(1,.int .i64 f.goal)]=some (.agg (fav f (.isl [] .full))):=k_
theorem Rf{h:H}(f:Fa) (v:AV) (_hv:au v=true):ah C.P (h++[.cells qI .live]) 34 (.ptr h.length 0) (.agg (fav f v))=some (h++[.cells (fav f v) .live]):=by simp[ah,s35,qI,fav]
def XW(l:Lb) (f:Fa) (m:Nat) (s:PT) (h:H):Prop:=∃(k:Nat) (v:AV),m=f.terms.length-k/\k<=f.terms.length/\h[0]?=some (.cells (faC f) .live)/\h[1]?=some (.cells qI .live)/\h[2]?=some (.cells (fav f v) .live)/\s.get 0=binds l/\s.get 3=.ptr 0 0/\s.get 4=.ptr 1 0/\s.get 5=.ptr 2 0/\s.get 6=.int .i64 k /\
 OwnR 41 h v (((f.terms.take k).map (cy l)).map enc)
theorem OA(l:Lb) (f:Fa) (hs:small l) (hl:l.length<4000000) (hv:smallT f.terms):az C 74 [binds l,aQ f]=some (aQ (cD l f)):=by
 refine bL func74 rfl λR O=>?_
 have n:=dX f.terms;have Q:=hv.1;obtain⟨t,c⟩:∃g:H,g=[.cells (faC f) .live,.cells qI .live]:=⟨_,rfl⟩
 have d:t[0]?=some (.cells (faC f) .live):=by rw[c];rfl
 have u:=rK d;have w:=vC d;have J:=Rf (h:=t) f (.isl [] .full) rfl;have S:=Rx f;simp only[c,aL,bB]at J u w;simp[go_sem,nI,qv,am,u,w,S,au];refine bX (XW l f) f.terms.length ⟨0,.isl [] .full,rfl,aO _,rfl,rfl,rfl,g_,g_,g_,g_,g_,.inl rfl⟩ ?_;clear J u w d c t;rintro m s h ⟨k,v,rfl,hk,d,y,r,U,z,K,L,A,e⟩;have V:au v=true:=by obtain⟨x,rfl⟩:=e.isl;rfl
 have lt:=mY d;have X:aJ C.P h 32 (.ptr 2 2)=some v:=by simp[aJ,r,fav,aY,a23,s23]
 by_cases a:k<f.terms.length
 ·have p:(k:Int)<f.terms.length:=o_;have B:=dh f.terms k a;have Y:=wS k o_;have Z:=Nv l f.terms[k] hs (hv.2 _ (aG a)) hl;have⟨v',h',ha,D,M,b,j⟩:=ue (i:=2) (o:=2) (cy l f.terms[k]) e r (by simp[fav]) (by simp;omega);have E:(f.terms.take k).map (cy l)++[cy l f.terms[k]]=(f.terms.take (k+1)).map (cy l):=by rw[<-aW a,List.map_append];rfl
  rw[E]at M;have F:=bn e r;have G:=bn e d;simp[go_sem,z,A,lt,n,p,-Int.natCast_add];refine eQ 5 _ (by simp[gM]) rfl ?_;simp[go_sem,U,z,L,A,lt,X,B,ee,Z,fO,ha,D,-Int.natCast_add,Y];refine⟨?_,f.terms.length-(k+1),o_,k+1,v',rfl,a,b 0 _ _ o_ d,b 1 _ _ o_ y,j,g_,g_,g_,g_,g_,M⟩;rcases e with rfl|⟨id,rfl,hd⟩
  ·simp[go_sem,ff,fL,fP,iC,dy,cF]
  simp only[cG,ne_eq,aA]at F G;simp[go_sem,ff,fL,fP,iC,dy,cF]
  (try omega)
 have:k=f.terms.length:=o_;subst this;rw[ak]at e;obtain⟨x,rfl⟩:=e.isl;have N:aJ C.P h 34 (.ptr 2 0)=some (.agg [.int .i64 f.kind,.int .i64 f.goal,.isl ((cD l f).terms.map enc) x]):=by simp[aJ,r,aY,a35,s35,fav,cD]
 have I:=GC _ _ _ (cD l f) x y;have e7:=(aB.1 y).1;change ah C.P h 34 (.ptr 1 0) (.agg [.int .i64 f.kind,.int .i64 f.goal,.isl ((cD l f).terms.map enc) x])=_ at I;generalize q:AV.agg [.int .i64 f.kind,.int .i64 f.goal,.isl ((cD l f).terms.map enc) x]=zz at N I;simp[go_sem,z,K,L,A,lt,n,N,I];refine O ⟨zz,?_,?_⟩
 ·simp[ag,cO,f74,go_sem,K,aJ,aD e7,aY,a35,s35,<-q,cD]
 rw[<-q];exact aU rfl rfl
theorem JJ(l:Lb) (f:Fa) (hs:small l) (hl:l.length<4000000) (hv:smallT f.terms) (h:H):aj C h (.func 74 []) (some [binds l,aQ f])=some (aQ (cD l f),h):=an (args':=[binds l,aQ f]) rfl (by simp[el];rfl) s_ (OA l f hs hl hv)
theorem nL{h:H}{v:AV}{xs ys:List Fa}{x:Ext}(o:OwnR 34 h v (xs.map aQ)) (hl:xs.length+ys.length<=100000000000) :
  ∃v' h',bi C.P false h 29 v (.isl (ys.map aQ) x)=some (v',h')/\OwnR 34 h' v' ((xs++ys).map aQ)/\Keep h h' (cG v)/\(cG v'=cG v\/cG v=none/\cG v'=some h.length):=by
 have:=mQ (x:=x) u33 s35 b35 z35 rfl o (gS xs) (gS ys) (by simp only[ax];omega);rwa[<-List.map_append]at this
theorem wv{h:H}{v:AV}{xs:List Fa}{i o:Nat}{cs:LA}(y:Fa) (go:OwnR 34 h v (xs.map aQ)) (hi:h[i]?=some (.cells cs .live)) (ho:o<cs.length) (hl:xs.length<10000000) :
  ∃v' h',bi C.P false h 29 v (.isl [aQ y] .full)=some (v',h')/\ah C.P h' 29 (.ptr i o) v'=some (h'.set i (.cells (cs.set o v') .live))/\OwnR 34 (h'.set i (.cells (cs.set o v') .live)) v' ((xs++[y]).map aQ) /\
   (∀(j:Nat) c st,j≠i->h[j]?=some (.cells c st)->(h'.set i (.cells (cs.set o v') .live))[j]?=some (.cells c st))/\(h'.set i (.cells (cs.set o v') .live))[i]?=some (.cells (cs.set o v') .live):=by
 have⟨v',h',p,l,d,g⟩:=nL (ys:=[y]) (x:=.full) go (by simp;omega);have a:∀(j:Nat) c st,h[j]?=some (.cells c st)->cG v≠some j:=λj c st b=>bn go b
 have f:=d.get hi (a _ _ _ hi);have k:=(aB.1 f).1;refine⟨v',h',by simpa using p,?_,?_,?_,aD k⟩
 ·obtain⟨x,rfl⟩:=l.isl;simp[ah,f,s33,ho]
 ·refine l.keep (Keep.set _ _ _) (λj b e=>?_);simp only[aA]at e;subst e;rcases g with m|⟨m,q⟩
  ·exact a _ _ _ hi (m▸b)
  have:=(aB.1 hi).1;rw[q]at b;simp only[aA]at b;omega
 intro j c st b n;rw[aC (λe=>b e.symm)];exact d.get n (a _ _ _ n)
def dU:LA:=[.isl [] .full,.int .i64 0,.int .i64 0,.isl [] .full]
theorem om:iV C.P 39=some (.agg dU):=k_
theorem H7{h:H}(f:Fa) (v:AV) (_hv:au v=true):ah C.P (h++[.cells dU .live]) 39 (.ptr h.length 0) (.agg (v::faC f))=some (h++[.cells (v::faC f) .live]):=by simp[ah,s37,dU,faC]
def Zm(l:Lb) (c:Cl) (m:Nat) (s:PT) (h:H):Prop:=∃(k:Nat) (v:AV),m=c.body.length-k/\k<=c.body.length/\h[0]?=some (.cells (clC c) .live)/\h[1]?=some (.cells dU .live)/\h[2]?=some (.cells (v::faC (cD l c.head)) .live)/\s.get 0=binds l/\s.get 3=.ptr 0 0/\s.get 4=.ptr 1 0/\s.get 5=.ptr 2 0/\s.get 6=.int .i64 k /\
 OwnR 34 h v (((c.body.take k).map (cD l)).map aQ)
theorem Le{h:H}{i:Nat}(c:Cl) (x:Ext) (hi:h[i]?=some (.cells dU .live)):ah C.P h 39 (.ptr i 0) (.agg (.isl (c.body.map aQ) x::faC c.head))=some (h.set i (.cells (.isl (c.body.map aQ) x::faC c.head) .live)):=by simp[ah,hi,s37,dU,faC]
theorem Dl(l:Lb) (c:Cl) (hs:small l) (hl:l.length<4000000) (hv:∀f∈aN c,smallT f.terms) (hb:c.body.length<=10000):az C 38 [binds l,ai c]=some (ai (fK l c)):=by
 refine bL func38 rfl λR S=>?_
 obtain⟨w,b⟩:∃g:H,g=[.cells (clC c) .live,.cells dU .live]:=⟨_,rfl⟩
 have n:w[0]?=some (.cells (clC c) .live):=by rw[b];rfl
 have y:=lQ n;have U:=JJ l c.head hs hl (hv _ (by simp[aN]));have V:=CN (cD l c.head);have p:=H7 (h:=w) (cD l c.head) (.isl [] .full) rfl;simp only[b,aL,bB]at p y
 replace p:ah C.P [.cells (clC c) .live,.cells dU .live,.cells dU .live] 39 (.ptr 2 0) (.agg (.isl [] .full::faC (cD l c.head)))=some [.cells (clC c) .live,.cells dU .live,.cells (.isl [] .full::faC (cD l c.head)) .live]:=p
 simp[go_sem,fk,om,am,y,U,V,p,show au (aQ (cD l c.head))=true from rfl];refine bX (Zm l c) c.body.length ⟨0,.isl [] .full,rfl,aO _,rfl,rfl,rfl,g_,g_,g_,g_,g_,.inl rfl⟩ ?_;clear p y n b w;rintro m s h ⟨k,v,rfl,hk,n,z,u,X,A,L,M,B,d⟩;have Y:au v=true:=by obtain⟨x,rfl⟩:=d.isl;rfl
 have D:=jn n;have q:=iu c.body;have Z:aJ C.P h 29 (.ptr 2 0)=some v:=by simp[aJ,u,aY,a33,s33]
 by_cases e:k<c.body.length
 ·have r:(k:Int)<c.body.length:=o_;have E:aZ C.P 29 (bK c.body) (.int .i64 k)=some (.iptr (aQ c.body[k]) 0):=kD c.body k e .unk;have F:=ll c.body[k];have w2:=wS k o_;have ck:=JJ l c.body[k] hs hl (hv _ (by simp[aN]));have⟨v',h',ha,G,N,a,j⟩:=wv (i:=2) (o:=0) (cD l c.body[k]) d u s_ (by simp;omega);have I:(c.body.take k).map (cD l)++[cD l c.body[k]]=(c.body.take (k+1)).map (cD l):=by rw[<-aW e,List.map_append];rfl
  rw[I]at N;have J:=bn d u;have K:=bn d n;have nt:=show au (aQ (cD l c.body[k]))=true from rfl;simp[go_sem,A,B,D,q,r,-Int.natCast_add];refine eQ 5 _ (by simp[gM]) rfl ?_;simp[go_sem,X,A,M,B,D,Z,E,F,ck,eI,ha,G,nt,-Int.natCast_add,w2];refine⟨?_,c.body.length-(k+1),o_,k+1,v',rfl,e,a 0 _ _ o_ n,a 1 _ _ o_ z,j,g_,g_,g_,g_,g_,N⟩;rcases d with rfl|⟨id,rfl,hd⟩
  ·simp[go_sem,ff,fL,fP,iC,dy,cF]
  simp only[cG,ne_eq,aA]at J K;simp[go_sem,ff,fL,fP,iC,dy,cF]
  (try omega)
 have:k=c.body.length:=o_;subst this;rw[ak]at d;obtain⟨x,rfl⟩:=d.isl;have O:aJ C.P h 39 (.ptr 2 0)=some (.agg (.isl ((fK l c).body.map aQ) x::faC (fK l c).head)):=by simp[aJ,u,aY,a37,s37,fK,faC]
 have Q:=Le (fK l c) x z;have e7:=(aB.1 z).1;generalize t:AV.agg (.isl ((fK l c).body.map aQ) x::faC (fK l c).head)=zz at O Q;simp[go_sem,A,L,M,B,D,q,O,Q];refine S ⟨zz,?_,?_⟩
 ·simp[ag,cO,f38,go_sem,L,aJ,aD e7,aY,a37,s37,<-t,faC]
 rw[<-t];exact aU rfl rfl
attribute [go_sem] TP TO TN TM
def okC(c:Cl):Prop:=c.body.length<=12/\sizes (bN c)<=10000/\∀f∈aN c,f.terms≠[]/\f.terms.length<=8/\∀t∈f.terms,t.size<=400
theorem VD(c:Cl) (h:H):ah C.P (h++[.cells dU .live]) 39 (.ptr h.length 0) (ai c)=some (h++[.cells (clC c) .live]):=by simp[ah,s37,dU,ai,clC,faC]
theorem pF{l:Lq}{n:Nat}(h:∀x∈l,x.size<n):∀y∈bS l,y.size<n:=λy a=>by rw[bS,mem_setS,bR]at a;have⟨x,b,a⟩:=a;exact yT (h x b) y a
theorem F5(l:Lq):(bS l).length<=sizes l:=cJ (zw _) (pV l)
theorem gb(c:Cl) (t:T):t∈cC (aN c)↔t∈bN c:=by
 simp only[cC,aN,bN,bR,aK,aS];constructor
 ·rintro⟨f,b|rfl,a⟩
  ·exact .inr ⟨f,b,a⟩
  exact .inl a
 rintro(a|⟨f,b,a⟩)
 ·exact⟨c.head,.inr rfl,a⟩
 exact⟨f,.inl b,a⟩
theorem jE:∀(l m:Lq),sizes (l++m)=sizes l+sizes m
 |[],m=>by simp[sizes]
 |a::l,m=>by rw[cV,sizes,sizes,jE l m];omega
theorem EA(c:Cl):sizes (cC (aN c))=sizes (bN c):=by
 have e:cC (aN c)=cC c.body++c.head.terms:=by simp[cC,aN]
 rw[e,bN,jE,jE];omega
theorem okC.call49{c:Cl}(hc:okC c) (h:H):aj C h (.func 24 []) (some [bK (aN c)])=some (terms (bS (bN c)),h):=by
 rw[<-Bb (aN c) (bN c) (gb c)];have⟨k,d,b⟩:=hc;refine Go.VZ.call49 (aN c) (λt a=>?_) (by rw[EA];exact d) (by simp[aN];omega) ?_ h
 ·have⟨f,g,a⟩:=bR.1 a;have:=(b f g).2.2 t a;omega
 have i:=(b c.head (by simp[aN])).1;intro e;apply i;have j:cC (aN c)=cC c.body++c.head.terms:=by simp[cC,aN]
 rw[j]at e;exact(List.append_eq_nil_iff.1 e).2
theorem okC.small{c:Cl}(hc:okC c):∀t∈bN c,t.size<=400:=λt a=>by have⟨f,b,a⟩:=bR.1 ((gb c t).2 a);exact(hc.2.2 f b).2.2 t a
theorem okC.smallT{c:Cl}(hc:okC c):∀f∈aN c,Go.VZ.smallT f.terms:=λf a=>by have⟨_,e,b⟩:=hc.2.2 f a;exact⟨o_,λt d=>by have:=b t d;omega⟩
theorem Ip(e:AV):bp C.P 34 (.iptr e 0) 0=some (.iptr e 0):=k_
theorem Vg(f:Fa) (h:H):aJ C.P h 3 (.iptr (aQ f) 0)=some (.int .i64 f.kind):=by simp[aJ,aY,a3,s3,aQ,faC,am]
theorem VE{h:H}{i:Nat}(c c':Cl) (hi:h[i]?=some (.cells (clC c) .live)):ah C.P h 39 (.ptr i 0) (ai c')=some (h.set i (.cells (clC c') .live)):=by simp[ah,hi,s37,ai,clC,faC]
theorem EB:∀ {l:Lq}{t:T},t∈l->t.size<=sizes l
 |a::l,t,h=>by
  rw[sizes];rcases aV.1 h with rfl|h
  ·omega
  have:=EB h;omega
theorem wG:∀ {l:Lq},iM l=0->∀t∈l,bA t=0
 |[],_,t,ht=>by simp at ht
 |a::l,h,t,ht=>by
  rw[iM]at h;by_cases e:bA a=0
  ·rw[if_neg (by simpa using e)]at h;rcases aV.1 ht with rfl|ht
   ·exact e
   exact wG h t ht
  rw[if_pos e]at h;exact absurd h e
theorem yo:∀ {l:List Fa},ia l=0->∀f∈l,eZ f=0
 |[],_,t,ht=>by simp at ht
 |a::l,h,t,ht=>by
  rw[ia]at h;by_cases e:eZ a=0
  ·rw[if_neg (by simpa using e)]at h;rcases aV.1 ht with rfl|ht
   ·exact e
   exact yo h t ht
  rw[if_pos e]at h;exact absurd h e
theorem eS{f:Fa}(h:eZ f=0):f.terms≠[]/\f.terms.length<=8/\∀t∈f.terms,bA t=0:=by
 unfold eZ at h;split at h
 ·cases h
 split at h
 ·cases h
 split at h
 ·cases h
 split at h
 ·cases h
 rename_i a b;exact⟨λe=>a (by rw[e];rfl),o_,wG h⟩
theorem dH{c:Cl}(h:bY c=0):c.body.length<=12/\∀f∈aN c,eZ f=0:=by
 unfold bY at h;split at h
 ·cases h
 exact⟨o_,yo h⟩
theorem c35:prog.cellsOf 34=3:=k_
section
variable {H:Type}{ec:TypeId × Value->H}{w:World}
end
end Go.VZ
namespace Go.VZ
open Go Go.V Go.Proofs Tryz TL
theorem Pp{w:World}{α:Type}{toV:α->AV}{k:Nat}(h0:0<k) (hl:∀a:α,(toV a).cells.length=k/\au (toV a)=true/\∀c∈(toV a).cells,c.one=true){l:List α}{a:Addr}{cap:Nat}(hlc:l.length<=cap) (hcm:cap<=maxLen) (hne:0<l.length)
  (hlp:∀(i:Nat) a',l[i]?=some a'->∃cs,w.cells? 0 (a.add (i*k)) k=some cs/\∀(j:Nat) c u,(toV a').cells[j]?=some c->cs[j]?=some u->IRel (λ_ _=>True) w c u):IRel (λ_ _=>True) w (.isl (l.map toV) .unk) (.slice (some a) l.length cap):=by
 have⟨b,o,z⟩:=a;have m:z=none:=by have⟨cs,g,_⟩:=hlp 0 (l[0]' o_) (aF o_);have⟨n,p⟩:=tl g;have:=p 0 (cs[0]' o_) (aF o_);exact CQ (by simpa using this)
 subst m;have h:∀(i j:Nat) e c,(l.map toV)[i]?=some e->e.cells[j]?=some c->∃u,w.cell? ⟨b,o+i*k+j,none⟩=some u/\IRel (λ_ _=>True) w c u:=λi j e c d f=>by
  rw[cK]at d;obtain⟨a',r,rfl⟩:=cS.1 d;have⟨cs,g,s⟩:=hlp i a' r;have⟨n,p⟩:=tl g;have q:j<cs.length:=by have:=(aB.1 f).1;rw[(hl a').1]at this;omega
  have:=p j cs[j] (aF q);exact⟨cs[j],CR this,s j c _ f (aF q)⟩
 have:=IRel.isl (A:=λ_ _=>True) (w:=w) (es:=l.map toV) (sz:=k) (b:=b) (o:=o) (cap:=cap) (λi j=>(w.cell? ⟨b,o+i*k+j,none⟩).getD .nilIface) h0 (by simp;omega) hcm
  (λe d=>by obtain⟨a',_,rfl⟩:=ae.1 d;exact⟨(hl a').1,(hl a').2.1⟩)
  (λe d c f=>by obtain⟨a',_,rfl⟩:=ae.1 d;exact(hl a').2.2 c f)
  (λi j e c d f=>by have⟨u,g,_⟩:=h i j e c d f;exact⟨trivial,by rw[g];rfl⟩)
  (λi j e c d f=>by have⟨u,g,n⟩:=h i j e c d f;rw[g];exact n)
 rw[ax]at this;exact this
def wordsB:List ByteArray:=[⟨#[97,110,121]⟩,⟨#[97,103,101,110,116]⟩,⟨#[110,111,110,99,101]⟩,⟨#[107,101,121]⟩,⟨#[100,97,116,97]⟩,⟨#[116,97,103]⟩]
theorem YY:prog.underlying 259=some (.array 20 210):=k_
theorem YZ:prog.underlying 210=some (.int .u64):=k_
theorem ZM:prog.cellsOf 210=1:=k_
theorem ZL:prog.cellsOf 259=20:=k_
def MC{H:Type}:List (DataW H):=(List.range 20).map λi=>.lit (.int .u64 ((10 ^ i:Nat):Int))
theorem J6{H:Type}:YtbcnnpkfkopoeaaGreatDoor.Rows.laid_internal_strconv_uint64pow10 (H:=H)=.agg MC:=k_
theorem Gd{H:Type}{enc:TypeId × Value->H}{w:World}{base:Nat}{sp:Nat->Bool}{held:Bool}{fuel:Nat}{cs:List Value}{p:List MemPlace}(hr:DataW.trod enc prog w base sp held fuel 259 cs=some (YtbcnnpkfkopoeaaGreatDoor.Rows.laid_internal_strconv_uint64pow10,p)):cs.length=20/\∀i,i<20->cs[i]?=some (.int .u64 ((10 ^ i:Nat):Int)):=by
 have⟨b,m,_,g,a,l,c⟩:=DataW.trod_array YY hr;rw[ZL]at a;refine⟨a,λi h=>?_⟩;have d:=c i h;rw[ZM,ol]at d;have j:b[i]?=some (b[i]' o_):=aF o_;rw[j]at d;have⟨n,e,o,_⟩:=DataW.trod_int YZ d;rw[J6]at g;have q:MC=b.map (·.1):=by have:=congrArg Prod.fst g;simpa using this
 have f:=congrArg (·[i]?) q;simp only[MC,cK,eo h,j,cT,aA,o]at f;simp only[DataW.lit.injEq,Lit.int.injEq,true_and]at f;have k:=congrArg (·[0]?) e;simp only[List.getElem?_take_of_lt (show 0<1 by decide),cd,dm,dG]at k;rw[k,<-f]
theorem Kb{w:World}(h:laidMetH prog YtbcnnpkfkopoeaaGreatDoor.Rows.querySoundRow.laid w):kF (λ_ _=>True) w:=by
 rw[MakeChecks.laidMetH_plain _ _ _ k_]at h;have⟨ps,h,_,_⟩:=h;have⟨_,_,_,_,_,_,_,_,_,_,h,_⟩:=h;have⟨_,_,_,_,_,_,_,_,_,_,h,_⟩:=h;have⟨g,t,N,D,p,q,I,J,m,K,h,_⟩:=h;have z:prog.globalNamed "internal/strconv.uint64pow10" = some 2:=k_;have L:(prog.globals[2]?).map (·.type)=some 259:=k_;have O:g=2:=Option.some.inj (I.symm.trans z);subst O;have Q:t=259:=Option.some.inj (J.symm.trans L);subst Q;have l:∃A B,w.heap[2]?=some (.cells N A B):=by
  unfold World.var? at m;rw[show prog.globalNamed _=some 2 from z]at m;simp only[cZ]at m;split at m
  ·rename_i A B S;simp only[aA]at m;subst m;exact⟨_,_,S⟩
  cases m
 have⟨y,E⟩:=Gd K;clear K m J I z L;have⟨g,t,cs,D,p,q,I,J,m,K,_,_⟩:=h;have z:prog.globalNamed "sealring/term.words" = some 1:=k_;have L:(prog.globals[1]?).map (·.type)=some 56:=k_;have O:g=1:=Option.some.inj (I.symm.trans z);subst O;have Q:t=56:=Option.some.inj (J.symm.trans L);subst Q;have r:∃A B,w.heap[1]?=some (.cells cs A B):=by
  unfold World.var? at m;rw[show prog.globalNamed _=some 1 from z]at m;simp only[cZ]at m;split at m
  ·rename_i A B S;simp only[aA]at m;subst m;exact⟨_,_,S⟩
  cases m
 have⟨A,B,r⟩:=r;rcases DataW.trod_slice underlying56 K with⟨_,M⟩|⟨a,len,x,v,q',n,rfl,U,M,_,q0,V,q1,X,_,_⟩
 ·cases M
 simp only[aE]at M;have hd:v.map (·.1)=wordsB.map λb=>DataW.lit (.string b.data.toList):=by have:=M.1;simp only[YtbcnnpkfkopoeaaGreatDoor.Rows.laid_sealring_term_words,DataW.slice.injEq]at this;exact this.1.symm
 have F:wordsB.length=len:=by have:=congrArg List.length hd;simp only[ax]at this;omega
 have hrel:IRel (λ_ _=>True) w (.isl (wordsB.map AV.str) .unk) (.slice (some a) len x):=by
  rw[<-F];refine Pp (k:=1) o_ (λa=>⟨rfl,rfl,λc d=>by simp[AV.cells]at d;subst d;rfl⟩) o_ V d_ λi b hb=>?_
  have hi:i<len:=by have:=(aB.1 hb).1;omega
  have h1:=X i hi;have h2:v[i]?=some (v[i]' o_):=aF o_;rw[h2,c9]at h1;have⟨Y,h3,h4⟩:=Option.bind_eq_some_iff.1 h1;refine⟨Y,h3,λj c u d G=>?_⟩;have⟨s,e,e',_⟩:=DataW.trod_string underlying9 h4;have h5:=congrArg (·[i]?) hd;simp only[cK,h2,hb,cT,aA,e']at h5;have hs:s.data.toList=b.data.toList:=by simpa using h5
  have:s=b:=name_inj.1 hs;subst this;subst e;match j,d,G with
  |0,d,G=>simp[AV.cells]at d G;subst d;subst G;exact .str _
  |j+1,d,G=>simp[AV.cells]at d
 have⟨d0,d1,l⟩:=l;refine⟨λg' a' f=>?_,λg' n' f=>?_⟩
 rotate_left
 ·unfold wl at f;split at f
  ·rename_i e;subst e;simp only[aA]at f;subst f;exact⟨_,_,_,l,by simpa using y⟩
  cases f
 unfold tW at f;split at f
 ·rename_i e;subst e;simp only[aA]at f;subst f;have Z:w.cell? ⟨1,0,none⟩=some (.slice (some a) len x):=by
   have:cs = #[.slice (some a) len x]:=by apply Array.ext';simpa using U
   simp[World.cell?,r,this]
  refine IRel.iptr (off:=0) (b:=1) (o:=0) (λ_=>.slice (some a) len x) ?_ ?_ ?_
  ·intro c d;simp[AV.cells]at d;subst d;rfl
  ·intro j c d;match j,d with
   |0,_=>exact⟨trivial,Z⟩
   |j+1,d=>simp[AV.cells]at d
  intro j c d;match j,d with
  |0,d=>simp[AV.cells]at d;subst d;exact hrel
  |j+1,d=>simp[AV.cells]at d
 split at f
 ·rename_i e;subst e;simp only[aA]at f;subst f;refine IRel.iptr (off:=0) (b:=2) (o:=0) (λj=>.int .u64 ((10 ^ j:Nat):Int)) ?_ ?_ ?_
  ·intro c d;simp only[AV.cells,ae]at d;obtain⟨i,_,rfl⟩:=d;rfl
  ·intro j c d;have hj:j<20:=by have:=(aB.1 d).1;simpa[AV.cells]using this
   refine⟨trivial,?_⟩;have:=E j hj;simp only[World.cell?,l,bu];simpa using this
  intro j c d;have hj:j<20:=by have:=(aB.1 d).1;simpa[AV.cells]using this
  simp only[AV.cells,cK,eo hj,cT,aA]at d;subst d;exact .int _ _
 cases f
end Go.VZ
