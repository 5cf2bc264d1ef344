/- A part of the proof. -/
import Derived.Test.YtclakfnjdnibeaaGreatDoorSh
set_option maxHeartbeats 16000000
set_option maxRecDepth 16000
namespace Go.VZ
open Go Go.V Go.Proofs Tryz TL
def pN(n:Nd):AV:=.agg [bF n.dem,binds n.bind,.isl (bU (jr n.kids)) .unk]
def gg(l:List Nd):AV:=.isl (l.map pN) .unk
noncomputable def fD(l:List Dm) (F:Nat):List Nd × Int:=
 if bp l≠0 then([],bp l)else if F<1\/20000<F then([],7)else if(fF F F [] [] l [] []).err≠0 then([],(fF F F [] [] l [] []).err)else((fF F F [] [] l [] []).ns,0)
def H5(r:List Nd × Int):AV:=.tuple [.agg [gg r.1],.int .i64 r.2]
theorem wv:∀l:List (Nd × Ext),pP (iv l)=some (iv (l.map λn=>(n.1,.unk)))
 |[]=>rfl
 |a::l=>by have:=wv l;simp only[iv,cD,aS,ndC,cP,bz]at this ⊢;simp only[pP,Fg,this,bF,binds]
theorem wy:∀l:List (Nd × Ext),ja 3 l.length (iv (l.map λn=>(n.1,.unk)))=(l.map Prod.fst).map pN
 |[]=>rfl
 |a::l=>by have:=wy l;simp only[iv,cD,aS,ndC,cP,bz,aF]at this ⊢;simp only[ja,ic,li,gQ,eX,this,pN]
theorem Ef{h:H}{v:AV}{ns:List Nd}(r:RowN h v ns) (hl:ns.length<=100000) (e:Int):gE (bi h) dH (.tuple [.agg [v],.int .i64 e])=some (H5 (ns,e)):=by
 rcases r with⟨rfl,rfl⟩|⟨id,l,rfl,rfl,b⟩
 ·exact cw rfl rfl s_
 rw[aU]at hl;have d:=mV l;have a:=mV (l.map λn=>(n.1,.unk));rw[aU]at a;obtain⟨m,c⟩:∃m,dH=m+6:=⟨999994,rfl⟩
 have f:m=999994:=by unfold dH at c;omega
 have⟨g,_⟩:=jQ (h:=bi h) (wv l) m o_;have i:(bi h)[id]?=some (.cells (iv l) .frozen):=oW h id b;rw[c];simp only[gE,gW,i,g,aU];rw[if_pos o_,eX,wy];rfl
theorem U9(F:Int) (b:Bool):fZ C.P 70 [(0,.int .i64 F),(1,.bool b)]=some (.agg [.int .i64 F,.bool b,.isl [] .full,.isl [] .full]):=k_
theorem U7(F:Int) (b:Bool) (h:H):mX C.P h 70 (.agg [.int .i64 F,.bool b,.isl [] .full,.isl [] .full])=some (.ptr h.length 0,h++[.cells [.int .i64 F,.bool b,.isl [] .full,.isl [] .full] .live]):=by simp[mX,aa,s70,bV]
theorem QY(l:List Dm) (F:Nat) (h0:H) (x:Ext) (hs:∀d∈l,lS d) (hl:l.length<4000000) :
  ∃r h',az C h0 (.func 30 []) (some [.isl (l.map cz) x,.int .i64 F,.bool false])=some (r,h')/\(h0.length<=h'.length/\∀i,i<h0.length->h'[i]?=h0[i]?) /\
   (((fD l F).2≠0/\∃v,r=.tuple [v,.int .i64 (fD l F).2])\/((fD l F).2=0/\∃(w:Nat) (vn vf:AV) (fs:List Fm),r=.tuple [.ptr w 0,.int .i64 0]/\WK h' w F vn vf (fD l F).1 fs)):=by
 suffices hh:∃r h',Go.V.Call C 30 [.isl (l.map cz) x,.int .i64 F,.bool false] h0=some (r,h')/\(h0.length<=h'.length/\∀i,i<h0.length->h'[i]?=h0[i]?)/\(((fD l F).2≠0/\∃v,r=.tuple [v,.int .i64 (fD l F).2])\/((fD l F).2=0/\∃(w:Nat) (vn vf:AV) (fs:List Fm),r=.tuple [.ptr w 0,.int .i64 0]/\WK h' w F vn vf (fD l F).1 fs)) by
  have⟨r,h',a,q⟩:=hh;exact⟨r,h',by rw[jx k_ rfl];exact a,q⟩
 refine oC rfl func30 rfl k_ (by simp[f30]) λR y=>?_
 have m:∀(n:PT) (h:H) (e:Int) (v:AV),n.get 6=v->n.get 7=.int .i64 e->(fD l F).2=e->e≠0->bV v=true->(h0.length<=h.length/\∀i,i<h0.length->h[i]?=h0[i]?)->R .ret n h:=λn h e v B D E s O G=>y _ _ _ (.inr rfl) ⟨.tuple [v,.int .i64 e],by
  subst B;simp[ag,df,cG,f30,D],G,.inl (by rw[E];exact⟨s,v,rfl⟩)⟩
 have o:=sR l x hs hl;by_cases q:bp l=0
 ·by_cases k:F<1\/20000<F
  ·have f:fD l F=([],7):=by rw[fD,if_neg (by simp[q]),if_pos k]
   rcases k with k|k
   ·have c:(F:Int)<1:=o_;simp +contextual [go_sem,o,q,c];exact m _ _ 7 .nilptr g_ g_ (by rw[f]) o_ rfl ⟨aT _,λ_ _=>rfl⟩
   have c:¬(F:Int)<1:=o_;have j:(20000:Int)<F:=o_;simp +contextual [go_sem,o,q,c,j];exact m _ _ 7 .nilptr g_ g_ (by rw[f]) o_ rfl ⟨aT _,λ_ _=>rfl⟩
  have c:¬(F:Int)<1:=o_;have j:¬(20000:Int)<F:=o_;have u:WK (h0++[.cells [.int .i64 F,.bool false,.isl [] .full,.isl [] .full] .live]) h0.length F (.isl [] .full) (.isl [] .full) [] []:=⟨s_,.inl ⟨rfl,rfl⟩,.inl rfl⟩
  obtain⟨r,h',z,rfl,vn,vf,I,A⟩:=RC F o_ F [] [] l [] [] _ _ _ _ x .full .full u ⟨q,λb J=>(by cases J),s_⟩ s_ s_ s_ (λt K=>by cases K);simp only[au,bU]at z;generalize L:fF F F [] [] l [] []=N at *;have f:fD l F=if N.err≠0 then([],N.err)else(N.ns,0):=by rw[fD,if_neg (by simp[q]),if_neg k,L]
  simp +contextual [go_sem,o,q,c,j,U9,U7,z];have g:h0.length<=h'.length/\∀i,i<h0.length->h'[i]?=h0[i]?:=by have:=A.len;refine⟨by simp at this;omega,λi M=>?_⟩;rw[A.old i (by simp;omega) o_ (by simp[bj]) (by simp[bj]),aM M]
  by_cases p:N.err=0
  ·rw[if_neg (by simp[p])]at f;exact y _ _ _ (.inr rfl) ⟨.tuple [.ptr h0.length 0,.int .i64 0],by simp[ag,df,cG,f30,go_sem,p],g,.inr ⟨by rw[f],h0.length,vn,vf,N.fs,rfl,by rw[f];exact I⟩⟩
  rw[if_pos p]at f;exact m _ _ N.err (.ptr h0.length 0) g_ g_ (by rw[f]) p rfl g
 have f:fD l F=([],bp l):=by rw[fD,if_pos q]
 simp[go_sem,o,q];exact m _ _ (bp l) .nilptr g_ g_ (by rw[f]) q rfl ⟨aT _,λ_ _=>rfl⟩
theorem s31:cS C.P 31=some 1:=k_
theorem a31:eW C.P 31=some true:=k_
theorem M3:gy C.P 31=some (.agg [.isl [] .full]):=k_
theorem PX:fZ C.P 31 []=some (.agg [.isl [] .full]):=k_
theorem PW(id n:Nat):fZ C.P 31 [(0,.msl id 0 3 n none)]=some (.agg [.msl id 0 3 n none]):=k_
theorem PV:fZ C.P 31 [(0,.isl [] .full)]=some (.agg [.isl [] .full]):=k_
theorem VC{h:H}{v:AV}{ns:List Nd}(r:RowN h v ns):fZ C.P 31 [(0,v)]=some (.agg [v]):=by
 rcases r with⟨rfl,rfl⟩|⟨id,l,rfl,rfl,a⟩
 ·exact PV
 exact PW _ _
theorem Gt{F:Nat}{f:List Nd->List Fm->List Dm->Lb->List Int->NR}(hf:∀ns fs d s p,ns.length<=F->(f ns fs d s p).ns.length<=F) (s:Lb) (p:List Int):∀(l:List Al) (j:Nat) (ns:List Nd) (fs:List Fm) (ks:List Nat),ns.length<=F->(gi f s p j l ns fs ks).ns.length<=F
 |[],_,_,_,_,h=>h
 |a::l,j,ns,fs,ks,h=>by
  rw[gi];split
  ·exact hf _ _ _ _ _ h
  exact Gt hf s p l _ _ _ _ (hf _ _ _ _ _ h)
theorem Gg(F:Nat):∀(g:Nat) (ns:List Nd) (fs:List Fm) (d:List Dm) (s:Lb) (p:List Int),ns.length<=F->(fF F g ns fs d s p).ns.length<=F
 |0,ns,fs,_,_,_,h=>h
 |g+1,ns,fs,d,s,p,h=>by
  rw[fF];split
  ·exact h
  rename_i q;have h1:(ns++[(⟨d,s,[]⟩:Nd)]).length<=F:=by rw[aK];simp only[aF,aP];omega
  have a:=Gt (Gg F g) s p (cn d).1 0 (ns++[⟨d,s,[]⟩]) fs [] h1;split
  ·exact h1
  split
  ·exact h1
  split
  ·exact h1
  split
  ·exact a
  rw[rm];exact a
theorem J3{l:List Dm}{F:Nat}(h:(fD l F).2≠0):fD l F=([],(fD l F).2):=by
 unfold fD at h ⊢;split
 ·rfl
 rename_i q;rw[if_neg q]at h;split
 ·rfl
 rename_i a;rw[if_neg a]at h;split
 ·rfl
 rename_i b;rw[if_neg b]at h;exact absurd rfl h
theorem ND(l:List Dm) (F:Nat):(fD l F).1.length<=20000:=by
 unfold fD;split
 ·simp
 split
 ·simp
 rename_i q;split
 ·simp
 have:=Gg F F [] [] l [] [] s_;dsimp only;omega
theorem Tq(l:List Dm) (F:Nat) (hs:∀d∈l,lS d) (hl:l.length<4000000):ay C 9 [bF l,.int .i64 F]=some (H5 (fD l F)):=by
 refine bD func9 rfl λR q=>?_
 have⟨r,s,t,⟨u,n⟩,x⟩:=QY l F [.cells [.isl [] .full] .live] .unk hs hl;have b:∀(v:AV) (h:H) (i:Nat) (a:AV),stM C.P 31 (.agg [v]) 0 h i (some (.cells [a] .live))=some (pt h i (.cells [v] .live)):=λv h i a=>rh s31 h i _ _ rfl rfl
 have c:∀(v:AV),ldM C.P 31 0 (some (.cells [v] .live))=some (.agg [v]):=λv=>by simp[ldM,ae,a31,s31]
 have B:=ND l F;have m:s[0]?=some (.cells [.isl [] .full] .live):=n 0 s_;have f:=(aB.1 m).1;rcases x with⟨z,v,rfl⟩|⟨z,w,g,D,E,rfl,j⟩
 ·simp[go_sem,bF,M3,aa,t,z,PX,G m,b];refine q ⟨.tuple [.agg [.isl [] .full],.int .i64 (fD l F).2],by simp[ag,df,cG,f9,go_sem,f,c],by rw[J3 z];exact cw rfl rfl s_⟩
 have y:=VC j.nodes;have o:bV g=true:=by rcases j.nodes with⟨_,rfl⟩|⟨_,_,_,rfl,_⟩<;>rfl
 simp[go_sem,bF,M3,aa,t,G m,G j.cell,y,o,b];refine q ⟨.tuple [.agg [g],.int .i64 0],by simp[ag,df,cG,f9,go_sem,f,c],?_⟩;have p:bj g≠some 0:=λe=>by
  rcases j.nodes with⟨_,rfl⟩|⟨id,I,J,rfl,k⟩
  ·cases e
  simp only[bj,aA]at e;subst e;rw[m]at k;have:=congrArg List.length (VObj.cells.inj (Option.some.inj k)).1;rw[mV]at this;simp at this;omega
 have A:RowN (pt s 0 (.cells [g] .live)) g (fD l F).1:=j.nodes.keep (Keep.set _ _ _) (.inr p);have:=Ef A o_ 0;rw[this,show((fD l F).1,(0:Int))=fD l F from by rw[<-z]]
theorem MC(l:List Dm) (F:Nat) (x:Ext) (hs:∀d∈l,lS d) (hl:l.length<4000000) (h:H):az C h (.func 9 []) (some [.isl (l.map cz) x,.int .i64 F])=some (H5 (fD l F),h):=ah (args':=[bF l,.int .i64 F]) rfl rfl s_ (Tq l F hs hl)
theorem MO(t:T) (hc:∀k∈t.kids,∀n:Int,n<4000000->ay C 62 [enc k,.int .i64 n]=some (.int .i64 (iV k n))) (n:Int) (hn:n<4000000):ay C 62 [enc t,.int .i64 n]=some (.int .i64 (iV t n)):=by
 refine bD func62 rfl λR hR=>?_
 simp +contextual [go_sem,aQ,sC,mr];refine Ife_iff.2 ⟨λh1=>?_,λh1=>?_⟩
 ·simp[go_sem];refine hR ⟨_,rfl,?_⟩;have:iV t n = -1:=by rw[wU,if_pos h1]
  simp[go_sem,this];exact aL rfl rfl
 have hb:iV t n=fm t.kids (n-1):=by rw[wU,if_neg h1]
 have w1:IntKind.i64.wrap (n-1)=n-1:=av o_;simp +contextual [go_sem,w1];refine bR (YQ t n) t.kids.length ⟨0,n-1,rfl,aO _,rfl,g_,g_,g_,o_,o_,hb.symm⟩ ?_;rintro m s h ⟨k,c,rfl,hk,rfl,g2,g1,g5,hc0,hcn,hd⟩;by_cases hlt:k<t.kids.length
 ·have hlt':(k:Int)<t.kids.length:=o_;have hix:=lE t.kids k hlt .unk;have ck:∀h,az C h (.func 62 []) (some [enc t.kids[k],.int .i64 c])=some (.int .i64 (iV t.kids[k] c),h):=λh=>ah (zD _ _) (by simp[aw,mP]) s_ (hc _ (aG hlt) c o_)
  have hbl:=uL t.kids[k] c;have w2:=wS k o_;have hsz:=size_kids t.kids[k];rw[aH hlt,fm]at hd;by_cases h2:iV t.kids[k] c<0
  ·rw[if_pos h2]at hd;simp[go_sem,tc,jG,dq,g1,g2,g5,hlt',hix,iT,ck,h2];refine hR ⟨_,rfl,?_⟩;simp[go_sem,<-hd];exact aL rfl rfl
  ·rw[if_neg h2]at hd
   have:=hbl.2 (by omega)
   simp[go_sem,tc,jG,dq,g1,g2,g5,hlt',hix,iT,ck,h2,-Int.natCast_add,w2]
   exact⟨t.kids.length-(k+1),by omega,k+1,_,rfl,hlt,rfl,by simp[go_sem,g2],by simp[go_sem],by simp[go_sem],by omega,by omega,hd⟩
 have:k=t.kids.length:=o_;subst this;rw[aj,fm]at hd;simp[go_sem,tc,jG,dq,g1,g2,g5];refine hR ⟨_,rfl,?_⟩;simp[go_sem,<-hd];exact aL rfl rfl
theorem CQ(t:T):∀n:Int,n<4000000->ay C 62 [enc t,.int .i64 n]=some (.int .i64 (iV t n)):=by
 induction t using T.ind with
 |_ t a=>exact MO t a
theorem Oy(t:T) (n:Int) (hn:n<4000000) (h:H):az C h (.func 62 []) (some [enc t,.int .i64 n])=some (.int .i64 (iV t n),h):=ah (zD _ _) (by simp[aw,mP]) s_ (CQ t n hn)
theorem Uq(l:Lq) (c n:Int) (hn:n<4000000) (hn0:0<=n):ay C 27 [aQ l,.int .i64 c,.int .i64 n]=some (.bool (xS l c n)):=by
 refine bD func27 rfl λR i=>?_
 simp +contextual [go_sem,aQ,dq];refine Ife_iff.2 ⟨λu=>?_,λu=>?_⟩
 ·simp[go_sem];refine i ⟨_,rfl,?_⟩;have:xS l c n=false:=by simp[xS];omega
  simp[go_sem,this];exact aL rfl rfl
 have q:xS l c n=decide (0<=fm l n):=by simp[xS,show(l.length:Int)<=c by omega]
 simp +contextual [go_sem];refine bR (NI9 l n) l.length ⟨0,n,rfl,aO _,rfl,by simp[go_sem,aQ],g_,g_,o_,o_,rfl⟩ ?_;rintro m s h ⟨k,c,rfl,y,rfl,e,r,j,o,v,b⟩;simp only[aQ]at e;by_cases d:k<l.length
 ·have a:(k:Int)<l.length:=o_;have f:=lE l k d .unk;have t:=Oy l[k] c o_;have p:=uL l[k] c;have w:=wS k o_;have x:=size_kids l[k];rw[aH d,fm]at b;by_cases g:iV l[k] c<0
  ·rw[if_pos g]at b;simp[go_sem,dq,e,r,j,a,f,iT,t,g];refine i ⟨_,rfl,?_⟩;simp[go_sem,q,<-b];exact aL rfl rfl
  rw[if_neg g]at b;have:=p.2 o_;simp[go_sem,dq,e,r,j,a,f,iT,t,g,-Int.natCast_add,w];exact⟨l.length-(k+1),o_,k+1,_,rfl,d,rfl,by simp[go_sem,e,aQ],g_,g_,o_,o_,b⟩
 have:k=l.length:=o_;subst this;rw[aj,fm]at b;simp[go_sem,dq,e,j];refine i ⟨_,rfl,?_⟩;simp[go_sem,q,<-b,o];exact aL rfl rfl
theorem Ox(l:Lq) (c n:Int) (hn:n<4000000) (hn0:0<=n) (h:H):az C h (.func 27 []) (some [aQ l,.int .i64 c,.int .i64 n])=some (.bool (xS l c n),h):=ah (Oj _ _ _) (by simp[Co,mP]) s_ (Uq l c n hn hn0)
theorem Ej{l0:List Dm}{ns:List Nd}{i:Nat}{ks:List Nat}(h:∀n∈ns,NdOk l0 n):∀n∈kY ns i ks,NdOk l0 n:=λn d=>by
 have⟨j,b⟩:=dR.1 d;rw[kY,nI]at b;cases e:ns[j]? with
 |none=>rw[e]at b;cases b
 |some a=>
  rw[e]at b;have c:=h a (aW e);simp only[Option.map_eq_map,bf,aA]at b;subst b;split
  ·exact⟨c.good,c.len,c.val⟩
  exact c
theorem Gs{l0:List Dm}{f:List Nd->List Fm->List Dm->Lb->List Int->NR}(hf:∀ns fs d s p,(∀n∈ns,NdOk l0 n)->NdOk l0 ⟨d,s,[]⟩->∀n∈(f ns fs d s p).ns,NdOk l0 n) (s:Lb) (p:List Int) :
  ∀(l:List Al) (j:Nat) (ns:List Nd) (fs:List Fm) (ks:List Nat),(∀a∈l,NdOk l0 ⟨a.dem,(eG s a.bind).1,[]⟩)->(∀n∈ns,NdOk l0 n)->∀n∈(gi f s p j l ns fs ks).ns,NdOk l0 n
 |[],_,_,_,_,_,h=>h
 |a::l,j,ns,fs,ks,ha,h=>by
  have h1:=hf ns fs a.dem (eG s a.bind).1 (p++[(j:Int)]) h (ha a s_);rw[gi];split
  ·exact h1
  exact Gs hf s p l _ _ _ _ (λb c=>ha b (by simp[c])) h1
theorem Gf{l0:List Dm}(F:Nat):∀(g:Nat) (ns:List Nd) (fs:List Fm) (d:List Dm) (s:Lb) (p:List Int),(∀n∈ns,NdOk l0 n)->NdOk l0 ⟨d,s,[]⟩->∀n∈(fF F g ns fs d s p).ns,NdOk l0 n
 |0,ns,fs,_,_,_,h,_=>h
 |g+1,ns,fs,d,s,p,h,hd=>by
  have h1:∀n∈ns++[(⟨d,s,[]⟩:Nd)],NdOk l0 n:=λn b=>by
   rcases aZ.1 b with b|b
   ·exact h n b
   rw[bL.1 b];exact hd
  rw[fF];split
  ·exact h
  split
  ·exact h1
  split
  ·exact h1
  rename_i i;split
  ·exact h1
  rename_i j;have c:=Gs (Gf F g) s p (cn d).1 0 (ns++[⟨d,s,[]⟩]) fs [] (λa e=>by have f:=qx (by simpa using j) a e;have:=Aq (k:=[]) hd (yF (by simpa using i) a e) f;rw[(qM f).1];exact this) h1
  split
  ·exact c
  exact Ej c
theorem NC{l:List Dm}{F:Nat}(_h:(fD l F).2=0):∀n∈(fD l F).1,NdOk l n:=by
 unfold fD;split
 ·simp
 rename_i q;split
 ·simp
 split
 ·simp
 exact Gf F F [] [] l [] [] s_ (Ar (by simpa using q))
def yu(l:List Dm):Bool:=decide (l.length<=5)&&l.all (λd=>decide (d.knows.length<=20))&&xS (bE l) 110 1000&&decide ((ft (bE l)).length<=30)
def YJ(l:List Dm) (m:Nat) (st:PT) (h:H):Prop:=∃k:Nat,m=l.length-k/\k<=l.length/\h=[]/\st.get 0=bF l/\st.get 5=.int .i64 k/\((l.drop k).all λd=>decide (d.knows.length<=20))=l.all λd=>decide (d.knows.length<=20)
theorem Xp(l:List Dm):ay C 7 [bF l,.int .i64 40]=some (.bool (yu l)):=by
 refine bD func7 rfl λR w=>?_
 have fin:∀(p:PT) (h:H) (b:Bool),p.get 4=.bool b->yu l=b->R .ret p h:=λp h b x g=>w ⟨.bool b,by simp[ag,cG,f7,x],by rw[g];exact aL rfl rfl⟩
 have a:=qo l;simp only[bF]at a;by_cases q:l.length<=5
 ·have s:¬(5:Int)<l.length:=o_;simp +contextual [go_sem,bF,a,s];refine bR (YJ l) l.length ⟨0,rfl,aO _,rfl,by simp[go_sem,bF],g_,rfl⟩ ?_;rintro m p h ⟨k,rfl,A,rfl,i,r,c⟩;simp only[bF]at i;by_cases f:k<l.length
  ·have e:(k:Int)<l.length:=o_;have j:=A5 l k f .unk;have y:=wS k o_;rw[aH f,dp]at c;by_cases z:l[k].knows.length<=20
   ·have t:¬(20:Int)<l[k].knows.length:=o_;simp[go_sem,i,r,a,e,j,t,-Int.natCast_add,y];exact⟨l.length-(k+1),o_,k+1,rfl,f,rfl,by simp[go_sem,i,bF],g_,by rw[<-c];simp[z]⟩
   have t:(20:Int)<l[k].knows.length:=o_;simp[go_sem,i,r,a,e,j,t];exact fin _ _ false g_ (by rw[yu,<-c,decide_eq_false z];simp)
  have:k=l.length:=o_;subst this;rw[aj]at c;have n:∀d∈l,d.knows.length<=20:=by simpa using c.symm
  have g:yu l=(xS (bE l) 110 1000&&decide ((ft (bE l)).length<=30)):=by rw[yu,<-c,decide_eq_true q];simp
  have u:=qN l .unk (λd c=>by have:=n d c;omega) o_;have o:=Ox (bE l) 110 1000 o_ o_;simp only[aQ]at u o;cases z:xS (bE l) 110 1000 with
  |false=>rw[z]at g o;simp +contextual [go_sem,i,r,a,u,o];exact fin _ _ false g_ (by rw[g];simp)
  |true=>
   have v:sizes (bE l)<4000000:=by simp only[xS,aq,decide_eq_true_eq]at z;have:=(pQ (bE l) 1000 o_).2 z.2;have:=(pQ (bE l) 1000 o_).1;omega
   have c3:=zO (bE l) .unk v;simp only[aQ]at c3;rw[z]at g o;simp +contextual [go_sem,i,r,a,u,o,c3];exact fin _ _ (decide (((ft (bE l)).length:Int)<=30)) g_ (by rw[g,jc];congr 1;apply propext;omega)
 have s:(5:Int)<l.length:=o_;simp +contextual [go_sem,bF,a,s];exact fin _ _ false g_ (by rw[yu,decide_eq_false q];simp)
theorem MI(l:List Dm) (x:Ext) (h:H):az C h (.func 7 []) (some [.isl (l.map cz) x,.int .i64 40])=some (.bool (yu l),h):=ah (args':=[bF l,.int .i64 40]) rfl rfl s_ (Xp l)
theorem I2{l:List Dm}(h:yu l=true):l.length<=5/\∀d∈l,lS d:=by
 simp only[yu,xS,aq,decide_eq_true_eq,bM]at h;have⟨⟨⟨e,f⟩,i,g⟩,j⟩:=h;have k:=(pQ (bE l) 1000 o_).2 g;have c:∀t∈bE l,t.size<4000000:=λt a=>by have:=mR a;omega
 exact⟨e,λd b=>⟨λt a=>c t (qH b t a),c _ (lO b),by have:=f d b;omega⟩⟩
def xQ(b:Bool):Nat->List Bool->Int
 |_,[]=>-1
 |k,a::l=>if a=b then k else xQ b (k+1) l
theorem DP(b:Bool):∀(l:List Bool) (k:Nat),decide (0<=xQ b k l)=l.contains b
 |[],k=>by simp[xQ]
 |a::l,k=>by
  rw[xQ,og];by_cases h:a=b
  ·rw[if_pos h];simp[h]
  rw[if_neg h,DP b l (k+1)];have:(b==a)=false:=by simpa using λe=>h e.symm
  rw[this,ml]
theorem Ut(x y:Operand) (a b:Bool):jC C.P .eql 4 x y (.bool a) (.bool b)=some (.bool (decide (a=b))):=by
 have e:∀a b:Bool,jC C.P .eql 4 x y (.bool a) (.bool b)=some (.bool (decide (a=b))):=λa b=>by cases a<;>cases b<;>kernel_rfl
 exact e a b
theorem Nr(l:List Bool) (x:Ext):fW C.P 115 (.isl (dE l) x)=some (.int .i64 l.length):=by simp[fW,Hg,dE]
theorem UO(b:Bool) (h:H):aX C.P h 4 (.iptr (.bool b) 0)=some (.bool b):=by have:(AV.bool b).cells=[.bool b]:=rfl;simp[aX,ae,a4,s4,this]
def YG(l:List Bool) (b:Bool) (m:Nat) (st:PT) (h:H):Prop:=∃k:Nat,m=l.length-k/\k<=l.length/\h=[]/\st.get 0=.isl (dE l) .unk/\st.get 1=.bool b/\st.get 7=.int .i64 l.length/\st.get 8=.int .i64 k/\xQ b k (l.drop k)=xQ b 0 l
theorem LF(l:List Bool) (b:Bool) (hl:l.length<4000000):ay C 117 [.isl (dE l) .unk,.bool b]=some (.int .i64 (xQ b 0 l)):=by
 refine gu rfl func117 rfl k_ (by simp[f117]) λR q=>?_
 have fin:∀(e:Ex) (i:PT) (h:H) (c:Int),e=.normal\/e=.ret->i.get 4=.int .i64 c->xQ b 0 l=c->R e i h:=λe i h c a r s=>q _ _ _ a ⟨.int .i64 c,by simp[ag,cG,f117,r],by rw[s];exact aL rfl rfl⟩
 have t:=Nr l .unk;simp[go_sem,t];refine bR (YG l b) l.length ⟨0,rfl,aO _,rfl,g_,g_,g_,g_,rfl⟩ ?_;rintro m i h ⟨k,rfl,x,rfl,o,p,j,n,a⟩;by_cases f:k<l.length
 ·have d:(k:Int)<l.length:=o_;have g:=LN l .unk k f;have u:=wS k o_;rw[aH f,xQ]at a;generalize y:l[k]=v at *;by_cases z:v=b
  ·subst z;rw[if_pos rfl]at a;simp[go_sem,o,p,j,n,d,g,UO,Ut];exact fin _ _ _ k (.inr rfl) g_ a.symm
  rw[if_neg z]at a;have w:¬b=v:=λe=>z e.symm
  simp[go_sem,o,p,j,n,d,g,UO,Ut,w,-Int.natCast_add,u];exact⟨l.length-(k+1),o_,k+1,rfl,f,rfl,g_,g_,g_,g_,a⟩
 have:k=l.length:=o_;subst this;rw[aj,xQ]at a;simp[go_sem,j,n];exact fin _ _ _ (-1) (.inr rfl) g_ a.symm
theorem Fh(l:List Bool) (b:Bool) (hl:l.length<4000000):ay C 80 [.isl (dE l) .unk,.bool b]=some (.bool (l.contains b)):=by
 refine bD func80 rfl λR a=>?_
 have c:∀h,az C h (.func 117 []) (some [.isl (dE l) .unk,.bool b])=some (.int .i64 (xQ b 0 l),h):=λh=>ah (args':=[.isl (dE l) .unk,.bool b]) rfl rfl s_ (LF l b hl)
 have e:=DP b l 0;simp[go_sem,c];exact a ⟨.bool (decide (0<=xQ b 0 l)),by simp[ag,cG,f80,go_sem],by rw[e];exact aL rfl rfl⟩
def rN(n i:Nat):List Bool->List Nat->Option (List Bool)
 |m,[]=>some m
 |m,k::ks=>if k<=i\/n<=k\/m.getD k false=true then none else rN n i (m.set k true) ks
def oU(n:Nat):Nat->List Bool->List Nd->Option (List Bool)
 |_,m,[]=>some m
 |i,m,a::l=>match rN n i m a.kids with
  |none=>none
  |some m'=>oU n (i+1) m' l
def nu(ns:List Nd):Bool:=decide (0<ns.length)&&decide (ns.length<=20000)&&match oU ns.length 0 (List.replicate ns.length false) ns with
 |none=>false
 |some m=>!(m.drop 1).contains false
theorem Av{n i:Nat}:∀ {ks:List Nat}{m m':List Bool},rN n i m ks=some m'->m'.length=m.length
 |[],m,m',h=>by rw[rN]at h;cases h;rfl
 |k::ks,m,m',h=>by
  rw[rN]at h;split at h
  ·cases h
  rw[Av h];simp
theorem wu(n:Nd):(pN n).cells=[bF n.dem,binds n.bind,.isl (bU (jr n.kids)) .unk]:=rfl
theorem Kv(ns:List Nd) (x:Ext):fW C.P 29 (.isl (ns.map pN) x)=some (.int .i64 ns.length):=by simp[fW,u29]
theorem LJ(ns:List Nd) (k:Nat) (hk:k<ns.length) (x:Ext):bP C.P 29 (.isl (ns.map pN) x) (.int .i64 k)=some (.iptr (pN ns[k]) 0):=by simp[bP,u29,s63,hk,wu]
theorem UU(n:Nd) (h:H):aX C.P h 63 (.iptr (pN n) 0)=some (pN n):=by simp[aX,ae,a63,s63,wu];rfl
def nc(n:Nd):LA:=[bF n.dem,binds n.bind,.isl (bU (jr n.kids)) .unk]
theorem Ww:gy C.P 63=some (.agg [.isl [] .full,.isl [] .full,.isl [] .full]):=k_
theorem Ts(h:H) (i:Nat) (n:Nd) (a b c:AV):stM C.P 63 (pN n) 0 h i (some (.cells [a,b,c] .live))=some (pt h i (.cells (nc n) .live)):=rh s63 h i _ _ rfl rfl
theorem E7(n:Nd):ldM C.P 22 0 (some (.cells (nc n) .live))=some (bF n.dem):=by simp[ldM,ae,a22,s22,nc]
theorem K0(n:Nd):ldM C.P 45 1 (some (.cells (nc n) .live))=some (binds n.bind):=by simp[ldM,ae,a45,s45,nc]
theorem Re(n:Nd):ldM C.P 53 2 (some (.cells (nc n) .live))=some (.isl (bU (jr n.kids)) .unk):=by simp[ldM,ae,a53,s53,nc]
theorem R7(i:Nat):bH C.P 63 (.ptr i 0) 0=some (.ptr i 0):=k_
theorem R6(i:Nat):bH C.P 63 (.ptr i 0) 1=some (.ptr i 1):=k_
theorem R5(i:Nat):bH C.P 63 (.ptr i 0) 2=some (.ptr i 2):=k_
theorem SC(i:Nat):bH C.P 31 (.ptr i 0) 0=some (.ptr i 0):=k_
theorem uF(v:AV):ldM C.P 29 0 (some (.cells [v] .live))=some v:=by simp[ldM,ae,a29,s29]
theorem D4(v:AV) (h:H):mX C.P h 31 (.agg [v])=some (.ptr h.length 0,h++[.cells [v] .live]):=by simp[mX,aa,s31,bV]
theorem RQ(l:List Int) (x:Ext):fW C.P 53 (.isl (bU l) x)=some (.int .i64 l.length):=by simp[fW,u53,bU]
theorem LI(l:List Int) (k:Nat) (hk:k<l.length) (x:Ext):bP C.P 53 (.isl (bU l) x) (.int .i64 k)=some (.iptr (.int .i64 l[k]) 0):=by have:(AV.int .i64 l[k]).cells.length=1:=rfl;simp[bP,u53,s3,bU,hk,this]
attribute [go_sem] R7 R6 R5 SC Ww Ts E7 K0 Re UU Kv RQ
theorem Hs{h:H}{id:Nat}{kn:List Bool}(hid:h[id]?=some (.cells (dE kn) .live)) (h0:0<kn.length) (hc:kn.length<900000) (b:Bool) (off:Nat) (ho:off=1\/(off=0/\kn.length=1)) (cap:Option Nat) :
  cZ h dH [.msl id off 1 (kn.length-1) cap,.bool b]=[id]/\gW (Go.V.freeze h [id]) dH [.msl id off 1 (kn.length-1) cap,.bool b]=some [.isl (dE (kn.drop 1)) .unk,.bool b]:=by
 obtain⟨m,a⟩:∃m,dH=m+5:=⟨999995,rfl⟩
 have c:m=999995:=by unfold dH at a;omega
 have d:(Go.V.freeze h [id])[id]?=some (.cells (dE kn) .frozen):=by rw[mw,hid];simp
 have e:(dE kn).length=kn.length:=by simp[dE]
 have⟨k,f⟩:=jQ (h:=h) (pO kn) (m+2) o_;have⟨g,l⟩:=jQ (h:=Go.V.freeze h [id]) (pO kn) (m+2) o_;rw[a];constructor
 ·simp only[cZ,ij,hid,f,cC]
 simp only[gW,gE,d,g];rw[if_pos o_];congr 3
 have i:(dE kn).drop 1=dE (kn.drop 1):=by simp[dE]
 rcases ho with rfl|⟨rfl,j⟩
 ·rw[i];have:=sN (kn.drop 1);rw[cy]at this;rw[this]
 rw[j,gR (show kn.length<=1 by omega)];rfl
theorem vP{h:H}{id:Nat}{kn:List Bool}(hid:h[id]?=some (.cells (dE kn) .live)) (h0:0<kn.length) (hc:kn.length<900000) (b:Bool) (off:Nat) (ho:off=1\/(off=0/\kn.length=1)) (cap:Option Nat) :
  az C h (.func 80 []) (some [.msl id off 1 (kn.length-1) cap,.bool b])=some (.bool ((kn.drop 1).contains b),h):=by
 have⟨a,c⟩:=Hs hid h0 hc b off ho cap;exact xC k_ rfl a c (Fh (kn.drop 1) b (by rw[cy];omega)) rfl
def Cb(n i:Nat) (mk:List Bool) (ks:List Nat) (l:List Nd):Option (List Bool):=match rN n i mk ks with
 |none=>none
 |some m'=>oU n (i+1) m' l
theorem J5(n i:Nat) (mk:List Bool) (l:List Nd):Cb n i mk [] l=oU n (i+1) mk l:=rfl
theorem xz{n i k:Nat}{mk:List Bool}{ks:List Nat}{l:List Nd}(h:k<=i\/n<=k\/mk.getD k false=true):Cb n i mk (k::ks) l=none:=by rw[Cb,rN,if_pos h]
theorem NE{n i k:Nat}{mk:List Bool}{ks:List Nat}{l:List Nd}(h:¬(k<=i\/n<=k\/mk.getD k false=true)):Cb n i mk (k::ks) l=Cb n i (mk.set k true) ks l:=by rw[Cb,rN,if_neg h];rfl
def YY(ns:List Nd) (m:Nat) (st:PT) (h:H):Prop:=∃(i id:Nat) (mk:List Bool),m=ns.length-i/\i<=ns.length/\st.get 1=.ptr 0 0/\st.get 3=.msl id 0 1 ns.length (some ns.length)/\st.get 23=.isl (ns.map pN) .unk/\st.get 24=.int .i64 ns.length/\st.get 25=.int .i64 i /\
 h[0]?=some (.cells [gg ns] .live)/\h[id]?=some (.cells (dE mk) .live)/\id≠0/\mk.length=ns.length/\oU ns.length i mk (ns.drop i)=oU ns.length 0 (List.replicate ns.length false) ns
def YT(ns:List Nd) (i id:Nat) (ks:List Nat) (m:Nat) (st:PT) (h:H):Prop:=∃(j:Nat) (mk:List Bool),m=ks.length-j/\j<=ks.length/\st.get 1=.ptr 0 0/\st.get 3=.msl id 0 1 ns.length (some ns.length)/\st.get 4=.int .i64 i/\st.get 23=.isl (ns.map pN) .unk/\st.get 24=.int .i64 ns.length/\st.get 25=.int .i64 i/\st.get 31=.isl (bU (jr ks)) .unk/\st.get 32=.int .i64 ks.length/\st.get 33=.int .i64 j /\
 h[0]?=some (.cells [gg ns] .live)/\h[id]?=some (.cells (dE mk) .live)/\id≠0/\mk.length=ns.length/\Cb ns.length i mk (ks.drop j) (ns.drop (i+1))=oU ns.length 0 (List.replicate ns.length false) ns
theorem lC(l:List Nat):(jr l).length=l.length:=by simp[jr]
theorem As(l:List Nat) (k:Nat) (hk:k<l.length):(jr l)[k]'(by rw[lC];exact hk)=(l[k]:Int):=by simp[jr]
theorem Ku(ns:List Nd) (hks:∀n∈ns,n.kids.length<4000000):ay C 43 [.agg [gg ns]]=some (.bool (nu ns)):=by
 refine bD func43 rfl λR hR=>?_
 have fin:∀(K:PT) (h:H) (b:Bool),K.get 2=.bool b->nu ns=b->R .ret K h:=λK h b h4 hb=>hR ⟨.bool b,by simp[ag,cG,f43,h4],by rw[hb];exact aL rfl rfl⟩
 by_cases O:0<ns.length
 ·have w:¬ns=[]:=λe=>by rw[e]at O;simp at O
  by_cases q1:ns.length<=20000
  ·have E:¬(20000:Int)<ns.length:=o_;have J:nu ns=match oU ns.length 0 (List.replicate ns.length false) ns with
    |none=>false
    |some m=>!(m.drop 1).contains false:=by rw[nu,decide_eq_true O,decide_eq_true q1];rfl
   have S:=λh=>P6 false h ns.length O o_
   simp +contextual [go_sem,gg,D4,uF,w,E,S];refine bR (YY ns) ns.length ⟨0,1,List.replicate ns.length false,rfl,aO _,g_,g_,g_,g_,g_,rfl,rfl,o_,s_,rfl⟩ ?_;rintro m K h ⟨i,id,q,rfl,hi,F,B,I,r,p,D,c,f,l,d⟩;by_cases x:i<ns.length
   ·have L:(i:Int)<ns.length:=o_;have U:=LJ ns i x .unk;have w2:=wS i o_;have q':=hks _ (aG x);rw[aH x,oU]at d;have d:Cb ns.length i q ns[i].kids (ns.drop (i+1))=oU ns.length 0 (List.replicate ns.length false) ns:=d;have s:=(aB.1 c).1;generalize hn:ns[i]=a at *;simp[go_sem,I,r,p,L,U,aa,lC];refine bR (YT ns i id a.kids) a.kids.length ⟨0,q,rfl,aO _,g_,g_,g_,g_,g_,g_,g_,g_,g_,ga D,ga c,f,l,d⟩ ?_;clear F B I r p D c d l;clear s;rintro m2 K h ⟨j,q,rfl,hj,F,B,Q,I,r,p,y,t,u,D,c,f,l,d⟩;have s:=(aB.1 c).1;by_cases z:j<a.kids.length
    ·have o:(j:Int)<a.kids.length:=o_;have g:=LI (jr a.kids) j (by rw[lC];exact z) .unk;rw[As _ _ z]at g;have w3:=wS j o_;rw[aH z]at d;generalize hk:a.kids[j]=k at *;by_cases z1:k<=i
     ·have v:(k:Int)<=i:=o_;rw[xz (.inl z1)]at d;simp +contextual [go_sem,F,B,Q,y,t,u,o,g,v];exact fin _ _ false g_ (by rw[J,<-d])
     have v:¬(k:Int)<=i:=o_;by_cases z2:ns.length<=k
     ·have A:(ns.length:Int)<=k:=o_;rw[xz (.inr (.inl z2))]at d;simp +contextual [go_sem,F,B,Q,y,t,u,o,g,v,A,G D,uF,gg];exact fin _ _ false g_ (by rw[J,<-d])
     have A:¬(ns.length:Int)<=k:=o_;have V:k<ns.length:=o_;have hx:=sv (id:=id) (cap:=some ns.length) V;have M:=A2 (kn:=q) (k:=k) o_;have N:q.getD k false=q[k]' o_:=by rw[bK,aC o_];rfl
     have X:=GW (kn:=q) (k:=k) true h id o_;generalize hb:q[k]' o_=b at *;cases b with
     |true=>rw[xz (.inr (.inr N))]at d;simp +contextual [go_sem,F,B,Q,y,t,u,o,g,v,A,G D,uF,gg,hx,G c,M];exact fin _ _ false g_ (by rw[J,<-d])
     |false=>
      rw[NE (by rw[N];simp;omega)]at d;simp +contextual [go_sem,F,B,Q,y,t,u,o,g,v,A,G D,uF,gg,hx,G c,M,X,-Int.natCast_add,w3];refine⟨a.kids.length-(j+1),o_,j+1,q.set k true,rfl,z,g_,g_,g_,g_,g_,g_,g_,g_,g_,?_,?_,f,by simpa using l,d⟩
      ·rw[pt,aE f];exact D
      rw[pt,aJ s]
    have:j=a.kids.length:=o_;subst this;rw[aj,J5]at d;simp[go_sem,p,t,u,-Int.natCast_add,w2];exact⟨ns.length-(i+1),o_,i+1,id,q,rfl,x,g_,g_,g_,g_,g_,D,c,f,l,d⟩
   have:i=ns.length:=o_;subst this;rw[aj,oU]at d;rw[<-d]at J;by_cases q2:ns.length=1
   ·have Y:=vP c o_ o_ false 0 (.inr ⟨rfl,o_⟩) (some (ns.length-1));have Z:iO C.P 115 (.msl id 0 1 ns.length (some ns.length)) (some (.int .i64 1)) none none=some (.msl id 0 1 (q.length-1) (some (ns.length-1))):=by simp[iO,Hg,s4,nM,sS,l,q2]
    simp[go_sem,B,r,p,Z,Y];exact fin _ _ _ g_ J
   have Y:=vP c o_ o_ false 1 (.inl rfl) (some (ns.length-1));have Z:iO C.P 115 (.msl id 0 1 ns.length (some ns.length)) (some (.int .i64 1)) none none=some (.msl id 1 1 (q.length-1) (some (ns.length-1))):=by have h1:(1:Int)<=ns.length:=o_;simp[iO,Hg,s4,nM,sS,l,q2,h1]
   simp[go_sem,B,r,p,Z,Y];exact fin _ _ _ g_ J
  have E:(20000:Int)<ns.length:=o_;simp +contextual [go_sem,gg,D4,uF,w,E];exact fin _ _ false g_ (by rw[nu,decide_eq_false q1];simp)
 have w:ns=[]:=br o_;subst w;have e0:fW C.P 29 (.isl [] .unk)=some (.int .i64 0):=by simpa using Kv [] .unk
 simp +contextual [go_sem,gg,D4,uF,e0];exact fin _ _ false g_ rfl
def YB(t:T) (m:Nat) (st:PT) (h:H):Prop:=∃(k:Nat) (v:AV),m=t.kids.length-k/\k<=t.kids.length/\st.get 2=.ptr 1 0/\st.get 3=.ptr 2 0/\st.get 9=aQ t.kids/\st.get 10=.int .i64 t.kids.length/\st.get 11=.int .i64 k /\
 h[1]?=some (.cells zc .live)/\h[2]?=some (.cells [.int .i64 t.kind,.str t.name,.int .i64 t.sort,v] .live)/\OwnR 39 h v ((t.kids.take k).map enc)
theorem Lw(t:T) (hs:t.size<4000000) (hc:∀k∈t.kids,ay C 82 [enc k]=some (enc k)):ay C 82 [enc t]=some (enc t):=by
 refine bD func82 rfl λR M=>?_
 have N:=size_kids t;have I:=len_sizes t.kids;simp[go_sem,lw,aa];refine bR (YB t) t.kids.length ⟨0,.isl [] .full,rfl,aO _,g_,g_,g_,g_,g_,rfl,by simp,.inl rfl⟩ ?_;rintro m Y h ⟨k,v,rfl,Z,J,s,O,l,d,u,n,c⟩;have a:∀i,bj v=some i->i≠1/\i≠2/\i<h.length:=λi f=>by
  refine⟨?_,?_,OwnR.id_lt c f⟩
  ·intro e;subst e;exact cK c u f
  intro e;subst e;exact cK c n f
 by_cases b:k<t.kids.length
 ·have o:(k:Int)<t.kids.length:=o_;have w:=fL t.kids k b;have Q:=wS k o_;have S:∀h,az C h (.func 82 []) (some [enc t.kids[k]])=some (enc t.kids[k],h):=λh=>ah (dC _) (by simp[aw]) s_ (hc _ (aG b))
  have⟨p,y,K,z,q,A⟩:=dz (ys:=[t.kids[k]]) (x:=.full) (OwnR.app c [.cells (enc t.kids[k]).cells .live]) (by simp only[ac,aF,aP];omega);rw[<-aI b]at z;simp only[aS,au]at K;have B:=q.get (ga u) (λe=>(a _ e).1 rfl);have r:=q.get (ga n) (λe=>(a _ e).2.1 rfl);have j:=(aB.1 r).1;have U:=(aB.1 n).1;have D:OwnR 39 (y.set 2 (.cells [.int .i64 t.kind,.str t.name,.int .i64 t.sort,p] .live)) p ((t.kids.take (k+1)).map enc):=z.keep (Keep.set _ _ _) (λi f e=>by
   rcases A with L|⟨L,V⟩
   ·exact(a i (L▸f)).2.1 (by simpa using e.symm)
   rw[V]at f;simp only[aA,aK,aF,aP]at f e;omega)
  have E:cr C.P y 37 (.ptr 2 3) p=some (y.set 2 (.cells [.int .i64 t.kind,.str t.name,.int .i64 t.sort,p] .live)):=by obtain⟨x,rfl⟩:=z.isl;simp[cr,r,s23]
  have X:∀g,aX C.P (h++g) 37 (.ptr 2 3)=some v:=λg=>by obtain⟨x,rfl⟩:=c.isl;simp[aX,ga n,ae,a23,s23]
  simp[go_sem,O,l,d,o,w,lw,aa];refine gJ 6 _ (by simp[fu]) rfl ?_;simp[go_sem,s,X,S,dm,K,E,d,-Int.natCast_add,Q];refine⟨?_,t.kids.length-(k+1),o_,k+1,p,rfl,b,g_,g_,g_,g_,g_,?_,?_,D⟩
  ·rcases c with rfl|⟨id,rfl,hd⟩
   ·simp[go_sem,ip,iF,iI,kK,er,dB]
   have:=a id rfl;simp[go_sem,ip,iF,iI,kK,er,dB]
   (try omega)
  ·rw[aE o_];exact B
  rw[aJ j]
 have:k=t.kids.length:=o_;subst this;rw[ao]at c;obtain⟨x,rfl⟩:=c.isl;have F:=(aB.1 u).1;simp[go_sem,J,s,l,d,G u,G n];refine M ⟨.agg [.int .i64 t.kind,.str t.name,.int .i64 t.sort,.isl (t.kids.map enc) x],?_,?_⟩
 ·simp[ag,cG,f82,go_sem,J,F]
 have:=sd (bi (pt h 1 (.cells [.int .i64 t.kind,.str t.name,.int .i64 t.sort,.isl (t.kids.map enc) x] .live))) t.kind t.sort t.name t.kids x;rw[this,pg]
theorem JE:∀t:T,t.size<4000000->ay C 82 [enc t]=some (enc t):=by refine T.ind λt b c=>Lw t c λk a=>b k a (by have:=kid_size a;omega)
theorem rD(t:T) (hs:t.size<4000000) (h:H):az C h (.func 82 []) (some [enc t])=some (enc t,h):=ah (dC _) (by simp[aw]) s_ (JE t hs)
def zb:LA:=[.int .i64 0,.str ⟨#[]⟩,.int .i64 0,.isl [] .full,.int .i64 0,.str ⟨#[]⟩,.int .i64 0,.isl [] .full]
theorem Wv:gy C.P 84=some (.agg zb):=k_
theorem Qn(b:T × T) (h:H) (i:Nat):stM C.P 84 (bN b) 0 h i (some (.cells zb .live))=some (pt h i (.cells (bN b).cells .live)):=by rw[show bN b=.agg (bN b).cells by simp only[bN,aa]];exact rh s86 h i _ _ (by simp[bN,aa]) rfl
theorem Qo(b:T × T) (h:H) (i:Nat) (x1 x2 x3 x4 x5 x6 x7 x8:AV):stM C.P 84 (bN b) 0 h i (some (.cells [x1,x2,x3,x4,x5,x6,x7,x8] .live))=some (pt h i (.cells (bN b).cells .live)):=by rw[show bN b=.agg (bN b).cells by simp only[bN,aa]];exact rh s86 h i _ _ (by simp[bN,aa]) rfl
theorem Rh(b:T × T):ldM C.P 39 0 (some (.cells (bN b).cells .live))=some (enc b.1):=by simp[ldM,ae,a25,s25,bN,aa];rw[bJ]
theorem Rg(b:T × T):ldM C.P 39 4 (some (.cells (bN b).cells .live))=some (enc b.2):=by simp[ldM,ae,a25,s25,bN,aa];rw[bJ]
theorem fB0(i:Nat):bH C.P 84 (.ptr i 0) 0=some (.ptr i 0):=k_
theorem fB1(i:Nat):bH C.P 84 (.ptr i 0) 1=some (.ptr i 4):=k_
attribute [go_sem] fB0 fB1 Wv
def Sz(l:Lb) (m:Nat) (st:PT) (h:H):Prop:=∃k:Nat,m=l.length-k/\k<=l.length/\st.get 6=binds l/\st.get 7=.int .i64 l.length/\st.get 8=.int .i64 k/\OwnR 84 h (st.get 3) ((l.take k).map bN)
theorem Ly(l:Lb) (hs:small l) (hl:l.length<1000000):ay C 45 [binds l]=some (binds l):=by
 refine bD func45 rfl λR t=>?_
 have u:fW C.P 45 (.isl (l.map bN) .unk)=some (.int .i64 l.length):=by rw[nT,aU]
 simp[go_sem,binds,u];refine bR (Sz l) l.length ⟨0,rfl,aO _,by simp[go_sem,binds],g_,g_,.inr ⟨1,g_,s_⟩⟩ ?_;rintro m w h ⟨k,rfl,L,j,q,n,c⟩;obtain⟨y,d⟩:∃v,v=w.get 3:=⟨_,rfl⟩
 rw[<-d]at c;simp only[binds]at j;by_cases a:k<l.length
 ·have f:(k:Int)<l.length:=o_;have o:=pH l k a .unk;have g:=hs _ (aG a);have z:=wS k o_;have⟨M,N,r,s,A,B⟩:=jb (ys:=[l[k]]) (x:=.full) (OwnR.app c [.cells (bN l[k]).cells .live]) (by simp only[ac,aF,aP];omega);rw[<-aI a]at s;simp only[aS,au]at r;have D:=rD l[k].1 g.1;have E:=rD l[k].2 g.2;have F:=th l[k].1 l[k].2;have p:∀i,bj y=some i->i<h.length:=λi G=>OwnR.id_lt c G
  have I:=E9 l[k];generalize J:l[k]=b at *;simp[go_sem,j,q,n,f,o,I,aa,Qo];refine gJ 5 _ (by simp[fu]) rfl ?_;simp[go_sem,<-d,Rh,Rg,D,E,F,nq,eV,r,n,-Int.natCast_add,z];refine⟨?_,l.length-(k+1),o_,k+1,rfl,a,by simp[go_sem,j,binds],g_,g_,by simpa[go_sem]using s⟩;rcases c with e|⟨id,e,O⟩
  ·simp[go_sem,ip,iF,iI,kK,er,dB,e]
  have:=p id (by rw[e];rfl);simp[go_sem,ip,iF,iI,kK,er,dB,e]
  (try omega)
 have:k=l.length:=o_;subst this;rw[ao]at c;have⟨x,K⟩:=c.isl;simp[go_sem,q,n,<-d,K];exact t ⟨.isl (l.map bN) x,by simp[ag,cG,f45,go_sem],aL rfl rfl⟩
theorem CJ(l:Lb) (x:Ext) (hs:small l) (hl:l.length<1000000) (h:H):az C h (.func 45 []) (some [.isl (l.map bN) x])=some (binds l,h):=ah (args':=[binds l]) rfl rfl s_ (Ly l hs hl)
theorem Le(d:Dm):ay C 119 [cz d]=some (.bool (decide (d.term.kind≠1))):=by
 refine bD func119 rfl λR a=>?_
 have b:ldM C.P 3 1 (some (.cells (dc d) .live))=some (.int .i64 d.term.kind):=by simp[ldM,ae,a3,s3,dc]
 have c:bH C.P 39 (.ptr 0 1) 0=some (.ptr 0 1):=k_;simp[go_sem,D3,c,b];refine a ⟨.bool (decide (d.term.kind≠1)),?_,aL rfl rfl⟩;simp[ag,cG,f119,go_sem]
theorem ML(d:Dm) (h:H):az C h (.func 119 []) (some [cz d])=some (.bool (decide (d.term.kind≠1)),h):=ah (args':=[cz d]) rfl rfl s_ (Le d)
def YH(l:List Dm) (m:Nat) (st:PT) (h:H):Prop:=∃k:Nat,m=l.length-k/\k<=l.length/\h=[]/\st.get 0=bF l/\st.get 1=.func 119 []/\st.get 7=.int .i64 l.length/\st.get 8=.int .i64 k/\kM k (l.drop k)=kM 0 l
theorem Bv(l:List Dm) (hl:l.length<4000000):ay C 118 [bF l,.func 119 []]=some (.int .i64 (dv l)):=by
 refine gu rfl func118 rfl k_ (by simp[f118]) λR r=>?_
 have fin:∀(e:Ex) (i:PT) (h:H) (c:Int),e=.normal\/e=.ret->i.get 4=.int .i64 c->dv l=c->R e i h:=λe i h c a s t=>r _ _ _ a ⟨.int .i64 c,by simp[ag,cG,f118,s],by rw[t];exact aL rfl rfl⟩
 have f:=qo l;simp only[bF]at f;simp[go_sem,bF,f];refine bR (YH l) l.length ⟨0,rfl,aO _,rfl,by simp[go_sem,bF],g_,g_,g_,rfl⟩ ?_;rintro m i h ⟨k,rfl,v,rfl,j,q,o,p,a⟩;simp only[bF]at j;by_cases d:k<l.length
 ·have b:(k:Int)<l.length:=o_;have g:=A5 l k d .unk;have u:=wS k o_;have n:=ML l[k];rw[aH d,kM]at a;by_cases z:l[k].term.kind=1
  ·simp[z]at a n;simp[go_sem,j,q,o,p,b,g,n,-Int.natCast_add,u];exact⟨l.length-(k+1),o_,k+1,rfl,d,rfl,by simp[go_sem,j,bF],g_,g_,g_,a⟩
  simp[z]at a n;simp[go_sem,j,q,o,p,b,g,n];exact fin _ _ _ k (.inr rfl) g_ a.symm
 have:k=l.length:=o_;subst this;rw[aj,kM]at a;simp[go_sem,o,p];exact fin _ _ _ (-1) (.inr rfl) g_ a.symm
theorem OG(l:List Dm) (hl:l.length<4000000):ay C 81 [bF l]=some (.int .i64 (dv l)):=by
 refine bD func81 rfl λR a=>?_
 have b:∀h,az C h (.func 118 []) (some [.isl (l.map cz) .unk,.func 119 []])=some (.int .i64 (dv l),h):=λh=>ah (args':=[bF l,.func 119 []]) rfl rfl s_ (Bv l hl)
 simp[go_sem,bF,b];exact a ⟨.int .i64 (dv l),by simp[ag,cG,f81,go_sem],aL rfl rfl⟩
theorem KE(l:List Dm) (hl:l.length<4000000):ay C 44 [bF l]=some (.bool (decide (dv l<0))):=by
 refine bD func44 rfl λR a=>?_
 have b:∀h,az C h (.func 81 []) (some [.isl (l.map cz) .unk])=some (.int .i64 (dv l),h):=λh=>ah (args':=[bF l]) rfl rfl s_ (OG l hl)
 simp[go_sem,bF,b];exact a ⟨.bool (decide (dv l<0)),by simp[ag,cG,f44,go_sem],aL rfl rfl⟩
theorem CH(l:List Dm) (x:Ext) (hl:l.length<4000000) (h:H):az C h (.func 44 []) (some [.isl (l.map cz) x])=some (.bool (decide (dv l<0)),h):=ah (args':=[bF l]) rfl rfl s_ (KE l hl)
theorem PS(t:T):fZ C.P 41 [(1,enc t)]=some (.agg [.isl [] .full,.int .i64 t.kind,.str t.name,.int .i64 t.sort,aQ t.kids]):=by
 rw[bJ t];have e:∀(k s:Int) (n:ByteArray) (l:LA),fZ C.P 41 [(1,.agg [.int .i64 k,.str n,.int .i64 s,.isl l .unk])]=some (.agg [.isl [] .full,.int .i64 k,.str n,.int .i64 s,.isl l .unk]):=λ_ _ _ _=>k_
 exact e _ _ _ _
theorem Jb(h:H) (ks:Lq) (x:Ext) (t:T):cQ C.P h 22 1 [(0,.agg [.isl (ks.map enc) x,.int .i64 t.kind,.str t.name,.int .i64 t.sort,aQ t.kids])]=some (.isl [cz ⟨ks,t⟩] .full,h):=cW u22 s41 z41 rfl o_ rfl rfl rfl (by simp) rfl
def YZ(l:List Dm) (m:Nat) (st:PT) (h:H):Prop:=∃k:Nat,m=l.length-k/\k<=l.length/\st.get 9=bF l/\st.get 10=.int .i64 l.length/\st.get 11=.int .i64 k/\OwnR 41 h (st.get 3) ((l.take k).map cz)
def YU(l:List Dm) (k:Nat) (d:Dm) (i:Nat) (m:Nat) (st:PT) (h:H):Prop:=∃(j:Nat) (v:AV),m=d.knows.length-j/\j<=d.knows.length/\st.get 9=bF l/\st.get 10=.int .i64 l.length/\st.get 11=.int .i64 k/\st.get 6=.ptr i 0/\st.get 20=aQ d.knows/\st.get 21=.int .i64 d.knows.length/\st.get 22=.int .i64 j /\
 h[i]?=some (.cells [v,.int .i64 d.term.kind,.str d.term.name,.int .i64 d.term.sort,aQ d.term.kids] .live)/\OwnR 39 h v ((d.knows.take j).map enc)/\OwnR 41 h (st.get 3) ((l.take k).map cz)/\(∀a,bj v=some a->bj (st.get 3)≠some a)
theorem Lx(l:List Dm) (hs:∀d∈l,lS d) (hl:l.length<1000000):ay C 46 [bF l]=some (bF l):=by
 refine bD func46 rfl λR hR=>?_
 have I:=qo l;simp only[bF]at I;simp[go_sem,bF,I];refine bR (YZ l) l.length ⟨0,rfl,aO _,by simp[go_sem,bF],g_,g_,.inr ⟨1,g_,s_⟩⟩ ?_;rintro m st h ⟨k,rfl,hk,J,f,c,b⟩;obtain⟨u,n⟩:∃v,v=st.get 3:=⟨_,rfl⟩
 rw[<-n]at b;simp only[bF]at J;by_cases o:k<l.length
 ·have K:(k:Int)<l.length:=o_;have q':=A5 l k o .unk;have L:=hs _ (aG o);have w2:=wS k o_;have q0:=aI o;have ct:=rD l[k].term L.2.1;have bl:=PS l[k].term;have lk:=uE l[k];simp only[aQ]at lk;have M:∀a,bj u=some a->a<h.length:=λa e=>OwnR.id_lt b e
  generalize hd:l[k]=d at *;have⟨N,z',z0⟩:=L;simp[go_sem,J,f,c,K,q',EN,aa,ct,bl,J7,lk];refine bR (YU l k d (h.length+1)) d.knows.length ⟨0,.isl [] .full,rfl,aO _,by simp[go_sem,J,bF],g_,g_,g_,by simp[go_sem,aQ],g_,g_,s_,.inl rfl,by simpa[go_sem,<-n]using OwnR.app b _,λa e=>by cases e⟩ ?_;clear J f c b n M;clear u;rintro m2 st h1 ⟨j,v,rfl,hj,J,f,c,Z,q1,O,w,D,y,b,z⟩;obtain⟨u,n⟩:∃v,v=st.get 3:=⟨_,rfl⟩
  rw[<-n]at b z;have z1:=(aB.1 D).1;have A:bj v≠some (h.length+1):=cK y D;have q2:bj u≠some (h.length+1):=cK b D;generalize h.length+1=i at *;by_cases r:j<d.knows.length
  ·have Q:(j:Int)<d.knows.length:=o_;have S:=fL d.knows j r;have w3:=wS j o_;have cj:=rD d.knows[j] (N _ (aG r));have⟨t,E,U,F,s,B⟩:=dz (ys:=[d.knows[j]]) (x:=.full) (OwnR.app y [.cells (enc d.knows[j]).cells .live]) (by simp only[ac,aF,aP];omega);rw[<-aI r]at F;simp only[aS,au]at U;have V:=s.get (ga D) A;have X:=(aB.1 V).1;have q3:=s.1;simp only[aK,aF,aP]at q3;have Y:bj t≠some i:=by
    rcases B with q|⟨_,q⟩
    ·rw[q];exact A
    rw[q];simp only[ne_eq,aA,aK,aF,aP];omega
   have q4:OwnR 41 E u ((l.take k).map cz):=(OwnR.app b [.cells (enc d.knows[j]).cells .live]).keep s λa e=>λq=>z a q e
   have q5:OwnR 39 (E.set i (.cells [t,.int .i64 d.term.kind,.str d.term.name,.int .i64 d.term.sort,aQ d.term.kids] .live)) t ((d.knows.take (j+1)).map enc):=F.keep (Keep.set _ _ _) (λa hi e=>by simp only[aA]at e;subst e;exact Y hi)
   have q6:OwnR 41 (E.set i (.cells [t,.int .i64 d.term.kind,.str d.term.name,.int .i64 d.term.sort,aQ d.term.kids] .live)) u ((l.take k).map cz):=q4.keep (Keep.set _ _ _) (λa hi e=>by simp only[aA]at e;subst e;exact q2 hi)
   have l2:∀g,aX C.P (h1++g) 37 (.ptr i 0)=some v:=λg=>by obtain⟨x,rfl⟩:=y.isl;simp[aX,ga D,ae,a23,s23]
   have q7:cr C.P E 37 (.ptr i 0) t=some (E.set i (.cells [t,.int .i64 d.term.kind,.str d.term.name,.int .i64 d.term.sort,aQ d.term.kids] .live)):=by obtain⟨x,rfl⟩:=F.isl;simp[cr,V,s23]
   have q8:bH C.P 41 (.ptr i 0) 0=some (.ptr i 0):=Lh i;have q9:∀a,bj v=some a->a≠i/\a<h1.length:=λa e=>⟨λq=>by subst q;exact A e,OwnR.id_lt y e⟩
   simp[go_sem,q1,O,w,Q,S,lw,aa];refine gJ 9 _ (by simp[fu]) rfl ?_;simp[go_sem,Z,q8,l2,cj,dm,U,q7,w,-Int.natCast_add,w3];refine⟨?_,d.knows.length-(j+1),o_,j+1,t,rfl,r,g_,g_,g_,g_,g_,g_,g_,by rw[aJ X],q5,by simpa[go_sem,<-n]using q6,?_⟩
   ·rcases y with rfl|⟨id,rfl,_⟩
    ·simp[go_sem,ip,iF,iI,kK,er,dB]
    have:=q9 id rfl;simp[go_sem,ip,iF,iI,kK,er,dB]
    (try omega)
   intro a e q;have q:bj u=some a:=by simpa[go_sem,<-n]using q
   rcases B with p|⟨_,p⟩
   ·rw[p]at e;exact z a e q
   rw[p]at e;simp only[aA,aK,aF,aP]at e;have:=OwnR.id_lt b q;omega
  have:j=d.knows.length:=o_;subst this;rw[ao]at y;obtain⟨x,rfl⟩:=y.isl;have⟨t,E,U,F,s,B⟩:=qP (ys:=[d]) (x:=.full) b (by simp only[ac,aF,aP];omega);rw[<-q0]at F;simp only[aS,au]at U;have bx:=Jb h1 d.knows x d.term;simp[go_sem,Z,c,O,w,<-n,G D,K3,bx,U,-Int.natCast_add,w2];exact⟨l.length-(k+1),o_,k+1,rfl,o,g_,g_,g_,by simpa[go_sem]using F⟩
 have:k=l.length:=o_;subst this;rw[ao]at b;have⟨x,hx⟩:=b.isl;simp[go_sem,f,c,<-n,hx];exact hR ⟨.isl (l.map cz) x,by simp[ag,cG,f46,go_sem],aL rfl rfl⟩
theorem CI(l:List Dm) (x:Ext) (hs:∀d∈l,lS d) (hl:l.length<1000000) (h:H):az C h (.func 46 []) (some [.isl (l.map cz) x])=some (bF l,h):=ah (args':=[bF l]) rfl rfl s_ (Lx l hs hl)
def kid(ns:List Nd) (i j:Nat):Option Nat:=(ns[i]?).bind λn=>n.kids[j]?
structure Linked (ns:List Nd):Prop where
 up:∀i j k,kid ns i j=some k->i<k/\k<ns.length
 one:∀i j i' j' k,kid ns i j=some k->kid ns i' j'=some k->i=i'/\j=j'
 all:∀k,0<k->k<ns.length->∃i j,kid ns i j=some k
theorem ye{n i:Nat}:∀ {ks:List Nat}{m m':List Bool},m.length=n->rN n i m ks=some m'->(∀k∈ks,i<k/\k<n/\m.getD k false=false)/\ks.Nodup/\∀k,m'.getD k false=true↔m.getD k false=true\/k∈ks
 |[],m,m',_,h=>by rw[rN]at h;cases h;simp
 |a::ks,m,m',hl,h=>by
  rw[rN]at h;split at h
  ·cases h
  rename_i q;simp only[not_or,Nat.not_le,Bool.not_eq_true]at q;have⟨q1,q2,q3⟩:=q;have⟨d,f,g⟩:=ye (by simpa using hl) h;have b:∀k,(m.set a true).getD k false=true↔m.getD k false=true\/k=a:=λk=>by
   simp only[bK,eS];by_cases e:a=k
   ·subst e;simp[show a<m.length by omega]
   simp only[e,if_false];exact⟨λh=>.inl h,λh=>h.elim id λh=>absurd h.symm e⟩
  refine⟨λk c=>?_,ke.2 ⟨λj=>?_,f⟩,λk=>?_⟩
  ·rcases ak.1 c with rfl|c
   ·exact⟨q1,q2,q3⟩
   have⟨l,o,p⟩:=d k c;refine⟨l,o,?_⟩;by_cases e:m.getD k false=true
   ·have:=(b k).2 (.inl e);rw[p]at this;cases this
   simpa using e
  ·have:=(d a j).2.2;rw[(b a).2 (.inr rfl)]at this;cases this
  rw[g,b,ak];constructor
  ·rintro((h|h)|h)
   ·exact .inl h
   ·exact .inr (.inl h)
   exact .inr (.inr h)
  rintro(h|h|h)
  ·exact .inl (.inl h)
  ·exact .inl (.inr h)
  exact .inr h
theorem yd{n:Nat}:∀ {l:List Nd}{i:Nat}{m m':List Bool},m.length=n->oU n i m l=some m' ->
  (∀(a:Nat) (x:Nd),l[a]?=some x->∀k∈x.kids,i+a<k/\k<n/\m.getD k false=false)/\(∀(a b:Nat) (x y:Nd),l[a]?=some x->l[b]?=some y->∀k,k∈x.kids->k∈y.kids->a=b)/\(∀x∈l,x.kids.Nodup)/\(∀k,m'.getD k false=true->m.getD k false=true\/∃x∈l,k∈x.kids)/\m'.length=n
 |[],i,m,m',hl,h=>by rw[oU]at h;cases h;exact⟨λa x h=>by simp at h,λa b x y h=>by simp at h,λx h=>(by cases h),λk h=>.inl h,hl⟩
 |x0::l,i,m,m',hl,h=>by
  rw[oU]at h;cases e:rN n i m x0.kids with
  |none=>rw[e]at h;cases h
  |some m1=>
   rw[e]at h;have⟨a1,a2,a3⟩:=ye hl e;have p:m1.length=n:=by rw[Av e,hl]
   have⟨q,r,b3,b4,s⟩:=yd p h;have d:∀(a:Nat) (y:Nd),l[a]?=some y->∀k,k∈x0.kids->k∈y.kids->False:=λa y f k g j=>by have:=(q a y f k j).2.2;rw[(a3 k).2 (.inr g)]at this;cases this
   refine⟨λa x c k o=>?_,λa b x y c f k g j=>?_,λx c=>?_,λk o=>?_,s⟩
   ·cases a with
    |zero=>
     have:x0=x:=by simpa using c
     subst this;exact a1 k o
    |succ a=>
     have c:l[a]?=some x:=by simpa using c
     have⟨w,t,c3⟩:=q a x c k o;refine⟨o_,t,?_⟩;by_cases e:m.getD k false=true
     ·rw[(a3 k).2 (.inl e)]at c3;cases c3
     simpa using e
   ·cases a with
    |zero=>
     have u:x0=x:=by simpa using c
     cases b with
     |zero=>rfl
     |succ b=>exact(d b y (by simpa using f) k (u▸g) j).elim
    |succ a=>
     cases b with
     |zero=>
      have v:x0=y:=by simpa using f
      exact(d a x (by simpa using c) k (v▸j) g).elim
     |succ b=>rw[r a b x y (by simpa using c) (by simpa using f) k g j]
   ·rcases ak.1 c with rfl|c
    ·exact a2
    exact b3 x c
   rcases b4 k o with h|⟨x,c,h⟩
   ·rcases(a3 k).1 h with h|h
    ·exact .inl h
    exact .inr ⟨x0,s_,h⟩
   exact .inr ⟨x,by simp[c],h⟩
theorem kid_iff{ns:List Nd}{i j k:Nat}:kid ns i j=some k↔∃x,ns[i]?=some x/\x.kids[j]?=some k:=by unfold kid;cases ns[i]?<;>simp
theorem Ic{ns:List Nd}(h:nu ns=true):Linked ns/\0<ns.length/\ns.length<=20000:=by
 unfold nu at h;simp only[aq,decide_eq_true_eq]at h;have⟨⟨t,u⟩,f⟩:=h;cases e:oU ns.length 0 (List.replicate ns.length false) ns with
 |none=>rw[e]at f;cases f
 |some m=>
  rw[e]at f;have⟨v,w,a3,a4,I⟩:=yd s_ e;refine⟨⟨λi j k l=>?_,λi j z g k l n=>?_,λk J K=>?_⟩,t,u⟩
  ·have⟨x,b,c⟩:=kid_iff.1 l;have:=v i x b k (aW c);exact⟨o_,this.2.1⟩
  ·have⟨x,b,c⟩:=kid_iff.1 l;have⟨y,o,d⟩:=kid_iff.1 n;have e:=w i z x y b o k (aW c) (aW d);subst e;refine⟨rfl,?_⟩;rw[b]at o;have:x=y:=Option.some.inj o;subst this;have p:=a3 x (aW b);have r:=(aB.1 c).1;have s:=(aB.1 d).1;have q:x.kids[j]=x.kids[g]:=by have A:=(aB.1 c).2;have B:=(aB.1 d).2;rw[A,B]
   rcases Nat.lt_trichotomy j g with h|h|h
   ·exact absurd q (fc.1 p j g r s h)
   ·exact h
   exact absurd q.symm (fc.1 p g j s r h)
  have D:m.getD k false=true:=by
   have E:¬((m.drop 1).contains false)=true:=by simpa using f
   have a:m.getD k false∈m.drop 1:=by rw[bK,aC o_];refine nG.2 ⟨k-1,by rw[cy];omega,?_⟩;simp only[List.getElem_drop,kH];congr 1;omega
   cases F:m.getD k false with
   |true=>rfl
   |false=>rw[F]at a;exact absurd (List.contains_iff_mem.2 a) E
  rcases a4 k D with h|⟨x,b,h⟩
  ·rw[bK,List.getElem?_replicate]at h;split at h<;>simp at h
  have⟨i,G⟩:=dR.1 b;have⟨j,c⟩:=dR.1 h;exact⟨i,j,kid_iff.2 ⟨x,G,c⟩⟩
theorem KZ{ns:List Nd}(h:Linked ns){P:Nat->List Int}(h0:P 0=[]) (hk:∀i j k,kid ns i j=some k->P k=P i++[(j:Int)]):∀a b,a<ns.length->b<ns.length->P a=P b->a=b:=by
 intro a;induction a using Nat.strongRecOn with
 |ind a n=>
  intro b o l e;by_cases p:a=0
  ·subst p;by_cases f:b=0
   ·exact f.symm
   have⟨i,j,c⟩:=h.all b o_ l;rw[hk i j b c,h0]at e;simp at e
  have⟨i,j,c⟩:=h.all a o_ o;by_cases f:b=0
  ·subst f;rw[hk i j a c,h0]at e;simp at e
  have⟨m,g,d⟩:=h.all b o_ l;rw[hk i j a c,hk m g b d]at e;have⟨q,r⟩:=List.append_inj' e rfl;have s:(j:Int)=g:=by simpa using r
  have t:j=g:=o_;have u:=n i (h.up _ _ _ c).1 m (by have:=h.up _ _ _ c;omega) (by have:=h.up _ _ _ d;omega) q;subst u;subst t;rw[c]at d;exact Option.some.inj d
theorem Hw(l:List Int):ng (bU l)=true:=by
 induction l with
 |nil=>rfl
 |cons a l b=>simp only[ng,bU,aS,dp]at b ⊢;rw[b];rfl
theorem JV(p:List Int) (x:Ext) (h:H) (hp:p.length<=100000):∃v h',az C h (.func 32 []) (some [.isl (bU p) x])=some (v,h')/\OwnR 3 h' v (bU p)/\h.length<=h'.length/\(∀i,i<h.length->h'[i]?=h[i]?)/\∀i,bj v=some i->h.length<=i:=by
 have b:fA C.P 32=true:=k_;have⟨g,j⟩:=iu (h:=h) (l:=[.isl (bU p) x]) (l':=[.isl (bU p) .unk]) rfl rfl dH (by unfold dH;simp);cases p with
 |nil=>
  refine⟨.isl [] .full,h,?_,.inl rfl,aT _,λ_ _=>rfl,λi c=>by cases c⟩;simp only[az,b,if_true,cC];unfold dJ;rw[show C.mode 32=.ownT from rfl];dsimp only;rw[j];simp only[Go.V.freeze,g];have hp:C.prim 32 [.isl (bU []) .unk] []=some (.isl [] .full,[]):=by simp[C,prim,qB,cloneIds,bU]
  have k:Go.V.Call C 32 [.isl (bU []) .unk] []=some (.isl [] .full,[]):=tM (C:=C) (fn:=f32) func32 hp;rw[k];rfl
 |cons a p=>
  have d:∃r e,Go.V.Call C 32 [.isl (bU (a::p)) .unk] []=some (r,e)/\∃t,r=.isl (bU (a::p)) (.tok t)/\e[t]?=some (.tok (bU (a::p)).length 3):=by
   refine oC (by simp[C,prim,qB,cloneIds,bU]) func32 rfl k_ (by simp[f32]) λR m=>?_
   have n:jC C.P .eql 53 (.tmp 3) (.const (.slice none 0 0)) (.isl (bU (a::p)) .unk) (.isl [] .full)=some (.bool false):=k_;have o:∀h,cL C.P false h 53 (.isl [] .full) (.isl (bU (a::p)) .unk)=some (.isl (bU (a::p)) (.tok h.length),h++[.tok (bU (a::p)).length 3]):=λh=>by have q:=oE (a::p);rw[gZ];simp only[dy,u53,s3,b3,z3,km,q];simp only[bU,aS,aF,aU]at hp ⊢;simp[iN];omega
   simp[go_sem,n,BF,o];exact m _ _ _ (.inr rfl) ⟨.isl (bU (a::p)) (.tok 1),by simp[ag,cG,f32,go_sem],1,rfl,s_⟩
  obtain⟨r,e,d,t,rfl,s⟩:=d;refine⟨.isl (bU (a::p)) (.tok h.length),h++[.tok (bU (a::p)).length 3],?_,.inr ⟨h.length,rfl,s_⟩,s_,λi c=>aM c,λi c=>by simp only[bj,aA]at c;omega⟩;simp only[az,b,if_true,cC];unfold dJ;rw[show C.mode 32=.ownT from rfl];dsimp only;rw[j];simp only[Go.V.freeze,g];rw[d];dsimp only;unfold ld;have f:cS C.P 3=some 1:=s3;simp only[jz,nV,s,Hw,f,and_self,if_true]
theorem u86:C.P.underlying 86=some (.slice 53):=underlying86
theorem z53:fe C.P 53=true:=k_
theorem XM(h:H) (n:Nat) (h0:0<n) (hn:n<=1000000):fg C.P false h 86 (.int .i64 n) (.int .i64 n)=some (.msl h.length 0 1 n (some n),h++[.cells (List.replicate n (.isl [] .full)) .live]):=by
 have b:(n:Int)<=1073741824:=o_;have c:¬n=0:=o_;have e:(List.replicate n [AV.isl [] .full]).flatten=List.replicate n (.isl [] .full):=by
  clear h0 hn b c;induction n with
  |zero=>rfl
  |succ n d=>rw[ie,List.flatten_cons,d,ie];rfl
 have f:(AV.isl [] .full).cells=[.isl [] .full]:=rfl;have g:gy C.P 53=some (.isl [] .full):=k_;have a:gl C.P 53=some 24:=k_;simp[fg,u86,s53,a,g,z53,b,c,f,e]
theorem LH{id n k:Nat}{cap:Option Nat}(hk:k<n):bP C.P 86 (.msl id 0 1 n cap) (.int .i64 k)=some (.ptr id k):=by simp[bP,u86,s53,hk]
def PathC(h:H) (id n:Nat) (P:Nat->List Int):Prop:=∃cs,h[id]?=some (.cells cs .live)/\cs.length=n/\∀k,k<n->∃x,cs[k]?=some (.isl (bU (P k)) x)
theorem PathC.load{h:H}{id n:Nat}{P:Nat->List Int}(p:PathC h id n P){k:Nat}(hk:k<n):∃x,aX C.P h 53 (.ptr id k)=some (.isl (bU (P k)) x):=by have⟨d,a,e,b⟩:=p;have⟨x,c⟩:=b k hk;refine⟨x,?_⟩;rw[E6,By,a];simp[ldM,ae,a53,s53,c]
theorem PathC.keep{h h':H}{id n:Nat}{P:Nat->List Int}(p:PathC h id n P) (k:h'[id]?=h[id]?):PathC h' id n P:=by have⟨a,b,c,d⟩:=p;exact⟨a,by rw[k];exact b,c,d⟩
theorem PathC.store{h:H}{id n:Nat}{P:Nat->List Int}(p:PathC h id n P){k:Nat}(hk:k<n) (q:List Int) (x:Ext):∃h',cr C.P h 53 (.ptr id k) (.isl (bU q) x)=some h'/\PathC h' id n (λi=>if i=k then q else P i)/\h'.length=h.length/\∀i,i≠id->h'[i]?=h[i]?:=by
 have⟨b,c,d,f⟩:=p;have g:=(aB.1 c).1;refine⟨h.set id (.cells (b.set k (.isl (bU q) x)) .live),?_,⟨b.set k (.isl (bU q) x),aJ g,by simpa using d,λi a=>?_⟩,s_,λi a=>aE (λe=>a e.symm)⟩
 ·rw[Eb,By,c,uZ s53 h id k _ _ rfl o_];rfl
 by_cases e:i=k
 ·subst e;exact⟨x,by rw[aJ o_];simp⟩
 have⟨y,j⟩:=f i a;exact⟨y,by rw[aE (λq=>e q.symm),j];simp[e]⟩
def fmC(f:Fm):LA:=[.isl (bU f.path) .unk,binds f.bind,bF f.dem]
def ko(l:List Fm):LA:=l.flatMap fmC
theorem zL(l:List Fm):(ko l).length=3*l.length:=by
 induction l with
 |nil=>rfl
 |cons a l b=>simp only[ko,cD,aK,aF]at b ⊢;rw[b];simp[fmC];omega
def RowM2(h:H) (v:AV) (fs:List Fm):Prop:=(fs=[]/\v=.isl [] .full)\/∃id,v=.msl id 0 3 fs.length none/\h[id]?=some (.cells (ko fs) .live)
theorem RowM2.keep{h h':H}{v:AV}{fs:List Fm}(r:RowM2 h v fs) (k:∀i,bj v=some i->h'[i]?=h[i]?):RowM2 h' v fs:=by
 rcases r with r|⟨id,rfl,a⟩
 ·exact .inl r
 exact .inr ⟨id,rfl,by rw[k id rfl];exact a⟩
theorem RowM2.id_lt{h:H}{v:AV}{fs:List Fm}(r:RowM2 h v fs){i:Nat}(e:bj v=some i):i<h.length:=by
 rcases r with⟨_,rfl⟩|⟨id,rfl,a⟩
 ·cases e
 simp only[bj,aA]at e;subst e;exact(aB.1 a).1
theorem Sc{h:H}{v:AV}{fs:List Fm}(r:RowM2 h v fs) (f:Fm) (hl:fs.length<=100000) :
  ∃v' h',cL C.P true h 50 v (.isl [gY f] .full)=some (v',h')/\RowM2 h' v' (fs++[f])/\h'.length=h.length+1/\bj v'=some h.length/\∀i,i<h.length->bj v≠some i->h'[i]?=h[i]?:=by
 have c:∀h,zo h 3 (.isl [gY f] .full)=some (fmC f,1):=λh=>rfl
 rcases r with⟨rfl,rfl⟩|⟨id,rfl,a⟩
 ·refine⟨.msl h.length 0 3 1 none,h++[.cells (fmC f) .live],?_,.inr ⟨h.length,rfl,by simp[ko]⟩,s_,rfl,λi b _=>aM b⟩;simp only[cL,sD,fH,if_false,am,fo,u50,s55,b55,z55,c];simp[iN]
 have g:=zL fs;have d:=(aB.1 a).1;refine⟨.msl h.length 0 3 (fs.length+1) none,h.set id (.cells (ko fs) .dead)++[.cells (ko (fs++[f])) .live],?_,.inr ⟨h.length,s_,by rw[aY s_];simp⟩,s_,rfl,λi b j=>?_⟩
 ·simp only[cL,sD,fH,if_false,am,fo,u50,s55,b55,z55,c,a];rw[if_neg s_,if_neg s_,if_pos ⟨trivial,trivial,o_,o_⟩,de o_];simp[ko]
 rw[aM (by simpa using b),aE];intro e;subst e;exact j rfl
def IT(ns:List Nd) (k:Nat):Nd:=ns.getD k ⟨[],[],[]⟩
theorem uo{ns:List Nd}{k:Nat}(hk:k<ns.length):IT ns k=ns[k]:=by simp[IT,hk]
def B2(ns:List Nd) (P:Nat->List Int) (k:Nat):Fm:=⟨P k,(IT ns k).bind,(IT ns k).dem⟩
theorem xA:∀ {l m:List (List Int × LA × LA)},eO l=eO m->l=m
 |[],[],_=>rfl
 |[],b::m,h=>by simp[eO]at h
 |a::l,[],h=>by simp[eO]at h
 |(a1,a2,a3)::l,(b1,b2,b3)::m,h=>by
  simp only[eO,cD,cP,bz,cH,AV.isl.injEq,and_true]at h;have⟨h1,h2,h3,h4⟩:=h;have c:a1=b1:=by have:=congrArg (List.map λv:AV=>match v with | .int _ n=>n|_=>0) h1;simpa[iK,Function.comp_def]using this
  rw[c,h2,h3,xA h4]
theorem yw{α β:Type}{g:α->β}{l:List α}:∀ {m:List β},(∀b∈m,b∈l.map g)->∃m':List α,m=m'.map g/\∀a∈m',a∈l
 |[],_=>⟨[],rfl,λa ha=>(by cases ha)⟩
 |b::m,h=>by
  have⟨a,ha,e⟩:=bA.1 (h b s_);have⟨m',f,i⟩:=yw (m:=m) λc j=>h c (by simp[j])
  refine⟨a::m',by rw[aS,e,f],λx d=>?_⟩;rcases ak.1 d with rfl|d
  ·exact ha
  exact i x d
def J2(f:Fm):List Int × LA × LA:=(f.path,f.bind.map bN,f.dem.map cz)
theorem uK(l:List Fm):eO (l.map J2)=ko l:=by
 induction l with
 |nil=>rfl
 |cons a l b=>simp only[eO,ko,aS,cD]at b ⊢;rw[b];rfl
theorem Fz{h:H}{v:AV}{fs:List Fm}(r:RowM2 h v fs) (hl:fs.length<=100000) (hp:∀f∈fs,f.path.length<=100000) (hd:fs.Pairwise λa b=>a.path≠b.path) :
  ∃h' fs',az C h (.func 47 []) (some [v,.func 48 []])=some (.tuple [],h')/\RowM2 h' v fs'/\(∀f∈fs',f∈fs)/\fs'.length=fs.length:=by
 have p:∀x,Go.V.Call C 47 [v,.func 48 []] h=some x->az C h (.func 47 []) (some [v,.func 48 []])=some x:=λx e=>by rw[jx k_ rfl];exact e
 rcases r with⟨rfl,rfl⟩|⟨id,rfl,i⟩
 ·refine⟨h,[],p _ (tM (C:=C) (fn:=f47) func47 ?_),.inl ⟨rfl,rfl⟩,s_,rfl⟩;simp[C,prim,mQ]
 have j:=(aB.1 i).1;have e:∃l:List (List Int × LA × LA),fs.length=l.length/\l.length<1000000000/\(∀b∈l,b.1.length<100000000)/\l.Pairwise (λa b=>a.1≠b.1)/\h[id]?=some (.cells (eO l) .live):=by
  refine⟨fs.map J2,s_,by rw[aU];omega,λb n=>?_,?_,by rw[uK];exact i⟩
  ·obtain⟨f,t,rfl⟩:=bA.1 n;have:=hp f t;dsimp only[J2];omega
  rw[eR];exact hd
 obtain⟨l,k⟩:∃l,l=e.choose:=⟨_,rfl⟩
 have⟨u,w,c3,y,o⟩:=e.choose_spec;rw[<-k]at u w c3 y o;have q:l=fs.map J2:=by rw[i,<-uK]at o;exact(xA (VObj.cells.inj (Option.some.inj o)).1).symm
 have c:(nS l).Perm l:=nW _ _;have⟨fs',s,z⟩:=yw (g:=J2) (l:=fs) (m:=nS l) λb n=>by rw[<-q];exact c.mem_iff.1 n
 have d:fs'.length=fs.length:=by have:=c.length_eq;rw[s,q,aU,aU]at this;exact this
 refine⟨h.set id (.cells (eO (nS l)) .live),fs',p _ (tM (C:=C) (fn:=f47) func47 ?_),.inr ⟨id,by rw[d],by rw[aJ j,s,uK]⟩,z,d⟩;have:C.prim 47 [.msl id 0 3 fs.length none,.func 48 []] h=mQ [.msl id 0 3 fs.length none,.func 48 []] h:=by simp[C,prim]
 rw[this];simp only[mQ];rw[dif_pos e,<-k]
theorem Oi(l:List Fm):pP (ko l)=some (ko l):=by
 induction l with
 |nil=>rfl
 |cons a l b=>simp only[ko,cD,fmC,cP,bz,pP,Fg,binds,bF]at b ⊢;rw[b]
theorem G8:∀l:List Fm,ja 3 l.length (ko l)=l.map gY
 |[]=>rfl
 |a::l=>by have:=G8 l;simp only[ko,cD,aS,fmC,cP,bz,aF]at this ⊢;simp only[ja,ic,li,gQ,eX,this,gY]
theorem Qu{h:H}{v:AV}{fs:List Fm}(r:RowM2 h v fs) (hl:fs.length<=100000) (e:Int):gE (bi h) dH (.tuple [v,.int .i64 e])=some (.tuple [.isl (fs.map gY) .unk,.int .i64 e]):=by
 rcases r with⟨rfl,rfl⟩|⟨id,rfl,a⟩
 ·exact cw rfl rfl s_
 have c:=zL fs;obtain⟨m,b⟩:∃m,dH=m+6:=⟨999994,rfl⟩
 have d:m=999994:=by unfold dH at b;omega
 have⟨f,_⟩:=jQ (h:=bi h) (Oi fs) (m+2) o_;have g:(bi h)[id]?=some (.cells (ko fs) .frozen):=oW h id a;rw[b];simp only[gE,gW,g,f];rw[if_pos o_,eX,G8]
structure LvH (ns:List Nd) (id:Nat) (vf:AV) (fs:List Fm) (P:Nat->List Int) (h:H):Prop where
 m0:h[0]?=some (.cells [gg ns] .live)
 path:PathC h id ns.length P
 id0:id≠0
 rows:RowM2 h vf fs
 vid:bj vf≠some id
 v0:bj vf≠some 0
theorem LvH.grow{ns:List Nd}{id:Nat}{vf:AV}{fs:List Fm}{P:Nat->List Int}{h h':H}(x:LvH ns id vf fs P h) (hl:∀i,i<h.length->h'[i]?=h[i]?):LvH ns id vf fs P h' where
 m0:=by rw[hl 0 (aB.1 x.m0).1];exact x.m0
 path:=x.path.keep (hl id (by have⟨b,a,_⟩:=x.path;exact(aB.1 a).1))
 id0:=x.id0
 rows:=x.rows.keep λi e=>hl i (x.rows.id_lt e)
 vid:=x.vid
 v0:=x.v0
structure PthOk (ns:List Nd) (i:Nat) (P:Nat->List Int):Prop where
 root:P 0=[]
 len:∀k,(P k).length<=k
 kids:∀a b k,kid ns a b=some k->a<i->P k=P a++[(b:Int)]
def C3(ns:List Nd) (i:Nat) (P:Nat->List Int) (fs:List Fm):Prop:=∃is:List Nat,is.Nodup/\(∀k∈is,k<i/\k<ns.length/\dv (IT ns k).dem<0)/\fs=is.map (B2 ns P)/\fs.length<=i
def YX(ns:List Nd) (m:Nat) (st:PT) (h:H):Prop:=∃(i id c:Nat) (vf:AV) (fs:List Fm) (P:Nat->List Int),m=ns.length-i/\i<=ns.length/\c<=i/\st.get 1=.ptr 0 0/\st.get 4=.msl id 0 1 ns.length (some ns.length)/\st.get 5=vf/\st.get 6=.int .i64 c/\st.get 19=.isl (ns.map pN) .unk/\st.get 20=.int .i64 ns.length/\st.get 21=.int .i64 i /\
 LvH ns id vf fs P h/\PthOk ns i P/\C3 ns i P fs
def YS(ns:List Nd) (i id c i8:Nat) (vf:AV) (fs:List Fm) (a:Nd) (m:Nat) (st:PT) (h:H):Prop:=∃(j:Nat) (P:Nat->List Int),m=a.kids.length-j/\j<=a.kids.length/\st.get 1=.ptr 0 0/\st.get 4=.msl id 0 1 ns.length (some ns.length)/\st.get 5=vf/\st.get 6=.int .i64 c/\st.get 7=.int .i64 i/\st.get 8=.ptr i8 0/\st.get 19=.isl (ns.map pN) .unk/\st.get 20=.int .i64 ns.length/\st.get 21=.int .i64 i/\st.get 27=.isl (bU (jr a.kids)) .unk/\st.get 28=.int .i64 a.kids.length/\st.get 29=.int .i64 j /\
 h[i8]?=some (.cells (nc a) .live)/\i8≠id/\LvH ns id vf fs P h/\PthOk ns i P/\(∀b k,kid ns i b=some k->b<j->P k=P i++[(b:Int)])/\C3 ns i P fs
theorem Ez{ns:List Nd}{i:Nat}{P Q:Nat->List Int}{fs:List Fm}(h:C3 ns i P fs) (e:∀k,k<i->P k=Q k):C3 ns i Q fs:=by obtain⟨b,c,a,rfl,d⟩:=h;refine⟨b,c,a,fP λk f=>?_,d⟩;simp only[B2,e k (a k f).1]
theorem An{ns:List Nd}{i:Nat}{P:Nat->List Int}{fs:List Fm}(h:C3 ns i P fs):C3 ns (i+1) P fs:=by have⟨c,d,a,e,f⟩:=h;exact⟨c,d,λk b=>⟨by have:=(a k b).1;omega,(a k b).2⟩,e,o_⟩
theorem Kj{ns:List Nd}{i:Nat}{P:Nat->List Int}{fs:List Fm}(h:C3 ns i P fs) (hi:i<ns.length) (hd:dv (IT ns i).dem<0):C3 ns (i+1) P (fs++[B2 ns P i]):=by
 obtain⟨e,f,d,rfl,g⟩:=h;refine⟨e++[i],List.nodup_append.2 ⟨f,s_,λa j b l=>?_⟩,λk c=>?_,s_,by simp at g ⊢;omega⟩
 ·rw[bL.1 l];have:=(d a j).1;omega
 rcases aZ.1 c with c|c
 ·exact⟨by have:=(d k c).1;omega,(d k c).2⟩
 rw[bL.1 c];exact⟨o_,hi,hd⟩
structure SmNd (n:Nd):Prop where
 bind:small n.bind
 blen:n.bind.length<1000000
 dem:∀d∈n.dem,lS d
 dlen:n.dem.length<1000000
 kids:n.kids.length<4000000
theorem Kz(ns:List Nd) (hb:∀n∈ns,SmNd n):∃(fms:List Fm) (c:Nat),ay C 17 [.agg [gg ns]]=some (.tuple [.isl (fms.map gY) .unk,.int .i64 c])/\fms.length<=20000/\∀f∈fms,∃n∈ns,f.bind=n.bind/\f.dem=n.dem/\dv n.dem<0:=by
 suffices hh:∃r h',Go.V.Call C 17 [.agg [gg ns]] []=some (r,h')/\∃(fms:List Fm) (c:Nat),gE (bi h') dH r=some (.tuple [.isl (fms.map gY) .unk,.int .i64 c])/\fms.length<=20000/\∀f∈fms,∃n∈ns,f.bind=n.bind/\f.dem=n.dem/\dv n.dem<0 by
  have⟨r,h',a,fms,c,q1,q2⟩:=hh;exact⟨fms,c,by unfold ay;rw[a];exact q1,q2⟩
 refine oC rfl func17 rfl k_ (by simp[f17]) λR hR=>?_
 have cl:∀h,az C h (.func 43 []) (some [.agg [gg ns]])=some (.bool (nu ns),h):=λh=>ah (args':=[.agg [gg ns]]) rfl rfl s_ (Ku ns λn hn=>(hb n hn).kids)
 have ld31:∀v:AV,ldM C.P 31 0 (some (.cells [v] .live))=some (.agg [v]):=λv=>by simp[ldM,ae,a31,s31]
 cases hlk:nu ns with
 |false=>simp[go_sem,gg]at cl;simp[go_sem,gg,D4,ld31,cl,hlk];exact hR _ _ _ (.inr rfl) ⟨.tuple [.isl [] (.tok 2),.int .i64 0],by simp[ag,df,cG,f17,go_sem],[],0,cw rfl rfl s_,s_,s_⟩
 |true=>
  have⟨lk,n0,n1⟩:=Ic hlk;have mk0:=λh=>XM h ns.length n0 o_
  simp[go_sem,gg]at cl;simp[go_sem,gg,D4,ld31,cl,hlk,uF,mk0];refine bR (YX ns) ns.length ⟨0,2,0,.isl [] .full,[],λ_=>[],rfl,aO _,aT _,g_,g_,g_,g_,g_,g_,g_,?_,?_,?_⟩ ?_
  ·exact⟨rfl,⟨_,rfl,s_,λk hk=>⟨.full,by simp[hk,bU]⟩⟩,o_,.inl ⟨rfl,rfl⟩,by simp[bj],by simp[bj]⟩
  ·exact⟨rfl,s_,λa b k _ h=>o_⟩
  ·exact⟨[],s_,s_,rfl,s_⟩
  rintro m st h ⟨i,id,c,vf,fs,P,rfl,hi,hci,g1,g4,g5,g6,g19,g20,g21,lv,pk,ok⟩;by_cases hlt:i<ns.length
  ·have hlt':(i:Int)<ns.length:=o_;have hix:=LJ ns i hlt .unk;have w2:=wS i o_;have sm:=hb _ (aG hlt);have hat:=uo hlt;have hki:∀b k,kid ns i b=some k↔ns[i].kids[b]?=some k:=λb k=>by rw[kid,aC hlt];rfl
   have idl:id<h.length:=by have⟨cs,q,_⟩:=lv.path;exact(aB.1 q).1
   have hv8:bj vf≠some h.length:=λe=>by have:=lv.rows.id_lt e;omega
   generalize ha:ns[i]=a at *;have smk:=sm.kids;simp[go_sem,g19,g20,g21,hlt',hix,aa,lC];refine bR (YS ns i id c h.length vf fs a) a.kids.length ⟨0,P,rfl,aO _,g_,g_,g_,g_,g_,g_,g_,g_,g_,g_,g_,g_,s_,o_,lv.grow λq hq=>aM hq,pk,λb k _ h=>o_,ok⟩ ?_;clear g1 g4 g5 g6 g19 g20 g21 lv pk ok idl;rintro m2 st h1 ⟨j,P,rfl,hj,g1,g4,g5,g6,g7,g8,g19,g20,g21,g27,g28,g29,m8,i8n,lv,pk,pj,ok⟩;generalize h.length=i8 at *;by_cases hj1:j<a.kids.length
   ·have hj1':(j:Int)<a.kids.length:=o_;have hixj:=LI (jr a.kids) j (by rw[lC];exact hj1) .unk;rw[As _ _ hj1]at hixj;have w3:=wS j o_;have hkj:kid ns i j=some a.kids[j]:=(hki j _).2 (aC hj1);have⟨u1,u2⟩:=lk.up i j _ hkj;generalize hk:a.kids[j]=k at *;have⟨x,hld⟩:=lv.path.load hlt;have hpl:=pk.len i;have⟨v1,h2,cc,o1,l1,gr1,fr1⟩:=JV (P i) x h1 o_;have⟨v2,h3,ha3,o2,kp,hid⟩:=zi (ys:=[(j:Int)]) (x:=.full) o1 (by simp only[aF,aP];omega);have gr:∀q,q<h1.length->h3[q]?=h1[q]?:=λq hq=>by rw[kp.2 q o_ (λe=>by have:=fr1 q e;omega),gr1 q hq]
    have lv3:=lv.grow gr;obtain⟨y,rfl⟩:=o2.isl;have⟨h4,hst,p4,l4,gr4⟩:=lv3.path.store (k:=k) u2 (P i++[(j:Int)]) y;have hx1:=LH (id:=id) (cap:=some ns.length) hlt;have hx2:=LH (id:=id) (cap:=some ns.length) u2;rw[show bU [(j:Int)]=[.int .i64 (j:Int)]from rfl]at ha3;have b53:=tI;have m8l:=(aB.1 m8).1;generalize hQ:P i++[(j:Int)]=Q at *;simp[go_sem,g4,g7,g27,g28,g29,hj1',hixj,hx1,hld,cc,b53,ha3,hx2,hst,-Int.natCast_add,w3];refine⟨a.kids.length-(j+1),o_,j+1,λq=>if q=k then Q else P q,rfl,hj1,g_,g_,g_,g_,g_,g_,g_,g_,g_,g_,g_,g_,by rw[gr4 _ i8n,gr _ m8l];exact m8,i8n,⟨by rw[gr4 0 (λe=>lv.id0 e.symm)];exact lv3.m0,p4,lv.id0,lv3.rows.keep (λq e=>gr4 q (λe2=>lv.vid (by rw[<-e2];exact e))),lv.vid,lv.v0⟩,⟨?_,?_,?_⟩,?_,Ez ok λq hq=>by rw[if_neg o_]⟩
    ·rw[if_neg o_];exact pk.root
    ·intro q;by_cases e:q=k
     ·rw[if_pos e,<-hQ,aK];simp only[aF,aP];omega
     rw[if_neg e];exact pk.len q
    ·intro a' b q hq ha';have hqk:q≠k:=λe=>by subst e;have:=(lk.one _ _ _ _ _ hq hkj).1;omega
     rw[if_neg hqk,if_neg o_];exact pk.kids a' b q hq ha'
    intro b q hq hb';dsimp only;rw[if_neg (show ¬i=k by omega)];by_cases e:b=j
    ·subst e;rw[hq]at hkj;rw[if_pos (Option.some.inj hkj),hQ]
    have hqk:q≠k:=λe2=>by subst e2;exact e (lk.one _ _ _ _ _ hq hkj).2
    rw[if_neg hqk];exact pj b q hq o_
   have:j=a.kids.length:=o_;subst this;have pk':PthOk ns (i+1) P:=⟨pk.root,pk.len,λa' b k hk ha'=>by
    by_cases e:a'=i
    ·subst e;exact pj b k hk ((aB.1 ((hki b k).1 hk)).1)
    exact pk.kids a' b k hk o_⟩
   by_cases z:a.kids=[]
   ·have z':¬(0:Int)<a.kids.length:=by rw[z];simp
    have cs:=CH a.dem .unk (by have:=sm.dlen;omega);by_cases zs:dv a.dem<0
    ·have okl:fs.length<=i:=by have⟨is,_,_,_,q⟩:=ok;exact q
     have hfm:B2 ns P i=⟨P i,a.bind,a.dem⟩:=by rw[B2,hat]
     have⟨v',h2,ha2,r2,l2,id2,fr2⟩:=Sc lv.rows ⟨P i,a.bind,a.dem⟩ o_;have c45:=CJ a.bind .unk sm.bind sm.blen;have c46:=CI a.dem .unk sm.dem sm.dlen;have⟨x,hld⟩:=lv.path.load hlt;have bl:=QN (bU (P i)) (a.bind.map bN) (a.dem.map cz) x .unk .unk;have bs:=BG h1 ⟨P i,a.bind,a.dem⟩ x .unk .unk;have hx1:=LH (id:=id) (cap:=some ns.length) hlt;have ld0:=E7 a;have ld1:=K0 a;simp only[bF]at ld0 c46;simp only[binds]at ld1 c45;simp[go_sem,g8,g28,g29,G m8,lC,z,ld0,cs,zs];refine gJ 17 _ (by simp[fu]) rfl ?_;simp[go_sem,g4,g5,g7,g8,g21,hx1,hld,G m8,ld0,ld1,c45,c46,bl,bs,ha2,-Int.natCast_add,w2];refine⟨?_,ns.length-(i+1),o_,i+1,id,c,v',fs++[B2 ns P i],P,rfl,hlt,o_,g_,g_,g_,g_,g_,g_,g_,?_,pk',Kj ok hlt (by rw[hat];exact zs)⟩
     ·have hvid:=lv.vid;rcases lv.rows with⟨_,e⟩|⟨q,e,_⟩
      ·simp[go_sem,ip,iF,iI,kK,er,dB,e]
      rw[e]at hv8 hvid;simp only[bj,ne_eq,aA]at hv8 hvid;simp[go_sem,ip,iF,iI,kK,er,dB,e]
      (try omega)
     have m0l:=(aB.1 lv.m0).1;have pl:id<h1.length:=by have⟨cs,q,_⟩:=lv.path;exact(aB.1 q).1
     refine⟨by rw[fr2 0 m0l lv.v0];exact lv.m0,lv.path.keep (fr2 id pl lv.vid),lv.id0,by rw[hfm];exact r2,?_,?_⟩
     ·rw[id2];simp only[ne_eq,aA];omega
     rw[id2];simp only[ne_eq,aA];omega
    have w4:=wS c o_;have ld0:=E7 a;simp only[bF]at ld0;simp[go_sem,g6,g8,g21,g28,g29,G m8,lC,z,ld0,cs,zs,-Int.natCast_add,w2,w4];exact⟨ns.length-(i+1),o_,i+1,id,c+1,vf,fs,P,rfl,hlt,o_,g_,g_,g_,g_,g_,g_,g_,lv,pk',An ok⟩
   have hz:=gO.2 z;have z':(0:Int)<a.kids.length:=by have:=gO.2 z;omega
   simp[go_sem,g8,g21,g28,g29,G m8,lC,hz,-Int.natCast_add,w2];exact⟨ns.length-(i+1),o_,i+1,id,c,vf,fs,P,rfl,hlt,o_,g_,g_,g_,g_,g_,g_,g_,lv,pk',An ok⟩
  have:i=ns.length:=o_;subst this;obtain⟨is,s1,s2,rfl,s3⟩:=ok;have hne:=KZ lk pk.root λa b k hk=>pk.kids a b k hk (by
   have⟨x,hx,_⟩:=kid_iff.1 hk;exact(aB.1 hx).1)
  obtain⟨h',fs',c47,r',mem',len'⟩:=Fz lv.rows (by omega) (λf hf=>by
   obtain⟨k,hk,rfl⟩:=bA.1 hf
   have:=pk.len k
   have:=s2 k hk
   dsimp only[B2];omega) (by
   rw[eR]
   exact List.Pairwise.imp_of_mem (fun {a b} ha hb' hab e=>hab (hne a b (s2 a ha).2.1 (s2 b hb').2.1 e)) s1)
  simp[go_sem,g5,g6,g20,g21,c47];refine hR _ _ _ (.inr rfl) ⟨.tuple [vf,.int .i64 c],?_,fs',c,Qu r' o_ c,o_,λf hf=>?_⟩
  ·have hnt:bV vf=true:=by rcases lv.rows with⟨_,rfl⟩|⟨_,rfl,_⟩<;>rfl
   simp[ag,df,cG,f17,go_sem]
  obtain⟨k,hk,rfl⟩:=bA.1 (mem' f hf);have:=s2 k hk;exact⟨ns[k],aG this.2.1,by rw[B2,uo this.2.1],by rw[B2,uo this.2.1],by rw[<-uo this.2.1];exact this.2.2⟩
theorem U8(f:Fm) (h:H):mX C.P h 55 (gY f)=some (.ptr h.length 0,h++[.cells (fmC f) .live]):=by simp[mX,gY,aa,s55,bV,fmC]
theorem R9(i:Nat):bH C.P 55 (.ptr i 0) 1=some (.ptr i 1):=k_
theorem R8(i:Nat):bH C.P 55 (.ptr i 0) 2=some (.ptr i 2):=k_
theorem Rf(f:Fm):ldM C.P 45 1 (some (.cells (fmC f) .live))=some (binds f.bind):=by simp[ldM,ae,a45,s45,fmC]
theorem K1(f:Fm):ldM C.P 22 2 (some (.cells (fmC f) .live))=some (bF f.dem):=by simp[ldM,ae,a22,s22,fmC]
attribute [go_sem] R9 R8 Rf K1
def yU(l:List Dm) (f:Fm):Lb:=Cz (cR ((cR (bE l)).map (cE f.bind)++bE f.dem))
def oK(l:List Dm) (f:Fm):Lb:=mC (yU l f) f.bind (cR (bE l))
def YW(_l:List Dm) (f:Fm) (vars:Lq) (m:Nat) (st:PT) (h:H):Prop:=∃k:Nat,m=vars.length-k/\k<=vars.length/\h[0]?=some (.cells (fmC f) .live)/\st.get 3=.ptr 0 0/\st.get 5=aQ vars/\st.get 7=.int .i64 k/\OwnR 39 h (st.get 6) (((vars.take k).map (cE f.bind)).map enc)
def YR(_l:List Dm) (f:Fm) (vars:Lq) (own:Lb) (x6:Ext) (m:Nat) (st:PT) (h:H):Prop:=∃k:Nat,m=vars.length-k/\k<=vars.length/\st.get 5=aQ vars/\st.get 6=.isl ((vars.map (cE f.bind)).map enc) x6/\st.get 9=binds own/\st.get 11=.int .i64 k/\OwnR 84 h (st.get 10) ((mC own f.bind (vars.take k)).map bN)
theorem EQ{own s:Lb}{vars:Lq}{k:Nat}(hk:k<vars.length):mC own s (vars.take (k+1))=mC own s (vars.take k)++[(vars[k],cE own (cE s vars[k]))]:=by rw[mC,aI hk,bY];rfl
theorem Jv(l:List Dm) (f:Fm) (hl:∀d∈l,d.knows.length<=1000) (hll:l.length<=10000) (hts:∀t∈bE l,t.size<=60) (htl:(bE l).length<=1640) (hvs:∀v∈cR (bE l),v.size=1)
  (hvl:(cR (bE l)).length<=1000) (hb:∀b∈f.bind,b.1.size<=400/\b.2.size<=400) (hbl:f.bind.length<=1000) (hd:Bnd f.dem):ay C 18 [bF l,gY f]=some (binds (oK l f)):=by
 refine bD func18 rfl λR hR=>?_
 have⟨d1,d2,d3,d4,d5,d6,d7⟩:=hd;have q6:small f.bind:=λb h=>by have:=hb b h;exact⟨o_,o_⟩
 have c1:=qN l .unk hl hll;have c2:=zS (bE l) .unk (λt i=>by have:=hts t i;omega) (by have:=lT hts;omega);have c3:=qN f.dem .unk (λd hd=>by have:=(d2 d hd).2;omega) o_;have hV:oK l f=mC (yU l f) f.bind (cR (bE l)):=rfl;have u:yU l f=Cz (cR ((cR (bE l)).map (cE f.bind)++bE f.dem)):=rfl;simp only[aQ]at c1 c2 c3;simp[go_sem,bF,U8,c1,c2];clear c1 c2;generalize cR (bE l)=vars at *;have q7:∀v∈vars,(cE f.bind v).size<=400:=λv hv=>by have:=qA f.bind (λb h=>(hb b h).2) v;rw[hvs v hv]at this;omega
 refine bR (YW l f vars) vars.length ⟨0,rfl,aO _,rfl,g_,by simp[go_sem,aQ],g_,.inr ⟨2,g_,s_⟩⟩ ?_;rintro m st h ⟨k,rfl,hk,U,K,w,g7,j⟩;obtain⟨v6,V⟩:∃v,v=st.get 6:=⟨_,rfl⟩
 rw[<-V]at j;have y:bj v6≠some 0:=cK j U;by_cases c:k<vars.length
 ·have r:(k:Int)<vars.length:=o_;have z:=hG vars k c;have w2:=wS k o_;have y0:=hvs _ (aG c);have ck:=F8 f.bind vars[k] q6 o_ o_;have⟨v',h',X,Y,Z,q8⟩:=dz (ys:=[cE f.bind vars[k]]) (x:=.full) j (by simp only[aU,ac,aF,aP];omega);rw[show(vars.take k).map (cE f.bind)++[cE f.bind vars[k]]=(vars.take (k+1)).map (cE f.bind) by rw[aI c,bY];rfl]at Y;simp only[aS,au]at X;have q9:=Z.get U y;generalize hp:cE f.bind vars[k]=p at *;simp[go_sem,w,g7,r];refine gJ 6 _ (by simp[fu]) rfl ?_;simp[go_sem,K,w,g7,<-V,G U,z,ck,dm,X,-Int.natCast_add,w2];refine⟨?_,vars.length-(k+1),o_,k+1,rfl,c,q9,g_,g_,g_,by simpa[go_sem]using Y⟩;rcases j with e|⟨id,e,hd⟩
  ·simp[go_sem,ip,iF,iI,kK,er,dB,e]
  rw[e]at y;simp only[bj,ne_eq,aA]at y;simp[go_sem,ip,iF,iI,kK,er,dB,e]
  (try omega)
 have:k=vars.length:=o_;subst this;rw[ao]at j;have hA:∀t∈vars.map (cE f.bind),t.size<=400:=λt i=>by obtain⟨v,hv,rfl⟩:=bA.1 i;exact q7 v hv
 have⟨x6,L⟩:=j.isl;generalize g:vars.map (cE f.bind)=A at *;have z':A.length<=1000:=by rw[<-g,aU];exact hvl
 have⟨v1,h1,M,o,q',q0⟩:=dz (xs:=[]) (ys:=A) (x:=x6) (h:=h) (v:=.isl [] .full) (.inl rfl) (by simp;omega);rw[bz]at o;have D:=q'.get U (by simp[bj]);have⟨v2,h2,N,q1,z0,q2⟩:=dz (ys:=bE f.dem) (x:=.unk) o o_;have E:∀t∈A++bE f.dem,t.size<=400:=λt i=>by
  rcases aZ.1 i with i|i
  ·exact hA t i
  have:=d3 t i;omega
 have I:=lT E;rw[aK]at I;have z1:sizes (A++bE f.dem)<1000000:=by
  have e1:=lT hA;have e2:=lT d3;have e3:sizes (A++bE f.dem)=sizes A+sizes (bE f.dem):=by
   clear I E q1 N;generalize bE f.dem=B;clear e1 e2 o M z' hA g L j u;induction A with
   |nil=>simp[sizes]
   |cons a A ih=>simp only[cP,sizes,ih];omega
  omega
 obtain⟨x2,rfl⟩:=q1.isl;have cv:=zS (A++bE f.dem) x2 (λt i=>by have:=E t i;omega) o_;have z9:=xq (A++bE f.dem);have z2:=vY (n:=401) (λt i=>by have:=E t i;omega:∀t∈A++bE f.dem,t.size<401);have co:∀h,az C h (.func 51 []) (some [.isl ((cR (A++bE f.dem)).map enc) .unk])=some (binds (yU l f),h):=λh=>ah (args':=[aQ (cR (A++bE f.dem))]) rfl rfl s_ (by rw[u];exact UB _ o_)
 have z3:(yU l f).length<4000000:=by rw[u,Cz,aU,List.length_range];omega
 have z4:small (yU l f):=by
  rw[u];intro b z5;obtain⟨q,hq,rfl⟩:=bA.1 z5;rw[dO]at hq;have:(cR (A++bE f.dem)).getD q zT∈cR (A++bE f.dem):=by rw[bK,aC hq];exact aG hq
  have:=z2 _ this;refine⟨by dsimp only[pD];omega,?_⟩;dsimp only[pD,yV];rw[size_kids];simp[T.kids,sizes]
 simp only[aQ]at cv;have O:bj v1≠some 0:=cK o D;have l0:aX C.P h1 22 (.ptr 0 2)=some (bF f.dem):=by rw[E6,By,D];exact K1 f
 simp[go_sem,w,g7];refine gJ 7 _ (by simp[fu]) rfl ?_;have z6:=G U;have q3:=G D;simp only[bF]at l0;have Q:st.get 6=.isl (A.map enc) x6:=by rw[<-V];exact L
 generalize bE f.dem=B at *;generalize cR (A++B)=W at *;generalize y':A++B=AB at *;have z7:oK l f=mC (yU l f) f.bind vars:=hV;generalize yU l f=own at *;simp only[binds]at co;simp[go_sem,K,Q,qO,M,l0,c3,N,cv,co];refine⟨?_,?_⟩
 ·rcases o with e|⟨id,e,_⟩
  ·simp[go_sem,ip,iF,iI,kK,er,dB,e]
  rw[e]at O;simp only[bj,ne_eq,aA]at O;simp[go_sem,ip,iF,iI,kK,er,dB,e]
  (try omega)
 refine bR (YR l f vars own x6) vars.length ⟨0,rfl,aO _,g_,by simp[go_sem,Q,g],by simp[go_sem,binds],g_,.inr ⟨h2.length,by simp[go_sem,mC],by simp[mC]⟩⟩ ?_;clear K w g7 V Q L j M N o q' q0 z0 q2 U D z6 q3 l0 O y cv co;rintro m st h ⟨k,rfl,hk,w,g6,g9,S,j⟩;obtain⟨y1,F⟩:∃v,v=st.get 10:=⟨_,rfl⟩
 rw[<-F]at j;simp only[binds]at g9;rw[g]at g6;by_cases c:k<vars.length
 ·have r:(k:Int)<vars.length:=o_;have z:=hG vars k c;have q4:k<A.length:=by rw[<-g,aU];exact c
  have J:=lE A k q4 x6;have z8:A[k]=cE f.bind vars[k]:=by simp[<-g]
  have w2:=wS k o_;have y2:=hA _ (aG q4);have ck:=F8 own A[k] z4 o_ z3;have q5:=EQ (own:=own) (s:=f.bind) c;rw[<-z8]at q5;have bl:=th vars[k] (cE own A[k]);have⟨v',h',X,Y,Z,q8⟩:=jb (ys:=[(vars[k],cE own A[k])]) (x:=.full) j (by simp only[mC,aU,ac,aF,aP];omega);rw[<-q5]at Y;simp only[aS,au]at X;simp only[binds]at ck;simp[go_sem,w,S,r];refine gJ 13 _ (by simp[fu]) rfl ?_;simp[go_sem,w,g6,g9,S,<-F,z,J,ck,bl,nq,eV,X,-Int.natCast_add,w2];refine⟨?_,vars.length-(k+1),o_,k+1,rfl,c,g_,by simp[go_sem,g6,g],by simp[go_sem,g9,binds],g_,by simpa[go_sem]using Y⟩;simp[go_sem,ip,iF,iI,kK,er,dB]
 have:k=vars.length:=o_;subst this;rw[ao,<-z7]at j;have⟨x,hx⟩:=j.isl;simp[go_sem,w,S,<-F,hx];exact hR ⟨.isl ((oK l f).map bN) x,by simp[ag,cG,f18,go_sem],aL rfl rfl⟩
theorem Rv(l:List Fm) (k:Nat) (hk:k<l.length) (x:Ext):bP C.P 50 (.isl (l.map gY) x) (.int .i64 k)=some (.iptr (gY l[k]) 0):=by have:(gY l[k]).cells.length=3:=rfl;simp[bP,u50,s55,hk,this]
theorem RS(l:List Fm) (x:Ext):fW C.P 50 (.isl (l.map gY) x)=some (.int .i64 l.length):=by simp[fW,u50]
theorem QH(f:Fm) (h:H):aX C.P h 55 (.iptr (gY f) 0)=some (gY f):=by have:(gY f).cells=fmC f:=rfl;simp[aX,ae,a55,s55,this];exact⟨by simp[fmC],rfl⟩
theorem Tf:gy C.P 55=some (.agg [.isl [] .full,.isl [] .full,.isl [] .full]):=k_
theorem P8(h:H) (i:Nat) (f:Fm) (a b c:AV):stM C.P 55 (gY f) 0 h i (some (.cells [a,b,c] .live))=some (pt h i (.cells (fmC f) .live)):=rh s55 h i _ _ rfl rfl
theorem QF(f:Fm):ldM C.P 55 0 (some (.cells (fmC f) .live))=some (gY f):=by simp[ldM,ae,a55,s55,fmC,gY]
theorem JT(l:List Dm) (s:Lb) (x y:Ext) (hv:bp l=0) (hs:small s) (hl:s.length<1000000) (hn:∀b∈s,nf gF b.2) (h:H):az C h (.func 13 []) (some [.isl (l.map cz) x,.isl (s.map bN) y])=some (.tuple [.bool (nK l s).1,.int .i64 (nK l s).2],h):=
 ah (args':=[bF l,binds s]) rfl rfl s_ (N5 l s hv hs hl hn)
theorem NN{v:T}(h:iE v=0) (k:v.kind=1):0<=v.sort/\v.sort<=5:=by
 unfold iE tU at h;split at h
 ·cases h
 rename_i a;simp only[k,bZ,aq,decide_eq_true_eq,not_or]at a;omega
theorem LU{vars:Lq}{v:T}(h:v∈vars):∃n,eK (Cz vars) v=yV n v.sort:=by
 have c:∀l:List Nat,(∃i∈l,vars.getD i zT=v)->∃n,eK (l.map (pD vars)) v=yV n v.sort:=by
  intro l;induction l with
  |nil=>rintro⟨i,b,_⟩;cases b
  |cons a l d=>
   rintro⟨i,b,e⟩;rw[aS,eK];by_cases q:(pD vars a).1.cmp v=0
   ·rw[if_pos q];have q:=cmp_zero.1 q;exact⟨kS vars a (vars.getD a zT).sort,by rw[<-q];rfl⟩
   rw[if_neg q];rcases ak.1 b with rfl|b
   ·exact absurd (cmp_zero.2 (by rw[pD];exact e)) q
   exact d ⟨i,b,e⟩
 have⟨i,b⟩:=dR.1 h;refine c _ ⟨i,dO.2 (aB.1 b).1,?_⟩;rw[bK,b];rfl
theorem RF(vars:Lq):∀b∈Cz vars,nf gF b.2:=λb a=>by
 obtain⟨i,_,rfl⟩:=bA.1 a;intro y c k;rcases mem_walk.1 c with rfl|⟨q,d,_⟩
 ·cases k
 cases d
theorem Hb{l:List Dm}{n:Nd}(h:NdOk l n) (hs:dv n.dem<0) (f:Fm) (e1:f.bind=n.bind) (e2:f.dem=n.dem):∀d∈l,DrS (iR (oK l f) d).knows (iR (oK l f) d).term:=λd c=>by
 have a:=(yp (l:=n.dem) (k:=0) hs).2;have g:=h.good.valid;have:=FL (own:=yU l f) h.good a (λe b=>by have i:e.term∈cR ((cR (bE l)).map (cE f.bind)++bE f.dem):=wH (t:=e.term) (dw _ (by rw[e2];exact lO b)) (eU _) (a e b);have⟨k,j⟩:=LU i;rw[yU,j];have m:=jJ (pV g _ (lO b));exact Nf k (NN (ee (cT (jD m.1).1).1) (a e b))) c
 rw[<-e1]at this;refine qv (λt o=>?_) this;obtain⟨k,a,rfl⟩:=o;exact .ax (bA.2 ⟨k,a,rfl⟩)
theorem DJ{f:List Nd->List Fm->List Dm->Lb->List Int->NR}(s:Lb) (p:List Int):∀(l:List Al) (j:Nat) (ns:List Nd) (fs:List Fm) (ks:List Nat),(gi f s p j l ns fs ks).ks.length<=ks.length+l.length
 |[],_,_,_,_=>by simp[gi]
 |a::l,j,ns,fs,ks=>by
  rw[gi];split
  ·simp
  refine cM (DJ s p l _ _ _ _) ?_;simp only[aK,aF,aP];omega
theorem Ek{ns:List Nd}{i:Nat}{ks:List Nat}(h:∀n∈ns,n.kids.length<=10000) (hk:ks.length<=10000):∀n∈kY ns i ks,n.kids.length<=10000:=λn c=>by
 have⟨j,b⟩:=dR.1 c;rw[kY,nI]at b;cases e:ns[j]? with
 |none=>rw[e]at b;cases b
 |some a=>
  rw[e]at b;have d:=h a (aW e);simp only[Option.map_eq_map,bf,aA]at b;subst b;split
  ·exact hk
  exact d
theorem Gu{l0:List Dm}{f:List Nd->List Fm->List Dm->Lb->List Int->NR}(hf:∀ns fs d s p,(∀n∈ns,n.kids.length<=10000)->NdOk l0 ⟨d,s,[]⟩->∀n∈(f ns fs d s p).ns,n.kids.length<=10000) (s:Lb) (p:List Int) :
  ∀(l:List Al) (j:Nat) (ns:List Nd) (fs:List Fm) (ks:List Nat),(∀a∈l,NdOk l0 ⟨a.dem,(eG s a.bind).1,[]⟩)->(∀n∈ns,n.kids.length<=10000)->∀n∈(gi f s p j l ns fs ks).ns,n.kids.length<=10000
 |[],_,_,_,_,_,h=>h
 |a::l,j,ns,fs,ks,ha,h=>by
  have h1:=hf ns fs a.dem (eG s a.bind).1 (p++[(j:Int)]) h (ha a s_);rw[gi];split
  ·exact h1
  exact Gu hf s p l _ _ _ _ (λb c=>ha b (by simp[c])) h1
theorem Gh{l0:List Dm}(F:Nat):∀(g:Nat) (ns:List Nd) (fs:List Fm) (d:List Dm) (s:Lb) (p:List Int),(∀n∈ns,n.kids.length<=10000)->NdOk l0 ⟨d,s,[]⟩->∀n∈(fF F g ns fs d s p).ns,n.kids.length<=10000
 |0,ns,fs,_,_,_,h,_=>h
 |g+1,ns,fs,d,s,p,h,hd=>by
  have h1:∀n∈ns++[(⟨d,s,[]⟩:Nd)],n.kids.length<=10000:=λn b=>by
   rcases aZ.1 b with b|b
   ·exact h n b
   rw[bL.1 b];simp
  rw[fF];split
  ·exact h
  split
  ·exact h1
  split
  ·exact h1
  rename_i i;split
  ·exact h1
  rename_i j;have c:=Gu (Gh F g) s p (cn d).1 0 (ns++[⟨d,s,[]⟩]) fs [] (λa e=>by have f:=qx (by simpa using j) a e;have:=Aq (k:=[]) hd (yF (by simpa using i) a e) f;rw[(qM f).1];exact this) h1
  split
  ·exact c
  refine Ek c (cM (DJ _ _ _ _ _ _ _) ?_);have:=(Cg hd.good.valid).2;simpa using this
theorem Hi{l:List Dm}{F:Nat}(_h:(fD l F).2=0):∀n∈(fD l F).1,n.kids.length<=10000:=by
 unfold fD;split
 ·simp
 rename_i q;split
 ·simp
 split
 ·simp
 exact Gh F F [] [] l [] [] s_ (Ar (by simpa using q))
theorem EP{l:List Dm}{f:Fm}(hb:∀b∈f.bind,b.1.size<=400/\b.2.size<=400) (hvs:∀v∈cR (bE l),v.size=1):small (oK l f):=λb a=>by
 obtain⟨x,c,rfl⟩:=bA.1 a;have d:=hvs x c;have e:=qA f.bind (λb h=>(hb b h).2) x;have g:=qA (yU l f) (λb h=>by obtain⟨i,_,rfl⟩:=bA.1 h;dsimp only[pD,yV];rw[size_kids];simp[T.kids,sizes]) (cE f.bind x)
 exact⟨by dsimp only;omega,by dsimp only;omega⟩
def Vr(l:List Dm) (fms:List Fm) (m:Nat) (st:PT) (_h:H):Prop:=∃k:Nat,m=fms.length-k/\k<=fms.length/\st.get 0=bF l/\st.get 31=.isl (fms.map gY) .unk/\st.get 32=.int .i64 fms.length/\st.get 33=.int .i64 k
theorem Xd(l:List Dm):ay C 4 [bF l]=some (.bool true):=by
 refine gu rfl func4 rfl k_ (by simp[f4]) λR hR=>?_
 have fin:∀(e:Ex) (K:PT) (h:H),e=.normal\/e=.ret->K.get 2=.bool true->R e K h:=λe K h he h4=>hR _ _ _ he ⟨.bool true,by simp[ag,cG,f4,h4],aL rfl rfl⟩
 have N:∀h,az C h (.func 6 []) (some [])=some (.bool true,h):=λh=>by refine ah (args':=[]) rfl rfl s_ ?_;have:Go.V.Call C 6 [] []=some (.bool true,[]):=tM (C:=C) (fn:=f6) func6 (by simp[C,prim]);unfold ay;rw[this];exact aL rfl rfl
 have w:=MI l .unk;cases A:yu l with
 |false=>rw[A]at w;simp +contextual [go_sem,bF,N,w];exact fin _ _ _ (.inr rfl) g_
 |true=>
  rw[A]at w;have⟨k1,k2⟩:=I2 A;have c9:∀h,az C h (.func 9 []) (some [.isl (l.map cz) .unk,.int .i64 40])=some (H5 (fD l 40),h):=MC l 40 .unk k2 o_;have B:∀(v:AV) (h:H) (i:Nat) (a:AV),stM C.P 31 (.agg [v]) 0 h i (some (.cells [a] .live))=some (pt h i (.cells [v] .live)):=λv h i a=>rh s31 h i _ _ rfl rfl
  have O:∀(v:AV),ldM C.P 31 0 (some (.cells [v] .live))=some (.agg [v]):=λv=>by simp[ldM,ae,a31,s31]
  by_cases z:(fD l 40).2=0
  ·have s:bp l=0:=by
    by_cases q:bp l=0
    ·exact q
    rw[fD,if_pos q]at z;exact absurd z q
   have⟨b1,b2,b3,b4,b5,b6,b7⟩:=oa s;have D:=NC z;have q1:=oa s;have Q:∀n∈(fD l 40).1,SmNd n:=λn L=>by
    have j:=D n L;have hb:=oa j.good.valid;refine⟨λb S=>?_,by have:=j.len;omega,λd U=>(hb.dem d U).1,by have:=hb.len;omega,?_⟩
    ·have:=j.val b S;exact⟨o_,o_⟩
    have:=Hi z n L;omega
   have⟨g,c,X,q2,Y⟩:=Kz (fD l 40).1 Q;have p:∀h,az C h (.func 17 []) (some [.agg [gg (fD l 40).1]])=some (.tuple [.isl (g.map gY) .unk,.int .i64 c],h):=λh=>ah (args':=[.agg [gg (fD l 40).1]]) rfl rfl s_ X
   have E:∀v∈cR (bE l),v.size=1:=λy Z=>by have⟨a,ha,s⟩:=bh.1 (mem_setS.1 Z);have⟨hw,hk⟩:=bm.1 (mem_setS.1 s);have:=rz (b4 a ha).1 y hw (by simpa[isK]using hk);rw[size_kids,this];simp[sizes]
   have q':(cR (bE l)).length<=1000:=by have h1:=xq (bE l);simp only[yu,xS,aq,decide_eq_true_eq,bM]at A;have:=(pQ (bE l) 1000 o_).2 A.1.2.2;omega
   simp only[gg]at p;simp +contextual [go_sem,bF,N,w,M3,aa,c9,H5,z,B,O,gg,p,RS];refine bR (Vr l g) g.length ⟨0,rfl,aO _,by simp[go_sem,bF],g_,g_,g_⟩ ?_;rintro m K h ⟨k,rfl,hk,F,G,t,u⟩;simp only[bF]at F;by_cases o:k<g.length
   ·have r:(k:Int)<g.length:=o_;have I:=Rv g k o .unk;have w2:=wS k o_;have⟨n,L,M,e2,e3⟩:=Y _ (aG o);generalize hF:g[k]=f at *;have j:=D n L;have J:∀b∈f.bind,b.1.size<=400/\b.2.size<=400:=by rw[M];exact j.val
    have q0:Bnd f.dem:=by rw[e2];exact oa j.good.valid
    have cv:∀h,az C h (.func 18 []) (some [.isl (l.map cz) .unk,gY f])=some (binds (oK l f),h):=λh=>ah (args':=[bF l,gY f]) rfl rfl s_ (Jv l f (λd U=>by have:=(b2 d U).2;omega) o_ b3 b5 E q' J (by rw[M];have:=j.len;omega) q0)
    have ch:=JT l (oK l f) .unk .unk s (EP J E) (by simp only[oK,mC,aU];omega) (Ni (RF _) (by rw[M];exact j.good.nf) λx hx=>by intro y Z ky;have q3:=AR hx;have⟨a,ha,s⟩:=bh.1 (mem_setS.1 hx);have⟨hw,_⟩:=bm.1 (mem_setS.1 s);exact Bh a (b4 a ha).2 hw y Z ky)
    have hT:=DR (Hb j e3 f M e2);simp only[binds]at cv ch;generalize nK l (oK l f)=HD at *;by_cases z2:HD.2=0
    ·have z3:=hT z2;simp +contextual [go_sem,F,G,t,u,r,I,QH,Tf,aa,P8,QF,cv,ch,z2,z3,-Int.natCast_add,w2];exact⟨g.length-(k+1),o_,k+1,rfl,o,by simp[go_sem,F,bF],g_,g_,g_⟩
    simp +contextual [go_sem,F,G,t,u,r,I,QH,Tf,aa,P8,QF,cv,ch,z2,-Int.natCast_add,w2];exact⟨g.length-(k+1),o_,k+1,rfl,o,by simp[go_sem,F,bF],g_,g_,g_⟩
   have:k=g.length:=o_;subst this;simp[go_sem,t,u];exact fin _ _ _ (.inr rfl) g_
  simp +contextual [go_sem,bF,N,w,M3,aa,c9,H5,z,B];exact fin _ _ _ (.inr rfl) g_
end Go.VZ
