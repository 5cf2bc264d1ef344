/- A part of the proof. -/
import Derived.Test.YtclakfnjdnibeaaGreatDoorSi
set_option maxHeartbeats 16000000
set_option maxRecDepth 16000
namespace Go.VZ
open Go Go.V Go.Proofs Tryz TL
def E8(n:Nd):AV:=.agg [bB n.dem,binds n.bind,.isl (bP (pF n.kids)) .unk]
def Cy(l:List Nd):AV:=.isl (l.map E8) .unk
noncomputable def fg(l:List Dm) (F:Nat):List Nd × Int:=
 if cD l≠0 then([],cD l)else if F<1\/20000<F then([],7)else if(fb F F [] [] l [] []).err≠0 then([],(fb F F [] [] l [] []).err)else((fb F F [] [] l [] []).ns,0)
def Gm(r:List Nd × Int):AV:=.tuple [.agg [Cy r.1],.int .i64 r.2]
theorem yW:∀l:List (Nd × Ext),qD (jW l)=some (jW (l.map λn=>(n.1,.unk)))
 |[]=>rfl
 |a::l=>by have:=yW l;simp only[jW,cF,aS,ndC,cP,bk]at this ⊢;simp only[qD,Hd,this,bB,binds]
theorem yZ:∀l:List (Nd × Ext),io 3 l.length (jW (l.map λn=>(n.1,.unk)))=(l.map Prod.fst).map E8
 |[]=>rfl
 |a::l=>by have:=yZ l;simp only[jW,cF,aS,ndC,cP,bk,aG]at this ⊢;simp only[io,dh,fo,dl,dO,this,E8]
theorem GZ{h:H}{v:AV}{ns:List Nd}(r:RowN h v ns) (hl:ns.length<=100000) (e:Int):fc (bj h) dD (.tuple [.agg [v],.int .i64 e])=some (Gm (ns,e)):=by
 rcases r with⟨rfl,rfl⟩|⟨id,l,rfl,rfl,b⟩
 ·exact dF rfl rfl s_
 rw[aU]at hl;have d:=nO l;have a:=nO (l.map λn=>(n.1,.unk));rw[aU]at a;obtain⟨m,c⟩:∃m,dD=m+6:=⟨999994,rfl⟩
 have f:m=999994:=by unfold dD at c;omega
 have⟨g,_⟩:=jq (h:=bj h) (yW l) m o_;have i:(bj h)[id]?=some (.cells (jW l) .frozen):=pM h id b;rw[c];simp only[fc,gE,i,g,aU];rw[if_pos o_,dO,yZ];rfl
theorem YQ(F:Int) (b:Bool):fK C.P 70 [(0,.int .i64 F),(1,.bool b)]=some (.agg [.int .i64 F,.bool b,.isl [] .full,.isl [] .full]):=k_
theorem YP(F:Int) (b:Bool) (h:H):nR C.P h 70 (.agg [.int .i64 F,.bool b,.isl [] .full,.isl [] .full])=some (.ptr h.length 0,h++[.cells [.int .i64 F,.bool b,.isl [] .full,.isl [] .full] .live]):=by simp[nR,aV,s70,bf]
theorem Tl(l:List Dm) (F:Nat) (h0:H) (x:Ext) (hs:∀d∈l,gy d) (hl:l.length<4000000) :
  ∃r h',ak C h0 (.func 30 []) (some [.isl (l.map dG) x,.int .i64 F,.bool false])=some (r,h')/\(h0.length<=h'.length/\∀i,i<h0.length->h'[i]?=h0[i]?) /\
   (((fg l F).2≠0/\∃v,r=.tuple [v,.int .i64 (fg l F).2])\/((fg l F).2=0/\∃(w:Nat) (vn vf:AV) (fs:List Fm),r=.tuple [.ptr w 0,.int .i64 0]/\WK h' w F vn vf (fg l F).1 fs)):=by
 suffices hh:∃r h',Go.V.Call C 30 [.isl (l.map dG) x,.int .i64 F,.bool false] h0=some (r,h')/\(h0.length<=h'.length/\∀i,i<h0.length->h'[i]?=h0[i]?)/\(((fg l F).2≠0/\∃v,r=.tuple [v,.int .i64 (fg l F).2])\/((fg l F).2=0/\∃(w:Nat) (vn vf:AV) (fs:List Fm),r=.tuple [.ptr w 0,.int .i64 0]/\WK h' w F vn vf (fg l F).1 fs)) by
  have⟨r,h',a,q⟩:=hh;exact⟨r,h',by rw[gQ k_ rfl];exact a,q⟩
 refine lC rfl func30 rfl k_ (by simp[f30]) λR y=>?_
 have m:∀(n:PT) (h:H) (e:Int) (v:AV),n.get 6=v->n.get 7=.int .i64 e->(fg l F).2=e->e≠0->bf v=true->(h0.length<=h.length/\∀i,i<h0.length->h[i]?=h0[i]?)->R .ret n h:=λn h e v B D E s O G=>y _ _ _ (.inr rfl) ⟨.tuple [v,.int .i64 e],by
  subst B;simp[aY,dx,cC,f30,D],G,.inl (by rw[E];exact⟨s,v,rfl⟩)⟩
 have o:=sK l x hs hl;by_cases q:cD l=0
 ·by_cases k:F<1\/20000<F
  ·have f:fg l F=([],7):=by rw[fg,if_neg (by simp[q]),if_pos k]
   rcases k with k|k
   ·have c:(F:Int)<1:=o_;simp +contextual [go_sem,o,q,c];exact m _ _ 7 .nilptr g_ g_ (by rw[f]) o_ rfl ⟨aR _,λ_ _=>rfl⟩
   have c:¬(F:Int)<1:=o_;have j:(20000:Int)<F:=o_;simp +contextual [go_sem,o,q,c,j];exact m _ _ 7 .nilptr g_ g_ (by rw[f]) o_ rfl ⟨aR _,λ_ _=>rfl⟩
  have c:¬(F:Int)<1:=o_;have j:¬(20000:Int)<F:=o_;have u:WK (h0++[.cells [.int .i64 F,.bool false,.isl [] .full,.isl [] .full] .live]) h0.length F (.isl [] .full) (.isl [] .full) [] []:=⟨s_,.inl ⟨rfl,rfl⟩,.inl rfl⟩
  obtain⟨r,h',z,rfl,vn,vf,I,A⟩:=US F o_ F [] [] l [] [] _ _ _ _ x .full .full u ⟨q,λb J=>(by cases J),s_⟩ s_ s_ s_ (λt K=>by cases K);simp only[bD,bP]at z;generalize L:fb F F [] [] l [] []=N at *;have f:fg l F=if N.err≠0 then([],N.err)else(N.ns,0):=by rw[fg,if_neg (by simp[q]),if_neg k,L]
  simp +contextual [go_sem,o,q,c,j,YQ,YP,z];have g:h0.length<=h'.length/\∀i,i<h0.length->h'[i]?=h0[i]?:=by have:=A.len;refine⟨by simp at this;omega,λi M=>?_⟩;rw[A.old i (by simp;omega) o_ (by simp[bv]) (by simp[bv]),aP M]
  by_cases p:N.err=0
  ·rw[if_neg (by simp[p])]at f;exact y _ _ _ (.inr rfl) ⟨.tuple [.ptr h0.length 0,.int .i64 0],by simp[aY,dx,cC,f30,go_sem,p],g,.inr ⟨by rw[f],h0.length,vn,vf,N.fs,rfl,by rw[f];exact I⟩⟩
  rw[if_pos p]at f;exact m _ _ N.err (.ptr h0.length 0) g_ g_ (by rw[f]) p rfl g
 have f:fg l F=([],cD l):=by rw[fg,if_pos q]
 simp[go_sem,o,q];exact m _ _ (cD l) .nilptr g_ g_ (by rw[f]) q rfl ⟨aR _,λ_ _=>rfl⟩
theorem s31:cr C.P 31=some 1:=k_
theorem a31:fJ C.P 31=some true:=k_
theorem uf:iH C.P 31=some (.agg [.isl [] .full]):=k_
theorem Sd:fK C.P 31 []=some (.agg [.isl [] .full]):=k_
theorem Sc(id n:Nat):fK C.P 31 [(0,.msl id 0 3 n none)]=some (.agg [.msl id 0 3 n none]):=k_
theorem Sb:fK C.P 31 [(0,.isl [] .full)]=some (.agg [.isl [] .full]):=k_
theorem YU{h:H}{v:AV}{ns:List Nd}(r:RowN h v ns):fK C.P 31 [(0,v)]=some (.agg [v]):=by
 rcases r with⟨rfl,rfl⟩|⟨id,l,rfl,rfl,a⟩
 ·exact Sb
 exact Sc _ _
theorem Iz{F:Nat}{f:List Nd->List Fm->List Dm->Lb->List Int->NR}(hf:∀ns fs d s p,ns.length<=F->(f ns fs d s p).ns.length<=F) (s:Lb) (p:List Int):∀(l:List Al) (j:Nat) (ns:List Nd) (fs:List Fm) (ks:List Nat),ns.length<=F->(iL f s p j l ns fs ks).ns.length<=F
 |[],_,_,_,_,h=>h
 |a::l,j,ns,fs,ks,h=>by
  rw[iL];split
  ·exact hf _ _ _ _ _ h
  exact Iz hf s p l _ _ _ _ (hf _ _ _ _ _ h)
theorem Il(F:Nat):∀(g:Nat) (ns:List Nd) (fs:List Fm) (d:List Dm) (s:Lb) (p:List Int),ns.length<=F->(fb F g ns fs d s p).ns.length<=F
 |0,ns,fs,_,_,_,h=>h
 |g+1,ns,fs,d,s,p,h=>by
  rw[fb];split
  ·exact h
  rename_i q;have h1:(ns++[(⟨d,s,[]⟩:Nd)]).length<=F:=by rw[aL];simp only[aG,aQ];omega
  have a:=Iz (Il F g) s p (cX d).1 0 (ns++[⟨d,s,[]⟩]) fs [] h1;split
  ·exact h1
  split
  ·exact h1
  split
  ·exact h1
  split
  ·exact a
  rw[sw];exact a
theorem MR{l:List Dm}{F:Nat}(h:(fg l F).2≠0):fg l F=([],(fg l F).2):=by
 unfold fg at h ⊢;split
 ·rfl
 rename_i q;rw[if_neg q]at h;split
 ·rfl
 rename_i a;rw[if_neg a]at h;split
 ·rfl
 rename_i b;rw[if_neg b]at h;exact absurd rfl h
theorem IQ(l:List Dm) (F:Nat):(fg l F).1.length<=20000:=by
 unfold fg;split
 ·simp
 split
 ·simp
 rename_i q;split
 ·simp
 have:=Il F F [] [] l [] [] s_;dsimp only;omega
theorem W3(l:List Dm) (F:Nat) (hs:∀d∈l,gy d) (hl:l.length<4000000):az C 9 [bB l,.int .i64 F]=some (Gm (fg l F)):=by
 refine ay func9 rfl λR q=>?_
 have⟨r,s,t,⟨u,n⟩,x⟩:=Tl l F [.cells [.isl [] .full] .live] .unk hs hl;have b:∀(v:AV) (h:H) (i:Nat) (a:AV),stM C.P 31 (.agg [v]) 0 h i (some (.cells [a] .live))=some (pt h i (.cells [v] .live)):=λv h i a=>sq s31 h i _ _ rfl rfl
 have c:∀(v:AV),ldM C.P 31 0 (some (.cells [v] .live))=some (.agg [v]):=λv=>by simp[ldM,aZ,a31,s31]
 have B:=IQ l F;have m:s[0]?=some (.cells [.isl [] .full] .live):=n 0 s_;have f:=(aB.1 m).1;rcases x with⟨z,v,rfl⟩|⟨z,w,g,D,E,rfl,j⟩
 ·simp[go_sem,bB,uf,aV,t,z,Sd,G m,b];refine q ⟨.tuple [.agg [.isl [] .full],.int .i64 (fg l F).2],by simp[aY,dx,cC,f9,go_sem,f,c],by rw[MR z];exact dF rfl rfl s_⟩
 have y:=YU j.nodes;have o:bf g=true:=by rcases j.nodes with⟨_,rfl⟩|⟨_,_,_,rfl,_⟩<;>rfl
 simp[go_sem,bB,uf,aV,t,G m,G j.cell,y,o,b];refine q ⟨.tuple [.agg [g],.int .i64 0],by simp[aY,dx,cC,f9,go_sem,f,c],?_⟩;have p:bv g≠some 0:=λe=>by
  rcases j.nodes with⟨_,rfl⟩|⟨id,I,J,rfl,k⟩
  ·cases e
  simp only[bv,aA]at e;subst e;rw[m]at k;have:=congrArg List.length (VObj.cells.inj (Option.some.inj k)).1;rw[nO]at this;simp at this;omega
 have A:RowN (pt s 0 (.cells [g] .live)) g (fg l F).1:=j.nodes.keep (Keep.set _ _ _) (.inr p);have:=GZ A o_ 0;rw[this,show((fg l F).1,(0:Int))=fg l F from by rw[<-z]]
theorem Ov(l:List Dm) (F:Nat) (x:Ext) (hs:∀d∈l,gy d) (hl:l.length<4000000) (h:H):ak C h (.func 9 []) (some [.isl (l.map dG) x,.int .i64 F])=some (Gm (fg l F),h):=aX (args':=[bB l,.int .i64 F]) rfl rfl s_ (W3 l F hs hl)
theorem PB(t:T) (hc:∀k∈t.kids,∀n:Int,n<4000000->az C 62 [enc k,.int .i64 n]=some (.int .i64 (jE k n))) (n:Int) (hn:n<4000000):az C 62 [enc t,.int .i64 n]=some (.int .i64 (jE t n)):=by
 refine ay func62 rfl λR hR=>?_
 simp +contextual [go_sem,aM,tO,nu];refine Ife_iff.2 ⟨λh1=>?_,λh1=>?_⟩
 ·simp[go_sem];refine hR ⟨_,rfl,?_⟩;have:jE t n = -1:=by rw[xt,if_pos h1]
  simp[go_sem,this];exact aK rfl rfl
 have hb:jE t n=gU t.kids (n-1):=by rw[xt,if_neg h1]
 have w1:IntKind.i64.wrap (n-1)=n-1:=av o_;simp +contextual [go_sem,w1];refine bL (aBr t n) t.kids.length ⟨0,n-1,rfl,aN _,rfl,g_,g_,g_,o_,o_,hb.symm⟩ ?_;rintro m s h ⟨k,c,rfl,hk,rfl,g2,g1,g5,hc0,hcn,hd⟩;by_cases hlt:k<t.kids.length
 ·have hlt':(k:Int)<t.kids.length:=o_;have hix:=kM t.kids k hlt .unk;have ck:∀h,ak C h (.func 62 []) (some [enc t.kids[k],.int .i64 c])=some (.int .i64 (jE t.kids[k] c),h):=λh=>aX (Ah _ _) (by simp[aq,mC]) s_ (hc _ (aF hlt) c o_)
  have hbl:=ve t.kids[k] c;have w2:=wS k o_;have hsz:=size_kids t.kids[k];rw[aI hlt,gU]at hd;by_cases h2:jE t.kids[k] c<0
  ·rw[if_pos h2]at hd;simp[go_sem,tc,jh,dX,g1,g2,g5,hlt',hix,gd,ck,h2];refine hR ⟨_,rfl,?_⟩;simp[go_sem,<-hd];exact aK rfl rfl
  ·rw[if_neg h2]at hd
   have:=hbl.2 (by omega)
   simp[go_sem,tc,jh,dX,g1,g2,g5,hlt',hix,gd,ck,h2,-Int.natCast_add,w2]
   exact⟨t.kids.length-(k+1),by omega,k+1,_,rfl,hlt,rfl,by simp[go_sem,g2],by simp[go_sem],by simp[go_sem],by omega,by omega,hd⟩
 have:k=t.kids.length:=o_;subst this;rw[ae,gU]at hd;simp[go_sem,tc,jh,dX,g1,g2,g5];refine hR ⟨_,rfl,?_⟩;simp[go_sem,<-hd];exact aK rfl rfl
theorem Dw(t:T):∀n:Int,n<4000000->az C 62 [enc t,.int .i64 n]=some (.int .i64 (jE t n)):=by
 induction t using T.ind with
 |_ t a=>exact PB t a
theorem R5(t:T) (n:Int) (hn:n<4000000) (h:H):ak C h (.func 62 []) (some [enc t,.int .i64 n])=some (.int .i64 (jE t n),h):=aX (Ah _ _) (by simp[aq,mC]) s_ (Dw t n hn)
theorem TW(l:Lq) (c n:Int) (hn:n<4000000) (hn0:0<=n):az C 27 [aM l,.int .i64 c,.int .i64 n]=some (.bool (sX l c n)):=by
 refine ay func27 rfl λR i=>?_
 simp +contextual [go_sem,aM,dX];refine Ife_iff.2 ⟨λu=>?_,λu=>?_⟩
 ·simp[go_sem];refine i ⟨_,rfl,?_⟩;have:sX l c n=false:=by simp[sX];omega
  simp[go_sem,this];exact aK rfl rfl
 have q:sX l c n=decide (0<=gU l n):=by simp[sX,show(l.length:Int)<=c by omega]
 simp +contextual [go_sem];refine bL (NI9 l n) l.length ⟨0,n,rfl,aN _,rfl,by simp[go_sem,aM],g_,g_,o_,o_,rfl⟩ ?_;rintro m s h ⟨k,c,rfl,y,rfl,e,r,j,o,v,b⟩;simp only[aM]at e;by_cases d:k<l.length
 ·have a:(k:Int)<l.length:=o_;have f:=kM l k d .unk;have t:=R5 l[k] c o_;have p:=ve l[k] c;have w:=wS k o_;have x:=size_kids l[k];rw[aI d,gU]at b;by_cases g:jE l[k] c<0
  ·rw[if_pos g]at b;simp[go_sem,dX,e,r,j,a,f,gd,t,g];refine i ⟨_,rfl,?_⟩;simp[go_sem,q,<-b];exact aK rfl rfl
  rw[if_neg g]at b;have:=p.2 o_;simp[go_sem,dX,e,r,j,a,f,gd,t,g,-Int.natCast_add,w];exact⟨l.length-(k+1),o_,k+1,_,rfl,d,rfl,by simp[go_sem,e,aM],g_,g_,o_,o_,b⟩
 have:k=l.length:=o_;subst this;rw[ae,gU]at b;simp[go_sem,dX,e,j];refine i ⟨_,rfl,?_⟩;simp[go_sem,q,<-b,o];exact aK rfl rfl
theorem R1(l:Lq) (c n:Int) (hn:n<4000000) (hn0:0<=n) (h:H):ak C h (.func 27 []) (some [aM l,.int .i64 c,.int .i64 n])=some (.bool (sX l c n),h):=aX (Ro _ _ _) (by simp[EK,mC]) s_ (TW l c n hn hn0)
theorem Gd{l0:List Dm}{ns:List Nd}{i:Nat}{ks:List Nat}(h:∀n∈ns,NdOk l0 n):∀n∈lU ns i ks,NdOk l0 n:=λn d=>by
 have⟨j,b⟩:=fG.1 d;rw[lU,iw]at b;cases e:ns[j]? with
 |none=>rw[e]at b;cases b
 |some a=>
  rw[e]at b;have c:=h a (ai e);simp only[Option.map_eq_map,bq,aA]at b;subst b;split
  ·exact⟨c.good,c.len,c.val⟩
  exact c
theorem Ix{l0:List Dm}{f:List Nd->List Fm->List Dm->Lb->List Int->NR}(hf:∀ns fs d s p,(∀n∈ns,NdOk l0 n)->NdOk l0 ⟨d,s,[]⟩->∀n∈(f ns fs d s p).ns,NdOk l0 n) (s:Lb) (p:List Int) :
  ∀(l:List Al) (j:Nat) (ns:List Nd) (fs:List Fm) (ks:List Nat),(∀a∈l,NdOk l0 ⟨a.dem,(eI s a.bind).1,[]⟩)->(∀n∈ns,NdOk l0 n)->∀n∈(iL f s p j l ns fs ks).ns,NdOk l0 n
 |[],_,_,_,_,_,h=>h
 |a::l,j,ns,fs,ks,ha,h=>by
  have h1:=hf ns fs a.dem (eI s a.bind).1 (p++[(j:Int)]) h (ha a s_);rw[iL];split
  ·exact h1
  exact Ix hf s p l _ _ _ _ (λb c=>ha b (by simp[c])) h1
theorem Ik{l0:List Dm}(F:Nat):∀(g:Nat) (ns:List Nd) (fs:List Fm) (d:List Dm) (s:Lb) (p:List Int),(∀n∈ns,NdOk l0 n)->NdOk l0 ⟨d,s,[]⟩->∀n∈(fb F g ns fs d s p).ns,NdOk l0 n
 |0,ns,fs,_,_,_,h,_=>h
 |g+1,ns,fs,d,s,p,h,hd=>by
  have h1:∀n∈ns++[(⟨d,s,[]⟩:Nd)],NdOk l0 n:=λn b=>by
   rcases ac.1 b with b|b
   ·exact h n b
   rw[bJ.1 b];exact hd
  rw[fb];split
  ·exact h
  split
  ·exact h1
  split
  ·exact h1
  rename_i i;split
  ·exact h1
  rename_i j;have c:=Ix (Ik F g) s p (cX d).1 0 (ns++[⟨d,s,[]⟩]) fs [] (λa e=>by have f:=ru (by simpa using j) a e;have:=B2 (k:=[]) hd (vv (by simpa using i) a e) f;rw[(oi f).1];exact this) h1
  split
  ·exact c
  exact Gd c
theorem P5{l:List Dm}{F:Nat}(_h:(fg l F).2=0):∀n∈(fg l F).1,NdOk l n:=by
 unfold fg;split
 ·simp
 rename_i q;split
 ·simp
 split
 ·simp
 exact Ik F F [] [] l [] [] s_ (B3 (by simpa using q))
def BO(l:List Dm):Bool:=decide (l.length<=5)&&l.all (λd=>decide (d.knows.length<=20))&&sX (bp l) 110 1000&&decide ((gX (bp l)).length<=30)
def aBj(l:List Dm) (m:Nat) (st:PT) (h:H):Prop:=∃k:Nat,m=l.length-k/\k<=l.length/\h=[]/\st.get 0=bB l/\st.get 5=.int .i64 k/\((l.drop k).all λd=>decide (d.knows.length<=20))=l.all λd=>decide (d.knows.length<=20)
theorem aBD(l:List Dm):az C 7 [bB l,.int .i64 40]=some (.bool (BO l)):=by
 refine ay func7 rfl λR w=>?_
 have fin:∀(p:PT) (h:H) (b:Bool),p.get 4=.bool b->BO l=b->R .ret p h:=λp h b x g=>w ⟨.bool b,by simp[aY,cC,f7,x],by rw[g];exact aK rfl rfl⟩
 have a:=pJ l;simp only[bB]at a;by_cases q:l.length<=5
 ·have s:¬(5:Int)<l.length:=o_;simp +contextual [go_sem,bB,a,s];refine bL (aBj l) l.length ⟨0,rfl,aN _,rfl,by simp[go_sem,bB],g_,rfl⟩ ?_;rintro m p h ⟨k,rfl,A,rfl,i,r,c⟩;simp only[bB]at i;by_cases f:k<l.length
  ·have e:(k:Int)<l.length:=o_;have j:=AU l k f .unk;have y:=wS k o_;rw[aI f,dt]at c;by_cases z:l[k].knows.length<=20
   ·have t:¬(20:Int)<l[k].knows.length:=o_;simp[go_sem,i,r,a,e,j,t,-Int.natCast_add,y];exact⟨l.length-(k+1),o_,k+1,rfl,f,rfl,by simp[go_sem,i,bB],g_,by rw[<-c];simp[z]⟩
   have t:(20:Int)<l[k].knows.length:=o_;simp[go_sem,i,r,a,e,j,t];exact fin _ _ false g_ (by rw[BO,<-c,decide_eq_false z];simp)
  have:k=l.length:=o_;subst this;rw[ae]at c;have n:∀d∈l,d.knows.length<=20:=by simpa using c.symm
  have g:BO l=(sX (bp l) 110 1000&&decide ((gX (bp l)).length<=30)):=by rw[BO,<-c,decide_eq_true q];simp
  have u:=xl l .unk (λd c=>by have:=n d c;omega) o_;have o:=R1 (bp l) 110 1000 o_ o_;simp only[aM]at u o;cases z:sX (bp l) 110 1000 with
  |false=>rw[z]at g o;simp +contextual [go_sem,i,r,a,u,o];exact fin _ _ false g_ (by rw[g];simp)
  |true=>
   have v:sizes (bp l)<4000000:=by simp only[sX,am,decide_eq_true_eq]at z;have:=(nx (bp l) 1000 o_).2 z.2;have:=(nx (bp l) 1000 o_).1;omega
   have c3:=As (bp l) .unk v;simp only[aM]at c3;rw[z]at g o;simp +contextual [go_sem,i,r,a,u,o,c3];exact fin _ _ (decide (((gX (bp l)).length:Int)<=30)) g_ (by rw[g,ee];congr 1;apply propext;omega)
 have s:(5:Int)<l.length:=o_;simp +contextual [go_sem,bB,a,s];exact fin _ _ false g_ (by rw[BO,decide_eq_false q];simp)
theorem O1(l:List Dm) (x:Ext) (h:H):ak C h (.func 7 []) (some [.isl (l.map dG) x,.int .i64 40])=some (.bool (BO l),h):=aX (args':=[bB l,.int .i64 40]) rfl rfl s_ (aBD l)
theorem K6{l:List Dm}(h:BO l=true):l.length<=5/\∀d∈l,gy d:=by
 simp only[BO,sX,am,decide_eq_true_eq,bI]at h;have⟨⟨⟨e,f⟩,i,g⟩,j⟩:=h;have k:=(nx (bp l) 1000 o_).2 g;have c:∀t∈bp l,t.size<4000000:=λt a=>by have:=mG a;omega
 exact⟨e,λd b=>⟨λt a=>c t (qt b t a),c _ (nl b),by have:=f d b;omega⟩⟩
def yr(b:Bool):Nat->List Bool->Int
 |_,[]=>-1
 |k,a::l=>if a=b then k else yr b (k+1) l
theorem Ew(b:Bool):∀(l:List Bool) (k:Nat),decide (0<=yr b k l)=l.contains b
 |[],k=>by simp[yr]
 |a::l,k=>by
  rw[yr,pZ];by_cases h:a=b
  ·rw[if_pos h];simp[h]
  rw[if_neg h,Ew b l (k+1)];have:(b==a)=false:=by simpa using λe=>h e.symm
  rw[this,ng]
theorem X9(x y:Operand) (a b:Bool):iN C.P .eql 4 x y (.bool a) (.bool b)=some (.bool (decide (a=b))):=by
 have e:∀a b:Bool,iN C.P .eql 4 x y (.bool a) (.bool b)=some (.bool (decide (a=b))):=λa b=>by cases a<;>cases b<;>kernel_rfl
 exact e a b
theorem Qo(l:List Bool) (x:Ext):fB C.P 115 (.isl (dP l) x)=some (.int .i64 l.length):=by simp[fB,Jn,dP]
theorem Xe(b:Bool) (h:H):aW C.P h 4 (.iptr (.bool b) 0)=some (.bool b):=by have:(AV.bool b).cells=[.bool b]:=rfl;simp[aW,aZ,a4,s4,this]
def aBh(l:List Bool) (b:Bool) (m:Nat) (st:PT) (h:H):Prop:=∃k:Nat,m=l.length-k/\k<=l.length/\h=[]/\st.get 0=.isl (dP l) .unk/\st.get 1=.bool b/\st.get 7=.int .i64 l.length/\st.get 8=.int .i64 k/\yr b k (l.drop k)=yr b 0 l
theorem Np(l:List Bool) (b:Bool) (hl:l.length<4000000):az C 117 [.isl (dP l) .unk,.bool b]=some (.int .i64 (yr b 0 l)):=by
 refine hJ rfl func117 rfl k_ (by simp[f117]) λR q=>?_
 have fin:∀(e:Ex) (i:PT) (h:H) (c:Int),e=.normal\/e=.ret->i.get 4=.int .i64 c->yr b 0 l=c->R e i h:=λe i h c a r s=>q _ _ _ a ⟨.int .i64 c,by simp[aY,cC,f117,r],by rw[s];exact aK rfl rfl⟩
 have t:=Qo l .unk;simp[go_sem,t];refine bL (aBh l b) l.length ⟨0,rfl,aN _,rfl,g_,g_,g_,g_,rfl⟩ ?_;rintro m i h ⟨k,rfl,x,rfl,o,p,j,n,a⟩;by_cases f:k<l.length
 ·have d:(k:Int)<l.length:=o_;have g:=Nu l .unk k f;have u:=wS k o_;rw[aI f,yr]at a;generalize y:l[k]=v at *;by_cases z:v=b
  ·subst z;rw[if_pos rfl]at a;simp[go_sem,o,p,j,n,d,g,Xe,X9];exact fin _ _ _ k (.inr rfl) g_ a.symm
  rw[if_neg z]at a;have w:¬b=v:=λe=>z e.symm
  simp[go_sem,o,p,j,n,d,g,Xe,X9,w,-Int.natCast_add,u];exact⟨l.length-(k+1),o_,k+1,rfl,f,rfl,g_,g_,g_,g_,a⟩
 have:k=l.length:=o_;subst this;rw[ae,yr]at a;simp[go_sem,j,n];exact fin _ _ _ (-1) (.inr rfl) g_ a.symm
theorem He(l:List Bool) (b:Bool) (hl:l.length<4000000):az C 80 [.isl (dP l) .unk,.bool b]=some (.bool (l.contains b)):=by
 refine ay func80 rfl λR a=>?_
 have c:∀h,ak C h (.func 117 []) (some [.isl (dP l) .unk,.bool b])=some (.int .i64 (yr b 0 l),h):=λh=>aX (args':=[.isl (dP l) .unk,.bool b]) rfl rfl s_ (Np l b hl)
 have e:=Ew b l 0;simp[go_sem,c];exact a ⟨.bool (decide (0<=yr b 0 l)),by simp[aY,cC,f80,go_sem],by rw[e];exact aK rfl rfl⟩
theorem NV(ns:List Nd) (x:Ext):fB C.P 29 (.isl (ns.map E8) x)=some (.int .i64 ns.length):=by simp[fB,u29]
theorem wv:iH C.P 63=some (.agg [.isl [] .full,.isl [] .full,.isl [] .full]):=k_
theorem VF(i:Nat):bF C.P 63 (.ptr i 0) 0=some (.ptr i 0):=k_
theorem VE(i:Nat):bF C.P 63 (.ptr i 0) 1=some (.ptr i 1):=k_
theorem VD(i:Nat):bF C.P 63 (.ptr i 0) 2=some (.ptr i 2):=k_
theorem VJ(i:Nat):bF C.P 31 (.ptr i 0) 0=some (.ptr i 0):=k_
theorem dU(v:AV):ldM C.P 29 0 (some (.cells [v] .live))=some v:=by simp[ldM,aZ,a29,s29]
theorem iD(v:AV) (h:H):nR C.P h 31 (.agg [v])=some (.ptr h.length 0,h++[.cells [v] .live]):=by simp[nR,aV,s31,bf]
theorem rY(l:List Int) (x:Ext):fB C.P 53 (.isl (bP l) x)=some (.int .i64 l.length):=by simp[fB,u53,bP]
theorem AT(l:List Int) (k:Nat) (hk:k<l.length) (x:Ext):bH C.P 53 (.isl (bP l) x) (.int .i64 k)=some (.iptr (.int .i64 l[k]) 0):=by have:(AV.int .i64 l[k]).cells.length=1:=rfl;simp[bH,u53,s3,bP,hk,this]
attribute [go_sem] VF VE VD VJ wv NV rY
theorem J0{h:H}{id:Nat}{kn:List Bool}(hid:h[id]?=some (.cells (dP kn) .live)) (h0:0<kn.length) (hc:kn.length<900000) (b:Bool) (off:Nat) (ho:off=1\/(off=0/\kn.length=1)) (cap:Option Nat) :
  cY h dD [.msl id off 1 (kn.length-1) cap,.bool b]=[id]/\gE (Go.V.freeze h [id]) dD [.msl id off 1 (kn.length-1) cap,.bool b]=some [.isl (dP (kn.drop 1)) .unk,.bool b]:=by
 obtain⟨m,a⟩:∃m,dD=m+5:=⟨999995,rfl⟩
 have c:m=999995:=by unfold dD at a;omega
 have d:(Go.V.freeze h [id])[id]?=some (.cells (dP kn) .frozen):=by rw[mI,hid];simp
 have e:(dP kn).length=kn.length:=by simp[dP]
 have⟨k,f⟩:=jq (h:=h) (qC kn) (m+2) o_;have⟨g,l⟩:=jq (h:=Go.V.freeze h [id]) (qC kn) (m+2) o_;rw[a];constructor
 ·simp only[cY,iW,hid,f,bm]
 simp only[gE,fc,d,g];rw[if_pos o_];congr 3
 have i:(dP kn).drop 1=dP (kn.drop 1):=by simp[dP]
 rcases ho with rfl|⟨rfl,j⟩
 ·rw[i];have:=th (kn.drop 1);rw[dJ]at this;rw[this]
 rw[j,eH (show kn.length<=1 by omega)];rfl
theorem wj{h:H}{id:Nat}{kn:List Bool}(hid:h[id]?=some (.cells (dP kn) .live)) (h0:0<kn.length) (hc:kn.length<900000) (b:Bool) (off:Nat) (ho:off=1\/(off=0/\kn.length=1)) (cap:Option Nat) :
  ak C h (.func 80 []) (some [.msl id off 1 (kn.length-1) cap,.bool b])=some (.bool ((kn.drop 1).contains b),h):=by
 have⟨a,c⟩:=J0 hid h0 hc b off ho cap;exact tn k_ rfl a c (He (kn.drop 1) b (by rw[dJ];omega)) rfl
structure Nz where
 dem:List Dm
 bind:Lb
 kids:List Int
def tI(n i:Nat):List Bool->List Int->Option (List Bool)
 |m,[]=>some m
 |m,k::ks=>if k<=i\/(n:Int)<=k\/m.getD k.toNat false=true then none else tI n i (m.set k.toNat true) ks
def nr(n:Nat):Nat->List Bool->List Nz->Option (List Bool)
 |_,m,[]=>some m
 |i,m,a::l=>match tI n i m a.kids with
  |none=>none
  |some m'=>nr n (i+1) m' l
def ku(ns:List Nz):Bool:=decide (0<ns.length)&&decide (ns.length<=20000)&&match nr ns.length 0 (List.replicate ns.length false) ns with
 |none=>false
 |some m=>!(m.drop 1).contains false
def inZ(n:Nat):Nat->List Nz->Bool
 |_,[]=>true
 |i,a::l=>a.kids.all (λk=>decide ((i:Int)<k)&&decide (k<n))&&inZ n (i+1) l
def dQ(ns:List Nz):List Int:=ns.flatMap (·.kids)
def lW(ns:List Nz):Bool:=decide (0<ns.length)&&decide (ns.length<=20000)&&inZ ns.length 0 ns&&(List.range' 1 (ns.length-1)).all λk=>decide ((dQ ns).count (k:Int)=1)
theorem B7{n i:Nat}:∀ {ks:List Int}{m m':List Bool},tI n i m ks=some m'->∀j:Nat,m'.getD j false=true->m.getD j false=true\/(j:Int)∈ks
 |[],m,m',h,j,hj=>by rw[tI]at h;cases h;exact .inl hj
 |k::ks,m,m',h,j,hj=>by
  rw[tI]at h;split at h
  ·cases h
  rename_i q;rcases B7 h j hj with h1|h1
  ·rw[bK,dq]at h1;by_cases e:k.toNat=j
   ·right;rw[show(j:Int)=k by omega];exact cJ
   rw[if_neg e]at h1;exact .inl (by rw[bK];exact h1)
  exact .inr (bZ _ h1)
theorem B9{n:Nat}:∀ {l:List Nz}{i:Nat}{m m':List Bool},nr n i m l=some m'->∀j:Nat,m'.getD j false=true->m.getD j false=true\/(j:Int)∈dQ l
 |[],i,m,m',h,j,hj=>by rw[nr]at h;cases h;exact .inl hj
 |a::l,i,m,m',h,j,hj=>by
  rw[nr]at h;split at h
  ·cases h
  rename_i m1 e;rcases B9 h j hj with h1|h1
  ·rcases B7 e j h1 with h2|h2
   ·exact .inl h2
   exact .inr (bR.2 ⟨a,s_,h2⟩)
  have⟨b,hb,hk⟩:=bR.1 h1;exact .inr (bR.2 ⟨b,by simp[hb],hk⟩)
theorem B6{n i:Nat}:∀ {ks:List Int}{m m':List Bool},tI n i m ks=some m'->m'.length=m.length
 |[],m,m',h=>by rw[tI]at h;cases h;rfl
 |k::ks,m,m',h=>by
  rw[tI]at h;split at h
  ·cases h
  rw[B6 h];simp
theorem B8{n:Nat}:∀ {l:List Nz}{i:Nat}{m m':List Bool},nr n i m l=some m'->m'.length=m.length
 |[],i,m,m',h=>by rw[nr]at h;cases h;rfl
 |a::l,i,m,m',h=>by
  rw[nr]at h;split at h
  ·cases h
  rename_i m1 e;rw[B8 h,B6 e]
theorem Eh{ns:List Nz}(h:ku ns=true){j:Nat}(h1:1<=j) (h2:j<ns.length):(j:Int)∈dQ ns:=by
 unfold ku at h;simp only[am]at h;have⟨_,h⟩:=h;split at h
 ·cases h
 rename_i m e;have a:=B8 e;rw[List.length_replicate]at a;have b:m[j]' o_=true:=by
  have:false∉m.drop 1:=by simpa using h
  cases q:m[j]' o_
  ·exact absurd (kh.2 ⟨j-1,by rw[dJ];omega,by rw[List.getElem_drop];simpa[show 1+(j-1)=j by omega]using q⟩) this
  rfl
 rcases B9 e j (by rw[bK,aC o_];exact b)with q|q
 ·rw[bK,List.getElem?_replicate]at q;split at q<;>cases q
 exact q
def gx(ns:List Nz) (i:Nat):List Nz:=ns.modify i λn=>⟨n.dem,n.bind,n.kids.dropLast⟩
theorem DK{n:Nat}:∀ {l:List Nz}{i:Nat},inZ n i l=true->∀(j:Nat) (a:Nz),l[j]?=some a->∀k∈a.kids,((i+j:Nat):Int)<k/\k<n
 |[],_,_,j,a,ha,_,_=>by simp at ha
 |b::l,i,h,j,a,ha,k,hk=>by
  rw[inZ,am]at h;cases j with
  |zero=>simp only[be,aA]at ha;subst ha;have:=bI.1 h.1 k hk;simpa using this
  |succ j=>have:=DK h.2 j a (by simpa using ha) k hk;rwa[show i+1+j=i+(j+1) by omega]at this
theorem yX:∀(ns:List Nz) (i:Nat) (a:Nz) (c:Int),ns[i]?=some a->a.kids.getLast?=some c->(dQ ns).count c=(dQ (gx ns i)).count c+1
 |[],i,a,c,h,_=>by simp at h
 |b::l,0,a,c,h,hc=>by
  simp only[be,aA]at h;subst h;have hd:b.kids=b.kids.dropLast++[c]:=by have⟨g,e⟩:=List.getLast?_eq_some_iff.1 hc;rw[e,List.dropLast_concat]
  have d:dQ (b::l)=b.kids++dQ l:=rfl;have f:dQ (gx (b::l) 0)=b.kids.dropLast++dQ l:=rfl;rw[d,f,gl,gl];conv=>lhs;rw[hd,gl]
  simp;omega
 |b::l,i+1,a,c,h,hc=>by have:=yX l i a c (by simpa using h) hc;have d:dQ (b::l)=b.kids++dQ l:=rfl;have f:dQ (gx (b::l) (i+1))=b.kids++dQ (gx l i):=rfl;rw[d,f,gl,gl];omega
theorem zo{ns:List Nz}{i:Nat}{a:Nz}(h:lW ns=true) (ha:ns[i]?=some a) (hk:a.kids≠[]):ku (gx ns i)=false:=by
 cases q:ku (gx ns i)
 ·rfl
 exfalso;obtain⟨c,f⟩:∃c,a.kids.getLast?=some c:=by
  cases e:a.kids.getLast? with
  |none=>exact absurd (List.getLast?_eq_none_iff.1 e) hk
  |some c=>exact⟨c,rfl⟩
 unfold lW at h;simp only[am]at h;have⟨⟨⟨_,_⟩,k⟩,l⟩:=h;have m:=DK k i a ha c (List.mem_of_getLast? f);have b:c=((c.toNat:Nat):Int):=o_;have d:=bI.1 l c.toNat (kN.2 ⟨o_,o_⟩);rw[<-b]at d;have d:=of_decide_eq_true d;have n:=yX ns i a c ha f;have g:=Eh q (j:=c.toNat) o_ (by rw[gx,List.length_modify];omega);rw[<-b]at g;have:=List.count_pos_iff.2 g;omega
def eZ(n:Nz):AV:=.agg [bB n.dem,binds n.bind,.isl (bP n.kids) .unk]
def bi(l:List Nz):AV:=.isl (l.map eZ) .unk
theorem kZ(n:Nz):(eZ n).cells=[bB n.dem,binds n.bind,.isl (bP n.kids) .unk]:=rfl
theorem NU(ns:List Nz) (x:Ext):fB C.P 29 (.isl (ns.map eZ) x)=some (.int .i64 ns.length):=by simp[fB,u29]
theorem qR(ns:List Nz) (k:Nat) (hk:k<ns.length) (x:Ext):bH C.P 29 (.isl (ns.map eZ) x) (.int .i64 k)=some (.iptr (eZ ns[k]) 0):=by simp[bH,u29,s63,hk,kZ]
theorem Xj(n:Nz) (h:H):aW C.P h 63 (.iptr (eZ n) 0)=some (eZ n):=by simp[aW,aZ,a63,s63,kZ];rfl
def nz(n:Nz):LA:=[bB n.dem,binds n.bind,.isl (bP n.kids) .unk]
theorem W4(h:H) (i:Nat) (n:Nz) (a b c:AV):stM C.P 63 (eZ n) 0 h i (some (.cells [a,b,c] .live))=some (pt h i (.cells (nz n) .live)):=sq s63 h i _ _ rfl rfl
theorem Ug(n:Nz):ldM C.P 22 0 (some (.cells (nz n) .live))=some (bB n.dem):=by simp[ldM,aZ,a22,s22,nz]
theorem Uf(n:Nz):ldM C.P 45 1 (some (.cells (nz n) .live))=some (binds n.bind):=by simp[ldM,aZ,a45,s45,nz]
theorem Ue(n:Nz):ldM C.P 53 2 (some (.cells (nz n) .live))=some (.isl (bP n.kids) .unk):=by simp[ldM,aZ,a53,s53,nz]
attribute [go_sem] W4 Ug Uf Ue Xj NU
def EA(n i:Nat) (mk:List Bool) (ks:List Int) (l:List Nz):Option (List Bool):=match tI n i mk ks with
 |none=>none
 |some m'=>nr n (i+1) m' l
theorem MT(n i:Nat) (mk:List Bool) (l:List Nz):EA n i mk [] l=nr n (i+1) mk l:=rfl
theorem zf{n i:Nat}{k:Int}{mk:List Bool}{ks:List Int}{l:List Nz}(h:k<=i\/(n:Int)<=k\/mk.getD k.toNat false=true):EA n i mk (k::ks) l=none:=by rw[EA,tI,if_pos h]
theorem P6{n i:Nat}{k:Int}{mk:List Bool}{ks:List Int}{l:List Nz}(h:¬(k<=i\/(n:Int)<=k\/mk.getD k.toNat false=true)):EA n i mk (k::ks) l=EA n i (mk.set k.toNat true) ks l:=by rw[EA,tI,if_neg h];rfl
def aBy(ns:List Nz) (m:Nat) (st:PT) (h:H):Prop:=∃(i id:Nat) (mk:List Bool),m=ns.length-i/\i<=ns.length/\st.get 1=.ptr 0 0/\st.get 3=.msl id 0 1 ns.length (some ns.length)/\st.get 23=.isl (ns.map eZ) .unk/\st.get 24=.int .i64 ns.length/\st.get 25=.int .i64 i /\
 h[0]?=some (.cells [bi ns] .live)/\h[id]?=some (.cells (dP mk) .live)/\id≠0/\mk.length=ns.length/\nr ns.length i mk (ns.drop i)=nr ns.length 0 (List.replicate ns.length false) ns
def aBu(ns:List Nz) (i id:Nat) (ks:List Int) (m:Nat) (st:PT) (h:H):Prop:=∃(j:Nat) (mk:List Bool),m=ks.length-j/\j<=ks.length/\st.get 1=.ptr 0 0/\st.get 3=.msl id 0 1 ns.length (some ns.length)/\st.get 4=.int .i64 i/\st.get 23=.isl (ns.map eZ) .unk/\st.get 24=.int .i64 ns.length/\st.get 25=.int .i64 i/\st.get 31=.isl (bP ks) .unk/\st.get 32=.int .i64 ks.length/\st.get 33=.int .i64 j /\
 h[0]?=some (.cells [bi ns] .live)/\h[id]?=some (.cells (dP mk) .live)/\id≠0/\mk.length=ns.length/\EA ns.length i mk (ks.drop j) (ns.drop (i+1))=nr ns.length 0 (List.replicate ns.length false) ns
theorem Kg(ns:List Nz) (hks:∀n∈ns,n.kids.length<4000000):az C 43 [.agg [bi ns]]=some (.bool (ku ns)):=by
 refine ay func43 rfl λR hR=>?_
 have fin:∀(L:PT) (h:H) (b:Bool),L.get 2=.bool b->ku ns=b->R .ret L h:=λL h b h4 hb=>hR ⟨.bool b,by simp[aY,cC,f43,h4],by rw[hb];exact aK rfl rfl⟩
 by_cases Q:0<ns.length
 ·have x:¬ns=[]:=λe=>by rw[e]at Q;simp at Q
  by_cases q1:ns.length<=20000
  ·have E:¬(20000:Int)<ns.length:=o_;have K:ku ns=match nr ns.length 0 (List.replicate ns.length false) ns with
    |none=>false
    |some m=>!(m.drop 1).contains false:=by rw[ku,decide_eq_true Q,decide_eq_true q1];rfl
   have U:=λh=>TA false h ns.length Q o_
   simp +contextual [go_sem,bi,iD,dU,x,E,U];refine bL (aBy ns) ns.length ⟨0,1,List.replicate ns.length false,rfl,aN _,g_,g_,g_,g_,g_,rfl,rfl,o_,s_,rfl⟩ ?_;rintro m L h ⟨i,id,r,rfl,hi,F,B,I,s,p,D,c,f,g,d⟩;by_cases y:i<ns.length
   ·have M:(i:Int)<ns.length:=o_;have V:=qR ns i y .unk;have w2:=wS i o_;have q3:=hks _ (aF y);rw[aI y,nr]at d;have d:EA ns.length i r ns[i].kids (ns.drop (i+1))=nr ns.length 0 (List.replicate ns.length false) ns:=d;have t:=(aB.1 c).1;generalize hn:ns[i]=a at *;simp[go_sem,I,s,p,M,V,aV];refine bL (aBu ns i id a.kids) a.kids.length ⟨0,r,rfl,aN _,g_,g_,g_,g_,g_,g_,g_,g_,g_,ga D,ga c,f,g,d⟩ ?_;clear F B I s p D c d g;clear t;rintro m2 L h ⟨j,r,rfl,hj,F,B,S,I,s,p,z,u,v,D,c,f,g,d⟩;have t:=(aB.1 c).1;by_cases J:j<a.kids.length
    ·have l:(j:Int)<a.kids.length:=o_;have o:=AT a.kids j J .unk;have w3:=wS j o_;rw[aI J]at d;generalize hk:a.kids[j]=k at *;by_cases X:k<=i
     ·have w:k<=(i:Int):=X;rw[zf (.inl X)]at d;simp +contextual [go_sem,F,B,S,z,u,v,l,o,w];exact fin _ _ false g_ (by rw[K,<-d])
     have w:¬k<=(i:Int):=X;by_cases Y:(ns.length:Int)<=k
     ·have A:(ns.length:Int)<=k:=Y;rw[zf (.inr (.inl Y))]at d;simp +contextual [go_sem,F,B,S,z,u,v,l,o,w,A,G D,dU,bi];exact fin _ _ false g_ (by rw[K,<-d])
     obtain⟨q,rfl⟩:=fW (show 0<=k by omega);have A:¬(ns.length:Int)<=q:=Y;have Z:q<ns.length:=o_;have hx:=uR (id:=id) (cap:=some ns.length) Z;have N:=CE (kn:=r) (k:=q) o_;have O:r.getD q false=r[q]' o_:=by rw[bK,aC o_];rfl
     have q':=IY (kn:=r) (k:=q) true h id o_;generalize hb:r[q]' o_=b at *;cases b with
     |true=>rw[zf (.inr (.inr (by rw[fE];exact O)))]at d;simp +contextual [go_sem,F,B,S,z,u,v,l,o,w,A,G D,dU,bi,hx,G c,N];exact fin _ _ false g_ (by rw[K,<-d])
     |false=>
      rw[P6 (by rw[fE,O];simp;omega),fE]at d;simp +contextual [go_sem,F,B,S,z,u,v,l,o,w,A,G D,dU,bi,hx,G c,N,q',-Int.natCast_add,w3];refine⟨a.kids.length-(j+1),o_,j+1,r.set q true,rfl,J,g_,g_,g_,g_,g_,g_,g_,g_,g_,?_,?_,f,by simpa using g,d⟩
      ·rw[pt,aE f];exact D
      rw[pt,aH t]
    have:j=a.kids.length:=o_;subst this;rw[ae,MT]at d;simp[go_sem,p,u,v,-Int.natCast_add,w2];exact⟨ns.length-(i+1),o_,i+1,id,r,rfl,y,g_,g_,g_,g_,g_,D,c,f,g,d⟩
   have:i=ns.length:=o_;subst this;rw[ae,nr]at d;rw[<-d]at K;by_cases q2:ns.length=1
   ·have cc:=wj c o_ o_ false 0 (.inr ⟨rfl,o_⟩) (some (ns.length-1));have sl:fP C.P 115 (.msl id 0 1 ns.length (some ns.length)) (some (.int .i64 1)) none none=some (.msl id 0 1 (r.length-1) (some (ns.length-1))):=by simp[fP,Jn,s4,mb,qy,g,q2]
    simp[go_sem,B,s,p,sl,cc];exact fin _ _ _ g_ K
   have cc:=wj c o_ o_ false 1 (.inl rfl) (some (ns.length-1));have sl:fP C.P 115 (.msl id 0 1 ns.length (some ns.length)) (some (.int .i64 1)) none none=some (.msl id 1 1 (r.length-1) (some (ns.length-1))):=by have h1:(1:Int)<=ns.length:=o_;simp[fP,Jn,s4,mb,qy,g,q2,h1]
   simp[go_sem,B,s,p,sl,cc];exact fin _ _ _ g_ K
  have E:(20000:Int)<ns.length:=o_;simp +contextual [go_sem,bi,iD,dU,x,E];exact fin _ _ false g_ (by rw[ku,decide_eq_false q1];simp)
 have x:ns=[]:=bt o_;subst x;have e0:fB C.P 29 (.isl [] .unk)=some (.int .i64 0):=by simpa using NV [] .unk
 simp +contextual [go_sem,bi,iD,dU,e0];exact fin _ _ false g_ rfl
def sZ(n:Nat) (pre:List Int):List Int:=(List.range n).map λk:Nat=>((pre.count (k:Int):Nat):Int)
theorem wd(n:Nat) (pre:List Int):(sZ n pre).length=n:=by simp[sZ]
theorem tg{n:Nat}(pre:List Int){k:Nat}(hk:k<n):(sZ n pre)[k]'(by rw[wd];exact hk)=((pre.count (k:Int):Nat):Int):=by simp[sZ]
theorem Ob{n:Nat}(pre:List Int){k:Nat}(_hk:k<n):(sZ n pre).set k (((pre.count (k:Int):Nat):Int)+1)=sZ n (pre++[(k:Int)]):=by
 apply List.ext_getElem
 ·simp[sZ]
 intro j a b;rw[ld,wd]at a;rw[List.getElem_set,tg _ a];by_cases e:k=j
 ·subst e;rw[if_pos rfl,tg _ a,gl];simp
 rw[if_neg e,tg _ a,gl];have:([(k:Int)].count (j:Int))=0:=List.count_eq_zero.2 (by simp;omega);rw[this];rfl
theorem Oc(n:Nat):sZ n []=List.replicate n 0:=by apply List.ext_getElem<;>simp[sZ]
theorem aBM:hG C.P 3=some 8:=k_
theorem aAj(h:H) (n:Nat) (h0:0<n) (hn:n<=1000000):gN C.P false h 53 (.int .i64 n) (.int .i64 n)=some (.msl h.length 0 1 n (some n),h++[.cells (bP (sZ n [])) .live]):=by
 have b:(n:Int)<=1073741824:=o_;have a:(n:Int)*8<=9223372036854775807:=o_;have c:¬n=0:=o_;have e:(List.replicate n [AV.int .i64 0]).flatten=bP (sZ n []):=by
  rw[Oc];clear h0 hn b c a;induction n with
  |zero=>rfl
  |succ n d=>rw[jO,List.flatten_cons,d,jO];rfl
 have f:(AV.int .i64 0).cells=[.int .i64 0]:=rfl;have g:iH C.P 3=some (.int .i64 0):=k_;have i:gH C.P 3=true:=k_;simp[gN,u53,s3,aBM,g,i,b,c,f,e];try omega
theorem Nr{id n k:Nat}{cap:Option Nat}(hk:k<n):bH C.P 53 (.msl id 0 1 n cap) (.int .i64 k)=some (.ptr id k):=by simp[bH,u53,s3,hk]
theorem TM{l:List Int}{k:Nat}(hk:k<l.length):ldM C.P 3 k (some (.cells (bP l) .live))=some (.int .i64 l[k]):=by simp[ldM,aZ,a3,s3,bP,hk]
theorem W6{l:List Int}{k:Nat}(b:Int) (h:H) (i:Nat) (hk:k<l.length):stM C.P 3 (.int .i64 b) k h i (some (.cells (bP l) .live))=some (pt h i (.cells (bP (l.set k b)) .live)):=by rw[sr s3 h i k _ _ rfl (by simpa[bP]using hk)];simp[bP,List.map_set]
theorem RM(e:AV):bF C.P 63 (.iptr e 0) 2=some (.iptr e 2):=k_
theorem RN(e:AV):bF C.P 63 (.iptr e 0) 1=some (.iptr e 1):=k_
theorem RO(e:AV):bF C.P 63 (.iptr e 0) 0=some (.iptr e 0):=k_
theorem Xb(n:Nz) (h:H):aW C.P h 53 (.iptr (eZ n) 2)=some (.isl (bP n.kids) .unk):=by simp[aW,aZ,a53,s53,kZ]
theorem Xc(n:Nz) (h:H):aW C.P h 45 (.iptr (eZ n) 1)=some (binds n.bind):=by simp[aW,aZ,a45,s45,kZ]
theorem Xd(n:Nz) (h:H):aW C.P h 22 (.iptr (eZ n) 0)=some (bB n.dem):=by simp[aW,aZ,a22,s22,kZ]
attribute [go_sem] RO RN RM Xd Xc Xb
theorem yg:∀ {l:List Nz},(∀n∈l,n.kids.length<4000000)->(dQ l).length<=l.length*4000000
 |[],_=>by simp[dQ]
 |a::l,h=>by
  have h1:=h a s_;have c:=yg (l:=l) λn b=>h n (by simp[b])
  have e:dQ (a::l)=a.kids++dQ l:=rfl;rw[e,aL,aG];omega
def aBz(ns:List Nz) (m:Nat) (st:PT) (h:H):Prop:=∃(i id:Nat),m=ns.length-i/\i<=ns.length/\st.get 1=.ptr 0 0/\st.get 3=.int .i64 ns.length/\st.get 4=.msl id 0 1 ns.length (some ns.length)/\st.get 5=.int .i64 i /\
 h[0]?=some (.cells [bi ns] .live)/\h[id]?=some (.cells (bP (sZ ns.length (dQ (ns.take i)))) .live)/\id≠0/\inZ ns.length i (ns.drop i)=inZ ns.length 0 ns
def aBv(ns:List Nz) (i id:Nat) (a:Nz) (m:Nat) (st:PT) (h:H):Prop:=∃(j:Nat),m=a.kids.length-j/\j<=a.kids.length/\st.get 1=.ptr 0 0/\st.get 3=.int .i64 ns.length/\st.get 4=.msl id 0 1 ns.length (some ns.length)/\st.get 5=.int .i64 i/\st.get 6=.int .i64 j /\
 h[0]?=some (.cells [bi ns] .live)/\h[id]?=some (.cells (bP (sZ ns.length (dQ (ns.take i)++a.kids.take j))) .live)/\id≠0/\((a.kids.drop j).all (λk=>decide ((i:Int)<k)&&decide (k<ns.length))&&inZ ns.length (i+1) (ns.drop (i+1)))=inZ ns.length 0 ns
def aBt(ns:List Nz) (id:Nat) (m:Nat) (st:PT) (h:H):Prop:=∃(j:Nat),m=ns.length-j/\1<=j/\j<=ns.length/\st.get 3=.int .i64 ns.length/\st.get 4=.msl id 0 1 ns.length (some ns.length)/\st.get 8=.int .i64 j /\
 h[id]?=some (.cells (bP (sZ ns.length (dQ ns))) .live)/\∀k,1<=k->k<j->(dQ ns).count (k:Int)=1
theorem NT(ns:List Nz) (hks:∀n∈ns,n.kids.length<4000000):az C 57 [.agg [bi ns]]=some (.bool (lW ns)):=by
 refine ay func57 rfl λR hR=>?_
 have fin:∀(L:PT) (h:H) (b:Bool),L.get 2=.bool b->lW ns=b->R .ret L h:=λL h b h4 E=>hR ⟨.bool b,by simp[aY,cC,f57,h4],by rw[E];exact aK rfl rfl⟩
 by_cases M:0<ns.length
 ·have x:¬ns=[]:=λe=>by rw[e]at M;simp at M
  by_cases q1:ns.length<=20000
  ·have F:¬(20000:Int)<ns.length:=o_;have X:¬20000<ns.length:=o_;have N:lW ns=(inZ ns.length 0 ns&&(List.range' 1 (ns.length-1)).all λk=>decide ((dQ ns).count (k:Int)=1)):=by rw[lW,decide_eq_true M,decide_eq_true q1];rfl
   have Y:=λh=>aAj h ns.length M o_
   simp +contextual [go_sem,bi,iD,dU,x,F,Y];refine bL (aBz ns) ns.length ⟨0,1,rfl,aN _,g_,g_,g_,g_,rfl,rfl,o_,rfl⟩ ?_;rintro m L h ⟨i,id,rfl,hi,I,t,J,y,w,d,g,o⟩;by_cases f:i<ns.length
   ·have r:(i:Int)<ns.length:=o_;have w2:=wS i o_;have q7:=hks _ (aF f);have Z:=aJ f;rw[aI f,inZ]at o;have A:=qR ns i f .unk;have q':=yg (l:=ns.take i) λn hn=>hks n (bW hn)
    rw[ag]at q';generalize hn:ns[i]=a at *;simp[go_sem,t,y,r];refine bL (aBv ns i id a) a.kids.length ⟨0,rfl,aN _,g_,g_,g_,g_,g_,w,by simpa using d,g,o⟩ ?_;clear I t J y w d o;rintro m2 L h ⟨j,rfl,hj,I,t,J,y,S,w,d,g,o⟩;have O:=(aB.1 d).1;have U:=rY a.kids .unk;by_cases s:j<a.kids.length
    ·have u:(j:Int)<a.kids.length:=o_;have v:=AT a.kids j s .unk;have w3:=wS j o_;have q2:=aJ s;rw[aI s,dt]at o;generalize hk:a.kids[j]=k at *;by_cases z1:k<=(i:Int)
     ·have E:decide ((i:Int)<k)=false:=decide_eq_false o_;rw[E]at o;simp +contextual [go_sem,I,t,y,S,G w,dU,bi,A,U,u,v,DE,z1];exact fin _ _ false g_ (by rw[N,<-o];rfl)
     by_cases z2:(ns.length:Int)<=k
     ·have E:decide (k<(ns.length:Int))=false:=decide_eq_false o_;rw[E,Bool.and_false]at o;simp +contextual [go_sem,I,t,y,S,G w,dU,bi,A,U,u,v,DE,z1,z2];exact fin _ _ false g_ (by rw[N,<-o];rfl)
     obtain⟨q,rfl⟩:=fW (show 0<=k by omega);have K:q<ns.length:=o_;have E:decide ((i:Int)<q)=true:=decide_eq_true o_;have q3:decide ((q:Int)<(ns.length:Int))=true:=decide_eq_true o_;rw[E,q3,Bool.and_self,ee]at o;have V:=Nr (id:=id) (cap:=some ns.length) K;have q4:=wd ns.length (dQ (ns.take i)++a.kids.take j);have p:=TM (l:=sZ ns.length (dQ (ns.take i)++a.kids.take j)) (k:=q) o_;rw[tg _ K]at p;have q8:(dQ (ns.take i)++a.kids.take j).count (q:Int)<=100000000000:=by refine cW List.count_le_length ?_;rw[aL,ag];omega
     have B:=Ob (dQ (ns.take i)++a.kids.take j) K;rw[List.append_assoc,<-q2]at B;have w4:IntKind.i64.wrap (((dQ (ns.take i)++a.kids.take j).count (q:Int):Nat)+1:Int)=(((dQ (ns.take i)++a.kids.take j).count (q:Int):Nat):Int)+1:=av o_;have Q:=W6 (l:=sZ ns.length (dQ (ns.take i)++a.kids.take j)) (k:=q) ((((dQ (ns.take i)++a.kids.take j).count (q:Int):Nat):Int)+1) h id o_;rw[B]at Q;generalize hc:(((dQ (ns.take i)++a.kids.take j).count (q:Int):Nat):Int)=c at *;generalize q6:bP (sZ ns.length (dQ (ns.take i)++a.kids.take j))=row at *;simp +contextual [go_sem,I,t,J,y,S,G w,dU,bi,A,U,u,v,DE,z1,z2,V,G d,p,w4,Q,-Int.natCast_add,w3];refine⟨a.kids.length-(j+1),o_,j+1,rfl,s,g_,g_,g_,g_,g_,?_,?_,g,o⟩
     ·rw[pt,aE g];exact w
     rw[pt,aH O]
    have:j=a.kids.length:=o_;subst this;rw[ae,List.all_nil,ee]at o;rw[ah]at d;have q5:dQ (ns.take (i+1))=dQ (ns.take i)++a.kids:=by rw[Z];simp[dQ]
    rw[<-q5]at d;simp[go_sem,I,y,S,G w,dU,bi,A,U,-Int.natCast_add,w2];exact⟨ns.length-(i+1),o_,i+1,id,rfl,f,g_,g_,g_,g_,w,d,g,o⟩
   have:i=ns.length:=o_;subst this;rw[ae,inZ]at o;rw[<-o,ee]at N;rw[ah]at d;simp[go_sem,t,y];refine bL (aBt ns id) (ns.length-1) ⟨1,rfl,aR _,M,g_,g_,g_,d,λk h1 h2=>o_⟩ ?_;clear I t J y w d o;rintro m2 L h ⟨j,rfl,s,hj,t,J,g8,d,D⟩;by_cases f:j<ns.length
   ·have r:(j:Int)<ns.length:=o_;have w3:=wS j o_;have V:=Nr (id:=id) (cap:=some ns.length) f;have q4:=wd ns.length (dQ ns);have p:=TM (l:=sZ ns.length (dQ ns)) (k:=j) o_;rw[tg _ f]at p;by_cases z:(dQ ns).count (j:Int)=1
    ·rw[z]at p;simp[go_sem,t,J,g8,r,V,G d,p,-Int.natCast_add,w3];refine⟨ns.length-(j+1),o_,j+1,rfl,o_,f,g_,g_,g_,d,λk h1 h2=>?_⟩;by_cases e:k=j
     ·rw[e];exact z
     exact D k h1 o_
    have z':¬(((dQ ns).count (j:Int):Nat):Int)=1:=o_;generalize hc:(((dQ ns).count (j:Int):Nat):Int)=c at *;simp[go_sem,t,J,g8,r,V,G d,p,z'];refine fin _ _ false g_ ?_;rw[N,List.all_eq_false];exact⟨j,kN.2 ⟨s,o_⟩,by simpa using z⟩
   have:j=ns.length:=o_;subst this;simp[go_sem,t,g8];refine fin _ _ true g_ ?_;rw[N,bI];exact λk hk=>by have:=kN.1 hk;exact decide_eq_true (D k this.1 o_)
  have F:(20000:Int)<ns.length:=o_;simp +contextual [go_sem,bi,iD,dU,x,F];exact fin _ _ false g_ (by rw[lW,decide_eq_false q1];simp)
 have x:ns=[]:=bt o_;subst x;have e0:fB C.P 29 (.isl [] .unk)=some (.int .i64 0):=by simpa using NU [] .unk
 simp +contextual [go_sem,bi,iD,dU,e0];exact fin _ _ false g_ rfl
theorem Dg(ns:List Nz) (x:Ext) (hks:∀n∈ns,n.kids.length<4000000) (h:H):ak C h (.func 57 []) (some [.agg [.isl (ns.map eZ) x]])=some (.bool (lW ns),h):=aX (args':=[.agg [bi ns]]) rfl rfl s_ (NT ns hks)
def ZA(l m:Lq) (n:Nat) (s:PT) (h:H):Prop:=∃k:Nat,n=l.length-k/\k<=l.length/\h=[]/\s.get 0=.isl (l.map enc) .unk/\s.get 1=.isl (m.map enc) .unk/\s.get 5=.int .i64 k/\(l.drop k=m.drop k↔l=m)
theorem Qm(l m:Lq) (hl:∀t∈l,t.size<4000000) (hm:∀t∈m,t.size<4000000) (hn:l.length<4000000):az C 87 [aM l,aM m]=some (.bool (decide (l=m))):=by
 refine ay func87 rfl λR hR=>?_
 by_cases he:l.length=m.length
 ·have he':(l.length:Int)=m.length:=o_;simp[go_sem,aM,dX,he'];refine bL (ZA l m) l.length ⟨0,rfl,aN _,rfl,by simp[go_sem,aM],by simp[go_sem,aM],g_,s_⟩ ?_;rintro n s h ⟨k,rfl,hk,rfl,g0,g1,g5,hd⟩;by_cases hlt:k<l.length
  ·have hlt':(k:Int)<l.length:=o_;have hltb:k<m.length:=o_;have hix:=kM l k hlt .unk;have hiy:=kM m k hltb .unk;have hck:=lr l[k] m[k] (hl _ (aF hlt)) (hm _ (aF hltb));have w2:=wS k o_;rw[aI hlt,aI hltb,bw]at hd;by_cases hz:l[k].cmp m[k]=0
   ·simp[go_sem,g0,g1,g5,dX,hlt',hix,hiy,gd,hck,hz,-Int.natCast_add,w2]
    rw[cmp_zero]at hz
    exact⟨l.length-(k+1),by omega,k+1,rfl,hlt,rfl,by simp[go_sem,g0],by simp[go_sem,g1],by simp[go_sem],by rw[<-hd];exact⟨λe=>⟨hz,e⟩,λe=>e.2⟩⟩
   simp[go_sem,g0,g1,g5,dX,hlt',hix,hiy,gd,hck,hz];refine hR ⟨_,rfl,?_⟩;have hne:l≠m:=λe=>hz (cmp_zero.mpr (hd.mpr e).1)
   simp[go_sem,hne];exact aK rfl rfl
  have:k=l.length:=o_;subst this;rw[ae,he,ae]at hd;have e:=hd.mp rfl;simp[go_sem,g0,g5,dX];refine hR ⟨_,rfl,?_⟩;simp[go_sem,e];exact aK rfl rfl
 have he':¬(l.length:Int)=m.length:=o_;simp[go_sem,kC,aM,dX,he'];refine hR ⟨_,rfl,?_⟩;have hne:l≠m:=λe=>he (by rw[e])
 simp[go_sem,hne];exact aK rfl rfl
theorem Le(l m:Lq) (x y:Ext) (hl:∀t∈l,t.size<4000000) (hm:∀t∈m,t.size<4000000) (hn:l.length<4000000) (h:H):ak C h (.func 87 []) (some [.isl (l.map enc) x,.isl (m.map enc) y])=some (.bool (decide (l=m)),h):=aX (args':=[aM l,aM m]) rfl rfl s_ (Qm l m hl hm hn)
theorem TX(a b:Dm):a=b↔a.knows=b.knows/\a.term=b.term:=by cases a;cases b;simp
instance decDm:DecidableEq Dm:=λa b=>decidable_of_iff _ (TX a b).symm
def aBb(a b:List Dm) (m:Nat) (st:PT) (h:H):Prop:=∃k:Nat,m=a.length-k/\k<=a.length/\h=[]/\st.get 0=bB a/\st.get 1=bB b/\st.get 5=.int .i64 k/\a.take k=b.take k
theorem UE(a b:List Dm) (ha:∀d∈a,gy d) (hb:∀d∈b,gy d) (hal:a.length<1000000):az C 56 [bB a,bB b]=some (.bool (decide (a=b))):=by
 refine hJ rfl func56 rfl k_ (by simp[f56]) λR I=>?_
 have fin:∀(e:Ex) (t:PT) (h:H) (c:Bool),e=.normal\/e=.ret->t.get 4=.bool c->decide (a=b)=c->R e t h:=λe t h c q J K=>I _ _ _ q ⟨.bool c,by simp[aY,cC,f56,J],by rw[K];exact aK rfl rfl⟩
 have l:=pJ a;have y:=pJ b;simp only[bB]at l y;by_cases E:a.length=b.length
 ·have n:(a.length:Int)=b.length:=o_;simp[go_sem,bB,l,y,n];refine bL (aBb a b) a.length ⟨0,rfl,aN _,rfl,by simp[go_sem,bB],by simp[go_sem,bB],g_,rfl⟩ ?_;rintro m t h ⟨k,rfl,M,rfl,p,r,u,q⟩;simp only[bB]at p r;by_cases j:k<a.length
  ·have f:(k:Int)<a.length:=o_;have g:k<b.length:=o_;have o:=AU a k j .unk;have i:=AU b k g .unk;have L:=wS k o_;have A:=ha _ (aF j);have F:=hb _ (aF g);have s:=Le a[k].knows b[k].knows .unk .unk A.1 F.1 A.2.2;have G:=lr a[k].term b[k].term A.2.1 F.2.1;have v:=qr a[k];have w:=qr b[k];have B:=yN a[k];have D:=yN b[k];simp only[aM]at v w;by_cases z:a[k].knows=b[k].knows
   ·rw[decide_eq_true z]at s;by_cases x:a[k].term.cmp b[k].term=0
    ·simp +contextual [go_sem,p,r,u,l,f,o,i,zP,zO,v,w,B,D,s,G,x,-Int.natCast_add,L];refine⟨a.length-(k+1),o_,k+1,rfl,j,rfl,by simp[go_sem,p,bB],by simp[go_sem,r,bB],g_,?_⟩;rw[aJ j,aJ g,q,(TX _ _).2 ⟨z,cmp_zero.1 x⟩]
    simp +contextual [go_sem,p,r,u,l,f,o,i,zP,zO,v,w,B,D,s,G,x];exact fin _ _ _ false (.inr rfl) g_ (decide_eq_false λe=>x (cmp_zero.2 (by simp only[e])))
   rw[decide_eq_false z]at s;simp +contextual [go_sem,p,r,u,l,f,o,i,zP,zO,v,w,B,D,s];exact fin _ _ _ false (.inr rfl) g_ (decide_eq_false λe=>z (by simp only[e]))
  have:k=a.length:=o_;subst this;simp[go_sem,p,u,l];rw[ah,E,ah]at q;exact fin _ _ _ true (.inr rfl) g_ (decide_eq_true q)
 have n:¬(a.length:Int)=b.length:=o_;simp[go_sem,bB,l,y,n];exact fin _ _ _ false (.inr rfl) g_ (decide_eq_false λe=>E (by rw[e]))
theorem xm(a b:List Dm) (x y:Ext) (ha:∀d∈a,gy d) (hb:∀d∈b,gy d) (hal:a.length<1000000) (h:H):ak C h (.func 56 []) (some [.isl (a.map dG) x,.isl (b.map dG) y])=some (.bool (decide (a=b)),h):=aX (args':=[bB a,bB b]) rfl rfl s_ (UE a b ha hb hal)
theorem QE(l:List Dm) (hs:∀d∈l,gy d) (hl:l.length<4000000):az C 89 [bB l]=some (AD (cX l)):=by
 by_cases a:cD l=0
 ·exact MV l a
 refine ay func89 rfl λR b=>?_
 have c:=sK l .unk hs hl;have e:cX l=([],cD l):=by rw[cX,if_pos (by simpa using a)]
 simp[go_sem,bB,c,a];refine b ⟨.tuple [.isl [] (.tok 1),.int .i64 (cD l)],by simp[aY,dx,cC,f89,go_sem],by rw[e];exact dF rfl rfl s_⟩
theorem Lc(l:List Dm) (x:Ext) (hs:∀d∈l,gy d) (hl:l.length<4000000) (h:H):ak C h (.func 89 []) (some [.isl (l.map dG) x])=some (AD (cX l),h):=aX (args':=[bB l]) rfl rfl s_ (QE l hs hl)
def vU(ns:List Nz) (s:Lb):List Al->List Int->Bool
 |a::l,k::ks=>(match ns[k.toNat]? with
  |some y=>decide ((eI s a.bind).2=0)&&decide ((eI s a.bind).1=y.bind)&&decide (a.dem=y.dem)
  |none=>false)&&vU ns s l ks
 |_,_=>true
noncomputable def tF(ns:List Nz) (x:Nz):Bool:=if gz x.dem<0 then decide (x.kids.length=0)else if(cX x.dem).2≠0\/(cX x.dem).1.length≠x.kids.length then false else vU ns x.bind (cX x.dem).1 x.kids
structure OkZ (n:Nz):Prop where
 sm:small n.bind
 len:n.bind.length<1000000
 dsm:∀d∈n.dem,gy d
 dlen:n.dem.length<1000000
 kl:n.kids.length<4000000
def aBe(ns:List Nz) (x:Nz) (A:List Al) (m:Nat) (st:PT) (h:H):Prop:=∃k:Nat,m=A.length-k/\k<=A.length/\st.get 2=.ptr 0 0/\st.get 5=.ptr 1 0/\st.get 6=.isl (A.map il) .unk/\st.get 8=.int .i64 k /\
 h[0]?=some (.cells [bi ns] .live)/\h[1]?=some (.cells (nz x) .live)/\vU ns x.bind (A.drop k) (x.kids.drop k)=vU ns x.bind A x.kids
theorem UT(ns:List Nz) (i:Nat) (hi:i<ns.length) (hok:∀n∈ns,OkZ n) (hkr:∀k∈ns[i].kids,0<=k/\k<ns.length):az C 58 [.agg [bi ns],.int .i64 i]=some (.bool (tF ns ns[i])):=by
 refine ay func58 rfl λR hR=>?_
 have fin:∀(st:PT) (h:H) (b:Bool),st.get 4=.bool b->tF ns ns[i]=b->R .ret st h:=λst h b h4 hb=>hR ⟨.bool b,by simp[aY,cC,f58,h4],by rw[hb];exact aK rfl rfl⟩
 have hix:=qR ns i hi .unk;have hx:=hok _ (aF hi);generalize hxe:ns[i]=x at *;have c1:=O5 x.dem .unk (by have:=hx.dlen;omega);have lk:=rY x.kids .unk;by_cases q:gz x.dem<0
 ·simp +contextual [go_sem,bi,iD,dU,hix,bB,c1,q,lk];exact fin _ _ (decide (x.kids=[])) g_ (by rw[tF,if_pos q];simp)
 have c2:=Lc x.dem .unk hx.dsm (by have:=hx.dlen;omega);have hN:tF ns x=if(cX x.dem).2≠0\/(cX x.dem).1.length≠x.kids.length then false else vU ns x.bind (cX x.dem).1 x.kids:=by rw[tF,if_neg q]
 by_cases z1:(cX x.dem).2=0
 rotate_left
 ·simp +contextual [go_sem,bi,iD,dU,hix,bB,c1,q,c2,AD,z1];exact fin _ _ false g_ (by rw[hN,if_pos (.inl z1)])
 have hval:cD x.dem=0:=by
  unfold cX at z1;split at z1
  ·rename_i e;exact absurd z1 (by simpa using e)
  rename_i e;simpa using e
 have hsb:=zm hval;have hAok:=λa ha=>vv z1 a ha
 have la:=NY (cX x.dem).1 .unk;generalize hA:cX x.dem=A at *;by_cases z2:A.1.length=x.kids.length
 rotate_left
 ·have z2':¬(A.1.length:Int)=x.kids.length:=o_;simp +contextual [go_sem,bi,iD,dU,hix,bB,c1,q,c2,AD,z1,la,lk,z2'];exact fin _ _ false g_ (by rw[hN,if_pos (.inr z2)])
 rw[if_neg (by simp[z1,z2])]at hN;have z2':(A.1.length:Int)=x.kids.length:=o_;simp +contextual [go_sem,bi,iD,dU,hix,bB,c1,q,c2,AD,z1,la,lk,z2'];refine bL (aBe ns x A.1) A.1.length ⟨0,rfl,aN _,g_,g_,g_,g_,rfl,rfl,rfl⟩ ?_;rintro m st h ⟨k,rfl,hk,g2,g5,g6,g8,m0,m1,he⟩;by_cases hlt:k<A.1.length
 ·have hlt':(k:Int)<A.1.length:=by omega
  have hlk:k<x.kids.length:=by omega
  have w2:IntKind.i64.wrap ((k:Int)+1)=((k+1:Nat):Int):=by rw[av (by omega)];omega
  have hixA:=DL A.1 k hlt .unk
  have hixK:=AT x.kids k hlk .unk
  have hr:=hkr _ (aF hlk)
  have hoa:=hsb.1 _ (aF hlt)
  have hva:=(hAok _ (aF hlt)).valid
  rw[aI hlt,aI hlk,vU]at he
  generalize ha:A.1[k]=a at *
  generalize hkk:x.kids[k]=kk at *
  obtain⟨n,rfl⟩:=fW hr.1
  have hn:n<ns.length:=by omega
  have hixN:=qR ns n hn .unk
  have hyo:=hok _ (aF hn)
  rw[fE,aC hn]at he
  generalize hy:ns[n]=y at *
  dsimp only at he
  have gm0:=G (ga (g:=[VObj.cells (nz y) .live]) m0)
  have gm1:=G (ga (g:=[VObj.cells (nz y) .live]) m1)
  have c3:=Fi x.bind a.bind .unk .unk hx.sm hoa.1 hx.len hoa.2
  obtain⟨bd1,bd2,_⟩:=tq hva
  have l1:=NY A.1 .unk
  by_cases y1:(eI x.bind a.bind).2=0
  rotate_left
  ·rw[decide_eq_false y1]at he;simp +contextual [go_sem,g2,g5,g6,g8,hlt',G m0,G m1,gm1,dU,bi,hixK,DE,hixN,binds,hixA,c3,oP,y1,wv];exact fin _ _ false g_ (by rw[hN,<-he];rfl)
  have hcv:=Aj y1;have⟨e1,e2,_⟩:=oi y1;have hcs:small (eI x.bind a.bind).1:=λb hb=>by rw[e1]at hb;have:=hcv b hb;exact⟨o_,o_⟩
  have c4:=xn (eI x.bind a.bind).1 y.bind .unk .unk hcs hyo.sm (by rw[e1];omega);have c5:=xm a.dem y.dem .unk .unk (λd hd=>(bd2 d hd).1) hyo.dsm o_;by_cases y2:(eI x.bind a.bind).1=y.bind
  rotate_left
  ·rw[decide_eq_false y2]at he c4;simp +contextual [go_sem,g2,g5,g6,g8,hlt',G m0,G m1,gm1,dU,bi,hixK,DE,hixN,binds,hixA,c3,oP,y1,wv,c4];exact fin _ _ false g_ (by rw[hN,<-he];simp)
  rw[decide_eq_true y2]at he c4;by_cases y3:a.dem=y.dem
  rotate_left
  ·rw[decide_eq_false y3]at he c5;simp +contextual [go_sem,g2,g5,g6,g8,hlt',G m0,G m1,gm1,dU,bi,hixK,DE,hixN,binds,hixA,c3,oP,y1,wv,c4,bB,c5];exact fin _ _ false g_ (by rw[hN,<-he];simp)
  rw[decide_eq_true y3]at he c5;rw[decide_eq_true y1]at he;simp +contextual [go_sem,g2,g5,g6,g8,hlt',G m0,G m1,gm1,dU,bi,hixK,DE,hixN,binds,hixA,c3,oP,y1,wv,c4,bB,c5,-Int.natCast_add,w2];refine⟨A.1.length-(k+1),o_,k+1,rfl,hlt,g_,g_,g_,g_,?_,?_,by simpa using he⟩
  ·exact ga m0
  exact ga m1
 have:k=A.1.length:=o_;subst this;rw[ae,vU]at he
 ·simp[go_sem,g6,g8];exact fin _ _ true g_ (by rw[hN,<-he])
 intros;simp_all
noncomputable def sC(l:List Dm) (ns:List Nz):Bool:=decide (cD l=0)&&lW ns&&(match ns with
 |[]=>false
 |r::_=>decide (r.dem=l)&&decide (r.bind.length=0))&&ns.all (tF ns)
theorem H4(ns:List Nz) (x:Ext) (i:Nat) (hi:i<ns.length) (hok:∀n∈ns,OkZ n) (hkr:∀k∈ns[i].kids,0<=k/\k<ns.length) (h:H):ak C h (.func 58 []) (some [.agg [.isl (ns.map eZ) x],.int .i64 i])=some (.bool (tF ns ns[i]),h):=aX (args':=[.agg [bi ns],.int .i64 i]) rfl rfl s_ (UT ns i hi hok hkr)
def ZJ(_l:List Dm) (ns:List Nz) (m:Nat) (st:PT) (h:H):Prop:=∃k:Nat,m=ns.length-k/\k<=ns.length/\st.get 3=.ptr 0 0/\st.get 5=.int .i64 k/\h[0]?=some (.cells [bi ns] .live)/\(ns.drop k).all (tF ns)=ns.all (tF ns)
theorem gh(v:AV):ldM C.P 31 0 (some (.cells [v] .live))=some (.agg [v]):=by simp[ldM,aZ,a31,s31]
theorem Rw(l:List Dm) (ns:List Nz) (hs:∀d∈l,gy d) (hl:l.length<1000000) (hok:∀n∈ns,OkZ n):az C 23 [bB l,.agg [bi ns]]=some (.bool (sC l ns)):=by
 refine ay func23 rfl λR L=>?_
 have fin:∀(u:PT) (h:H) (b:Bool),u.get 4=.bool b->sC l ns=b->R .ret u h:=λu h b M w=>L ⟨.bool b,by simp[aY,cC,f23,M],by rw[w];exact aK rfl rfl⟩
 have s:=sK l .unk hs o_;have p:=Dg ns .unk λn N=>(hok n N).kl
 by_cases v:cD l=0
 rotate_left
 ·simp +contextual [go_sem,bi,iD,bB,s,v];exact fin _ _ false g_ (by unfold sC;rw[decide_eq_false v];rfl)
 cases t:lW ns with
 |false=>rw[t]at p;simp +contextual [go_sem,bi,iD,bB,s,v,p,gh];exact fin _ _ false g_ (by unfold sC;rw[t];simp)
 |true=>
  rw[t]at p;have g:=t;unfold lW at g;simp only[am,decide_eq_true_eq]at g;have⟨⟨⟨z,S⟩,A⟩,_⟩:=g;have i:bH C.P 29 (.isl (ns.map eZ) .unk) (.int .i64 0)=some (.iptr (eZ ns[0]) 0):=by simpa using qR ns 0 z .unk
  have I:=hok _ (aF z);have e:sC l ns=(decide (ns[0].dem=l)&&decide (ns[0].bind.length=0)&&ns.all (tF ns)):=by
   unfold sC;rw[decide_eq_true v,t,ee,ee];cases ns with
   |nil=>simp at z
   |cons a r=>rfl
  have c3:=xm ns[0].dem l .unk .unk I.dsm hs I.dlen;have J:fB C.P 45 (.isl (ns[0].bind.map bS) .unk)=some (.int .i64 ns[0].bind.length):=by rw[mW,aU]
  generalize ns[0]=r at *;by_cases K:r.dem=l
  rotate_left
  ·rw[decide_eq_false K]at e c3;simp +contextual [go_sem,bi,iD,bB,s,v,p,gh,dU,i,c3];exact fin _ _ false g_ (by rw[e];rfl)
  rw[decide_eq_true K]at e c3;by_cases B:r.bind.length=0
  rotate_left
  ·rw[decide_eq_false B]at e;have j:(0:Int)<r.bind.length:=o_;have D:0<r.bind.length:=o_;simp +contextual [go_sem,bi,iD,bB,s,v,p,gh,dU,i,c3,binds,J,D];exact fin _ _ false g_ (by rw[e];rfl)
  rw[decide_eq_true B]at e;have j:¬(0:Int)<r.bind.length:=o_;simp +contextual [go_sem,bi,iD,bB,s,v,p,gh,dU,i,c3,binds,J];simp only[B];simp +contextual [go_sem];refine bL (ZJ l ns) ns.length ⟨0,rfl,aN _,g_,g_,rfl,rfl⟩ ?_;rintro m u h ⟨k,rfl,U,E,F,x,o⟩;by_cases c:k<ns.length
  ·have f:(k:Int)<ns.length:=o_;have O:=wS k o_;have y:=H4 ns .unk k c hok λq Q=>by have:=DK A k _ (aC c) q Q;omega
   rw[aI c,dt]at o;cases w:tF ns ns[k]with
   |true=>rw[w]at y o;simp[go_sem,E,F,G x,dU,bi,f,gh,y,-Int.natCast_add,O];exact⟨ns.length-(k+1),o_,k+1,rfl,c,g_,g_,x,by simpa using o⟩
   |false=>rw[w]at y o;simp[go_sem,E,F,G x,dU,bi,f,gh,y];exact fin _ _ false g_ (by rw[e,<-o];rfl)
  have:k=ns.length:=o_;subst this;rw[ae,List.all_nil]at o;simp[go_sem,E,F,G x,dU,bi];exact fin _ _ true g_ (by rw[e,<-o];rfl)
theorem Fk(l:List Dm) (ns:List Nz) (x y:Ext) (hs:∀d∈l,gy d) (hl:l.length<1000000) (hok:∀n∈ns,OkZ n) (h:H):ak C h (.func 23 []) (some [.isl (l.map dG) x,.agg [.isl (ns.map eZ) y]])=some (.bool (sC l ns),h):=aX (args':=[bB l,.agg [bi ns]]) rfl rfl s_ (Rw l ns hs hl hok)
theorem O4(l:Lq) (x:Ext) (c n:Int) (hn:n<4000000) (hn0:0<=n) (h:H):ak C h (.func 27 []) (some [.isl (l.map enc) x,.int .i64 c,.int .i64 n])=some (.bool (sX l c n),h):=aX (OT _ _ _ _) (by simp[short]) s_ (TW l c n hn hn0)
theorem X6(l:Lb) (c n:Int) (hn:n<4000000) (hn0:0<=n) (hc:c<4000000) (hc0:0<=c) (hl:l.length<4000000):az C 52 [binds l,.int .i64 c,.int .i64 n]=some (.bool (HP l c n)):=by
 refine ay func52 rfl λR hR=>?_
 simp[go_sem];refine bL (aBs l c n) l.length ⟨0,rfl,aN _,g_,g_,g_,g_,.inr ⟨0,by simp[go_sem,uy]⟩⟩ ?_;rintro m s h ⟨k,rfl,hk,g0,g1,g2,g8,go⟩;simp only[binds]at g0;by_cases hlt:k<l.length
 ·have hlt':(k:Int)<l.length:=o_;have hix:=sS l k hlt .unk;have w2:=wS k o_;obtain⟨v7,e7⟩:∃v,v=s.get 7:=⟨_,rfl⟩
  rw[<-e7]at go
  have hfl:=K3 (l.take k)
  obtain⟨v',h',ha,ho,hkp,hid⟩:=eW (ys:=[l[k].1,l[k].2]) (x:=.full) go (by simp only[hfl,ag,aG,aQ];omega)
  rw[<-HL hlt]at ho
  simp only[aS,bD]at ha
  simp[go_sem,g0,g8,mW,hlt',-Int.natCast_add]
  refine gS 5 _ (by simp[gM]) rfl ?_
  simp[go_sem,g0,g8,<-e7,hix,kH,nI,Lv,ha,-Int.natCast_add,w2,ij,iK,iO,kW,fL,ce]
  exact⟨l.length-(k+1),by omega,k+1,rfl,hlt,by simp[go_sem,g0,binds],by simp[go_sem,g1],by simp[go_sem,g2],by simp[go_sem],by simpa [go_sem]using ho⟩
 have:k=l.length:=o_;subst this;rw[ah]at go;have⟨x,hx⟩:=go.isl;have w3:IntKind.i64.wrap (2*c)=2*c:=av o_;have c9:=O4 (uy l) x (2*c) n hn hn0;simp[go_sem,g0,g1,g2,g8,mW,hx,w3,c9];refine hR ⟨.bool (HP l c n),by simp[aY,cC,f52,go_sem,HP],?_⟩;exact aK rfl rfl
theorem Lj(l:Lb) (x:Ext) (c n:Int) (hn:n<4000000) (hn0:0<=n) (hc:c<4000000) (hc0:0<=c) (hl:l.length<4000000) (h:H):ak C h (.func 52 []) (some [.isl (l.map bS) x,.int .i64 c,.int .i64 n])=some (.bool (HP l c n),h):=aX (args':=[binds l,.int .i64 c,.int .i64 n]) rfl (by simp[short]) s_ (X6 l c n hn hn0 hc hc0 hl)
def BN(l:List Dm) (n:Int):Bool:=decide (l.length<=42)&&l.all (λd=>decide (d.knows.length<=45))&&sX (bp l) 700 n
def aBq(l:List Dm) (n:Int) (m:Nat) (st:PT) (h:H):Prop:=∃k:Nat,m=l.length-k/\k<=l.length/\h=[]/\st.get 0=bB l/\st.get 1=.int .i64 n/\st.get 5=.int .i64 k/\((l.drop k).all λd=>decide (d.knows.length<=45))=l.all λd=>decide (d.knows.length<=45)
theorem X5(l:List Dm) (n:Int) (hn:n<4000000) (hn0:0<=n):az C 53 [bB l,.int .i64 n]=some (.bool (BN l n)):=by
 refine ay func53 rfl λR v=>?_
 have fin:∀(o:PT) (h:H) (b:Bool),o.get 4=.bool b->BN l n=b->R .ret o h:=λo h b w p=>v ⟨.bool b,by simp[aY,cC,f53,w],by rw[p];exact aK rfl rfl⟩
 have a:=pJ l;simp only[bB]at a;by_cases q:l.length<=42
 ·have r:¬(42:Int)<l.length:=o_;simp +contextual [go_sem,bB,a,r];refine bL (aBq l n) l.length ⟨0,rfl,aN _,rfl,by simp[go_sem,bB],g_,g_,rfl⟩ ?_;rintro m o h ⟨k,rfl,B,rfl,g,x,s,c⟩;simp only[bB]at g;by_cases f:k<l.length
  ·have e:(k:Int)<l.length:=o_;have i:=AU l k f .unk;have y:=wS k o_;rw[aI f,dt]at c;by_cases z:l[k].knows.length<=45
   ·have t:¬(45:Int)<l[k].knows.length:=o_;simp[go_sem,g,s,a,e,i,t,-Int.natCast_add,y];exact⟨l.length-(k+1),o_,k+1,rfl,f,rfl,by simp[go_sem,g,bB],g_,g_,by rw[<-c];simp[z]⟩
   have t:(45:Int)<l[k].knows.length:=o_;simp[go_sem,g,s,a,e,i,t];exact fin _ _ false g_ (by rw[BN,<-c,decide_eq_false z];simp)
  have:k=l.length:=o_;subst this;rw[ae]at c;have j:∀d∈l,d.knows.length<=45:=by simpa using c.symm
  have p:BN l n=sX (bp l) 700 n:=by rw[BN,<-c,decide_eq_true q];simp
  have u:=xl l .unk (λd c=>by have:=j d c;omega) o_;have A:=O4 (bp l) .unk 700 n hn hn0;simp only[aM]at u;simp +contextual [go_sem,g,x,s,a,u,A];exact fin _ _ (sX (bp l) 700 n) g_ p
 have r:(42:Int)<l.length:=o_;simp +contextual [go_sem,bB,a,r];exact fin _ _ false g_ (by rw[BN,decide_eq_false q];simp)
theorem Li(l:List Dm) (x:Ext) (n:Int) (hn:n<4000000) (hn0:0<=n) (h:H):ak C h (.func 53 []) (some [.isl (l.map dG) x,.int .i64 n])=some (.bool (BN l n),h):=aX (args':=[bB l,.int .i64 n]) rfl rfl s_ (X5 l n hn hn0)
def ta(x:Nz):Bool:=decide (x.kids.length<=70)&&decide (x.bind.length<=20)&&HP x.bind 20 400&&BN x.dem 700
def tZ(ns:List Nz):Bool:=decide (ns.length<=60)&&ns.all ta
def ZP(ns:List Nz) (m:Nat) (st:PT) (h:H):Prop:=∃k:Nat,m=ns.length-k/\k<=ns.length/\st.get 1=.ptr 0 0/\st.get 3=.int .i64 k/\h[0]?=some (.cells [bi ns] .live)/\(ns.drop k).all ta=ns.all ta
theorem K7(ns:List Nz):az C 19 [.agg [bi ns]]=some (.bool (tZ ns)):=by
 refine ay func19 rfl λR A=>?_
 have fin:∀(r:PT) (h:H) (b:Bool),r.get 2=.bool b->tZ ns=b->R .ret r h:=λr h b B D=>A ⟨.bool b,by simp[aY,cC,f19,B],by rw[D];exact aK rfl rfl⟩
 by_cases q:ns.length<=60
 ·have w:¬(60:Int)<ns.length:=o_;simp +contextual [go_sem,bi,iD,dU,w];refine bL (ZP ns) ns.length ⟨0,rfl,aN _,g_,g_,rfl,rfl⟩ ?_;rintro m r h ⟨k,rfl,F,j,l,g,f⟩;have n:tZ ns=ns.all ta:=by rw[tZ,decide_eq_true q,ee]
  by_cases i:k<ns.length
  ·have a:(k:Int)<ns.length:=o_;have d:=qR ns k i .unk;have E:=wS k o_;rw[aI i,dt]at f;generalize ns[k]=x at *;have o:=rY x.kids .unk;have s:fB C.P 45 (.isl (x.bind.map bS) .unk)=some (.int .i64 x.bind.length):=by rw[mW,aU]
   by_cases y:x.kids.length<=70
   rotate_left
   ·have c:(70:Int)<x.kids.length:=o_;simp +contextual [go_sem,j,l,G g,dU,bi,a,d,wv,o,c];exact fin _ _ false g_ (by rw[n,<-f,ta,decide_eq_false y];rfl)
   have c:¬(70:Int)<x.kids.length:=o_;by_cases z:x.bind.length<=20
   rotate_left
   ·have e:(20:Int)<x.bind.length:=o_;simp +contextual [go_sem,j,l,G g,dU,bi,a,d,wv,o,c,binds,s,e];exact fin _ _ false g_ (by rw[n,<-f,ta,decide_eq_false z];simp)
   have e:¬(20:Int)<x.bind.length:=o_;have p:=Lj x.bind .unk 20 400 o_ o_ o_ o_ o_;have t:=Li x.dem .unk 700 o_ o_;cases u:HP x.bind 20 400 with
   |false=>rw[u]at p;simp +contextual [go_sem,j,l,G g,dU,bi,a,d,wv,o,c,binds,s,e,p];exact fin _ _ false g_ (by rw[n,<-f,ta,u];simp)
   |true=>
    rw[u]at p;cases v:BN x.dem 700 with
    |false=>rw[v]at t;simp +contextual [go_sem,j,l,G g,dU,bi,a,d,wv,o,c,binds,s,e,p,bB,t];exact fin _ _ false g_ (by rw[n,<-f,ta,v];simp)
    |true=>rw[v]at t;simp +contextual [go_sem,j,l,G g,dU,bi,a,d,wv,o,c,binds,s,e,p,bB,t,-Int.natCast_add,E];exact⟨ns.length-(k+1),o_,k+1,rfl,i,g_,g_,ga g,by rw[<-f,ta,u,v,decide_eq_true y,decide_eq_true z];simp⟩
  have:k=ns.length:=o_;subst this;rw[ae,List.all_nil]at f;simp[go_sem,j,l,G g,dU,bi];exact fin _ _ true g_ (by rw[n,<-f])
 have w:(60:Int)<ns.length:=o_;simp +contextual [go_sem,bi,iD,dU,w];exact fin _ _ false g_ (by rw[tZ,decide_eq_false q];rfl)
theorem Lh(ns:List Nz) (x:Ext) (h:H):ak C h (.func 19 []) (some [.agg [.isl (ns.map eZ) x]])=some (.bool (tZ ns),h):=aX (args':=[.agg [bi ns]]) rfl rfl s_ (K7 ns)
theorem Ac{l:Lq}{c n:Int}(h:sX l c n=true) (hn:0<=n) (hn2:n<4000000):∀t∈l,t.size<4000000:=λt a=>by simp only[sX,am,decide_eq_true_eq]at h;have b:=(nx l n o_).2 h.2;have d:=(nx l n o_).1;have:=mG a;omega
theorem OA{ns:List Nz}(h:tZ ns=true):∀n∈ns,OkZ n:=λn g=>by simp only[tZ,am,decide_eq_true_eq]at h;have:=bI.1 h.2 n g;simp only[ta,HP,BN,am,decide_eq_true_eq]at this;have⟨⟨⟨m,o⟩,i⟩,⟨p,j⟩,k⟩:=this;have e:=Ac i o_ o_;have f:=Ac k o_ o_;refine⟨λb c=>⟨e _ (bR.2 ⟨b,c,s_⟩),e _ (bR.2 ⟨b,c,s_⟩)⟩,o_,λd a=>⟨λt l=>f t (qt a t l),f _ (nl a),?_⟩,o_,o_⟩;have:=of_decide_eq_true (bI.1 j d a);omega
def aBa(t:T) (m:Nat) (st:PT) (h:H):Prop:=∃(k:Nat) (v:AV),m=t.kids.length-k/\k<=t.kids.length/\st.get 2=.ptr 1 0/\st.get 3=.ptr 2 0/\st.get 9=aM t.kids/\st.get 10=.int .i64 t.kids.length/\st.get 11=.int .i64 k /\
 h[1]?=some (.cells zc .live)/\h[2]?=some (.cells [.int .i64 t.kind,.str t.name,.int .i64 t.sort,v] .live)/\OwnR 39 h v ((t.kids.take k).map enc)
theorem OX(t:T) (hs:t.size<4000000) (hc:∀k∈t.kids,az C 82 [enc k]=some (enc k)):az C 82 [enc t]=some (enc t):=by
 refine ay func82 rfl λR M=>?_
 have N:=size_kids t;have I:=len_sizes t.kids;simp[go_sem,lE,aV];refine bL (aBa t) t.kids.length ⟨0,.isl [] .full,rfl,aN _,g_,g_,g_,g_,g_,rfl,by simp,.inl rfl⟩ ?_;rintro m Y h ⟨k,v,rfl,Z,J,s,O,l,d,u,n,c⟩;have a:∀i,bv v=some i->i≠1/\i≠2/\i<h.length:=λi f=>by
  refine⟨?_,?_,OwnR.id_lt c f⟩
  ·intro e;subst e;exact cM c u f
  intro e;subst e;exact cM c n f
 by_cases b:k<t.kids.length
 ·have o:(k:Int)<t.kids.length:=o_;have w:=eJ t.kids k b;have Q:=wS k o_;have S:∀h,ak C h (.func 82 []) (some [enc t.kids[k]])=some (enc t.kids[k],h):=λh=>aX (cg _) (by simp[aq]) s_ (hc _ (aF b))
  have⟨p,y,K,z,q,A⟩:=eW (ys:=[t.kids[k]]) (x:=.full) (OwnR.app c [.cells (enc t.kids[k]).cells .live]) (by simp only[ag,aG,aQ];omega);rw[<-aJ b]at z;simp only[aS,bD]at K;have B:=q.get (ga u) (λe=>(a _ e).1 rfl);have r:=q.get (ga n) (λe=>(a _ e).2.1 rfl);have j:=(aB.1 r).1;have U:=(aB.1 n).1;have D:OwnR 39 (y.set 2 (.cells [.int .i64 t.kind,.str t.name,.int .i64 t.sort,p] .live)) p ((t.kids.take (k+1)).map enc):=z.keep (Keep.set _ _ _) (λi f e=>by
   rcases A with L|⟨L,V⟩
   ·exact(a i (L▸f)).2.1 (by simpa using e.symm)
   rw[V]at f;simp only[aA,aL,aG,aQ]at f e;omega)
  have E:cL C.P y 37 (.ptr 2 3) p=some (y.set 2 (.cells [.int .i64 t.kind,.str t.name,.int .i64 t.sort,p] .live)):=by obtain⟨x,rfl⟩:=z.isl;simp[cL,r,s23]
  have X:∀g,aW C.P (h++g) 37 (.ptr 2 3)=some v:=λg=>by obtain⟨x,rfl⟩:=c.isl;simp[aW,ga n,aZ,a23,s23]
  simp[go_sem,O,l,d,o,w,lE,aV];refine gS 6 _ (by simp[gM]) rfl ?_;simp[go_sem,s,X,S,dp,K,E,d,-Int.natCast_add,Q];refine⟨?_,t.kids.length-(k+1),o_,k+1,p,rfl,b,g_,g_,g_,g_,g_,?_,?_,D⟩
  ·rcases c with rfl|⟨id,rfl,hd⟩
   ·simp[go_sem,ij,iK,iO,kW,fL,ce]
   have:=a id rfl;simp[go_sem,ij,iK,iO,kW,fL,ce]
   (try omega)
  ·rw[aE o_];exact B
  rw[aH j]
 have:k=t.kids.length:=o_;subst this;rw[ah]at c;obtain⟨x,rfl⟩:=c.isl;have F:=(aB.1 u).1;simp[go_sem,J,s,l,d,G u,G n];refine M ⟨.agg [.int .i64 t.kind,.str t.name,.int .i64 t.sort,.isl (t.kids.map enc) x],?_,?_⟩
 ·simp[aY,cC,f82,go_sem,J,F]
 have:=uD (bj (pt h 1 (.cells [.int .i64 t.kind,.str t.name,.int .i64 t.sort,.isl (t.kids.map enc) x] .live))) t.kind t.sort t.name t.kids x;rw[this,qQ]
theorem LM:∀t:T,t.size<4000000->az C 82 [enc t]=some (enc t):=by refine T.ind λt b c=>OX t c λk a=>b k a (by have:=kid_size a;omega)
theorem sJ(t:T) (hs:t.size<4000000) (h:H):ak C h (.func 82 []) (some [enc t])=some (enc t,h):=aX (cg _) (by simp[aq]) s_ (LM t hs)
def zb:LA:=[.int .i64 0,.str ⟨#[]⟩,.int .i64 0,.isl [] .full,.int .i64 0,.str ⟨#[]⟩,.int .i64 0,.isl [] .full]
theorem aAK:iH C.P 84=some (.agg zb):=k_
theorem Tz(b:T × T) (h:H) (i:Nat):stM C.P 84 (bS b) 0 h i (some (.cells zb .live))=some (pt h i (.cells (bS b).cells .live)):=by rw[show bS b=.agg (bS b).cells by simp only[bS,aV]];exact sq s86 h i _ _ (by simp[bS,aV]) rfl
theorem T5(b:T × T) (h:H) (i:Nat) (x1 x2 x3 x4 x5 x6 x7 x8:AV):stM C.P 84 (bS b) 0 h i (some (.cells [x1,x2,x3,x4,x5,x6,x7,x8] .live))=some (pt h i (.cells (bS b).cells .live)):=by rw[show bS b=.agg (bS b).cells by simp only[bS,aV]];exact sq s86 h i _ _ (by simp[bS,aV]) rfl
theorem Up(b:T × T):ldM C.P 39 0 (some (.cells (bS b).cells .live))=some (enc b.1):=by simp[ldM,aZ,a25,s25,bS,aV];rw[bE]
theorem Uo(b:T × T):ldM C.P 39 4 (some (.cells (bS b).cells .live))=some (enc b.2):=by simp[ldM,aZ,a25,s25,bS,aV];rw[bE]
theorem fB0(i:Nat):bF C.P 84 (.ptr i 0) 0=some (.ptr i 0):=k_
theorem fB1(i:Nat):bF C.P 84 (.ptr i 0) 1=some (.ptr i 4):=k_
attribute [go_sem] fB0 fB1 aAK
def V8(l:Lb) (m:Nat) (st:PT) (h:H):Prop:=∃k:Nat,m=l.length-k/\k<=l.length/\st.get 6=binds l/\st.get 7=.int .i64 l.length/\st.get 8=.int .i64 k/\OwnR 84 h (st.get 3) ((l.take k).map bS)
theorem OZ(l:Lb) (hs:small l) (hl:l.length<1000000):az C 45 [binds l]=some (binds l):=by
 refine ay func45 rfl λR t=>?_
 have u:fB C.P 45 (.isl (l.map bS) .unk)=some (.int .i64 l.length):=by rw[mW,aU]
 simp[go_sem,binds,u];refine bL (V8 l) l.length ⟨0,rfl,aN _,by simp[go_sem,binds],g_,g_,.inr ⟨1,g_,s_⟩⟩ ?_;rintro m w h ⟨k,rfl,L,j,q,n,c⟩;obtain⟨y,d⟩:∃v,v=w.get 3:=⟨_,rfl⟩
 rw[<-d]at c;simp only[binds]at j;by_cases a:k<l.length
 ·have f:(k:Int)<l.length:=o_;have o:=sS l k a .unk;have g:=hs _ (aF a);have z:=wS k o_;have⟨M,N,r,s,A,B⟩:=lQ (ys:=[l[k]]) (x:=.full) (OwnR.app c [.cells (bS l[k]).cells .live]) (by simp only[ag,aG,aQ];omega);rw[<-aJ a]at s;simp only[aS,bD]at r;have D:=sJ l[k].1 g.1;have E:=sJ l[k].2 g.2;have F:=yf l[k].1 l[k].2;have p:∀i,bv y=some i->i<h.length:=λi G=>OwnR.id_lt c G
  have I:=G8 l[k];generalize J:l[k]=b at *;simp[go_sem,j,q,n,f,o,I,aV,T5];refine gS 5 _ (by simp[gM]) rfl ?_;simp[go_sem,<-d,Up,Uo,D,E,F,pE,ft,r,n,-Int.natCast_add,z];refine⟨?_,l.length-(k+1),o_,k+1,rfl,a,by simp[go_sem,j,binds],g_,g_,by simpa[go_sem]using s⟩;rcases c with e|⟨id,e,O⟩
  ·simp[go_sem,ij,iK,iO,kW,fL,ce,e]
  have:=p id (by rw[e];rfl);simp[go_sem,ij,iK,iO,kW,fL,ce,e]
  (try omega)
 have:k=l.length:=o_;subst this;rw[ah]at c;have⟨x,K⟩:=c.isl;simp[go_sem,q,n,<-d,K];exact t ⟨.isl (l.map bS) x,by simp[aY,cC,f45,go_sem],aK rfl rfl⟩
theorem Di(l:Lb) (x:Ext) (hs:small l) (hl:l.length<1000000) (h:H):ak C h (.func 45 []) (some [.isl (l.map bS) x])=some (binds l,h):=aX (args':=[binds l]) rfl rfl s_ (OZ l hs hl)
theorem SZ(t:T):fK C.P 41 [(1,enc t)]=some (.agg [.isl [] .full,.int .i64 t.kind,.str t.name,.int .i64 t.sort,aM t.kids]):=by
 rw[bE t];have e:∀(k s:Int) (n:ByteArray) (l:LA),fK C.P 41 [(1,.agg [.int .i64 k,.str n,.int .i64 s,.isl l .unk])]=some (.agg [.isl [] .full,.int .i64 k,.str n,.int .i64 s,.isl l .unk]):=λ_ _ _ _=>k_
 exact e _ _ _ _
theorem Lw(h:H) (ks:Lq) (x:Ext) (t:T):cI C.P h 22 1 [(0,.agg [.isl (ks.map enc) x,.int .i64 t.kind,.str t.name,.int .i64 t.sort,aM t.kids])]=some (.isl [dG ⟨ks,t⟩] .full,h):=cG u22 s41 z41 rfl o_ rfl rfl rfl (by simp) rfl
def aB0(l:List Dm) (m:Nat) (st:PT) (h:H):Prop:=∃k:Nat,m=l.length-k/\k<=l.length/\st.get 9=bB l/\st.get 10=.int .i64 l.length/\st.get 11=.int .i64 k/\OwnR 41 h (st.get 3) ((l.take k).map dG)
def aBw(l:List Dm) (k:Nat) (d:Dm) (i:Nat) (m:Nat) (st:PT) (h:H):Prop:=∃(j:Nat) (v:AV),m=d.knows.length-j/\j<=d.knows.length/\st.get 9=bB l/\st.get 10=.int .i64 l.length/\st.get 11=.int .i64 k/\st.get 6=.ptr i 0/\st.get 20=aM d.knows/\st.get 21=.int .i64 d.knows.length/\st.get 22=.int .i64 j /\
 h[i]?=some (.cells [v,.int .i64 d.term.kind,.str d.term.name,.int .i64 d.term.sort,aM d.term.kids] .live)/\OwnR 39 h v ((d.knows.take j).map enc)/\OwnR 41 h (st.get 3) ((l.take k).map dG)/\(∀a,bv v=some a->bv (st.get 3)≠some a)
theorem OY(l:List Dm) (hs:∀d∈l,gy d) (hl:l.length<1000000):az C 46 [bB l]=some (bB l):=by
 refine ay func46 rfl λR hR=>?_
 have I:=pJ l;simp only[bB]at I;simp[go_sem,bB,I];refine bL (aB0 l) l.length ⟨0,rfl,aN _,by simp[go_sem,bB],g_,g_,.inr ⟨1,g_,s_⟩⟩ ?_;rintro m st h ⟨k,rfl,hk,J,f,c,b⟩;obtain⟨u,n⟩:∃v,v=st.get 3:=⟨_,rfl⟩
 rw[<-n]at b;simp only[bB]at J;by_cases o:k<l.length
 ·have K:(k:Int)<l.length:=o_;have q':=AU l k o .unk;have L:=hs _ (aF o);have w2:=wS k o_;have q0:=aJ o;have ct:=sJ l[k].term L.2.1;have bl:=SZ l[k].term;have lk:=re l[k];simp only[aM]at lk;have M:∀a,bv u=some a->a<h.length:=λa e=>OwnR.id_lt b e
  generalize hd:l[k]=d at *;have⟨N,z',z0⟩:=L;simp[go_sem,J,f,c,K,q',MF,aV,ct,bl,MY,lk];refine bL (aBw l k d (h.length+1)) d.knows.length ⟨0,.isl [] .full,rfl,aN _,by simp[go_sem,J,bB],g_,g_,g_,by simp[go_sem,aM],g_,g_,s_,.inl rfl,by simpa[go_sem,<-n]using OwnR.app b _,λa e=>by cases e⟩ ?_;clear J f c b n M;clear u;rintro m2 st h1 ⟨j,v,rfl,hj,J,f,c,Z,q1,O,w,D,y,b,z⟩;obtain⟨u,n⟩:∃v,v=st.get 3:=⟨_,rfl⟩
  rw[<-n]at b z;have z1:=(aB.1 D).1;have A:bv v≠some (h.length+1):=cM y D;have q2:bv u≠some (h.length+1):=cM b D;generalize h.length+1=i at *;by_cases r:j<d.knows.length
  ·have Q:(j:Int)<d.knows.length:=o_;have S:=eJ d.knows j r;have w3:=wS j o_;have cj:=sJ d.knows[j] (N _ (aF r));have⟨t,E,U,F,s,B⟩:=eW (ys:=[d.knows[j]]) (x:=.full) (OwnR.app y [.cells (enc d.knows[j]).cells .live]) (by simp only[ag,aG,aQ];omega);rw[<-aJ r]at F;simp only[aS,bD]at U;have V:=s.get (ga D) A;have X:=(aB.1 V).1;have q3:=s.1;simp only[aL,aG,aQ]at q3;have Y:bv t≠some i:=by
    rcases B with q|⟨_,q⟩
    ·rw[q];exact A
    rw[q];simp only[ne_eq,aA,aL,aG,aQ];omega
   have q4:OwnR 41 E u ((l.take k).map dG):=(OwnR.app b [.cells (enc d.knows[j]).cells .live]).keep s λa e=>λq=>z a q e
   have q5:OwnR 39 (E.set i (.cells [t,.int .i64 d.term.kind,.str d.term.name,.int .i64 d.term.sort,aM d.term.kids] .live)) t ((d.knows.take (j+1)).map enc):=F.keep (Keep.set _ _ _) (λa hi e=>by simp only[aA]at e;subst e;exact Y hi)
   have q6:OwnR 41 (E.set i (.cells [t,.int .i64 d.term.kind,.str d.term.name,.int .i64 d.term.sort,aM d.term.kids] .live)) u ((l.take k).map dG):=q4.keep (Keep.set _ _ _) (λa hi e=>by simp only[aA]at e;subst e;exact q2 hi)
   have l2:∀g,aW C.P (h1++g) 37 (.ptr i 0)=some v:=λg=>by obtain⟨x,rfl⟩:=y.isl;simp[aW,ga D,aZ,a23,s23]
   have q7:cL C.P E 37 (.ptr i 0) t=some (E.set i (.cells [t,.int .i64 d.term.kind,.str d.term.name,.int .i64 d.term.sort,aM d.term.kids] .live)):=by obtain⟨x,rfl⟩:=F.isl;simp[cL,V,s23]
   have q8:bF C.P 41 (.ptr i 0) 0=some (.ptr i 0):=HT i;have q9:∀a,bv v=some a->a≠i/\a<h1.length:=λa e=>⟨λq=>by subst q;exact A e,OwnR.id_lt y e⟩
   simp[go_sem,q1,O,w,Q,S,lE,aV];refine gS 9 _ (by simp[gM]) rfl ?_;simp[go_sem,Z,q8,l2,cj,dp,U,q7,w,-Int.natCast_add,w3];refine⟨?_,d.knows.length-(j+1),o_,j+1,t,rfl,r,g_,g_,g_,g_,g_,g_,g_,by rw[aH X],q5,by simpa[go_sem,<-n]using q6,?_⟩
   ·rcases y with rfl|⟨id,rfl,_⟩
    ·simp[go_sem,ij,iK,iO,kW,fL,ce]
    have:=q9 id rfl;simp[go_sem,ij,iK,iO,kW,fL,ce]
    (try omega)
   intro a e q;have q:bv u=some a:=by simpa[go_sem,<-n]using q
   rcases B with p|⟨_,p⟩
   ·rw[p]at e;exact z a e q
   rw[p]at e;simp only[aA,aL,aG,aQ]at e;have:=OwnR.id_lt b q;omega
  have:j=d.knows.length:=o_;subst this;rw[ah]at y;obtain⟨x,rfl⟩:=y.isl;have⟨t,E,U,F,s,B⟩:=pS (ys:=[d]) (x:=.full) b (by simp only[ag,aG,aQ];omega);rw[<-q0]at F;simp only[aS,bD]at U;have bx:=Lw h1 d.knows x d.term;simp[go_sem,Z,c,O,w,<-n,G D,Nb,bx,U,-Int.natCast_add,w2];exact⟨l.length-(k+1),o_,k+1,rfl,o,g_,g_,g_,by simpa[go_sem]using F⟩
 have:k=l.length:=o_;subst this;rw[ah]at b;have⟨x,hx⟩:=b.isl;simp[go_sem,f,c,<-n,hx];exact hR ⟨.isl (l.map dG) x,by simp[aY,cC,f46,go_sem],aK rfl rfl⟩
theorem Dh(l:List Dm) (x:Ext) (hs:∀d∈l,gy d) (hl:l.length<1000000) (h:H):ak C h (.func 46 []) (some [.isl (l.map dG) x])=some (bB l,h):=aX (args':=[bB l]) rfl rfl s_ (OY l hs hl)
def kid(ns:List Nd) (i j:Nat):Option Nat:=(ns[i]?).bind λn=>n.kids[j]?
theorem J4(l:List Int):oU (bP l)=true:=by
 induction l with
 |nil=>rfl
 |cons a l b=>simp only[oU,bP,aS,dt]at b ⊢;rw[b];rfl
theorem Ll(p:List Int) (x:Ext) (h:H) (hp:p.length<=100000):∃v h',ak C h (.func 32 []) (some [.isl (bP p) x])=some (v,h')/\OwnR 3 h' v (bP p)/\h.length<=h'.length/\(∀i,i<h.length->h'[i]?=h[i]?)/\∀i,bv v=some i->h.length<=i:=by
 have b:eE C.P 32=true:=k_;have⟨g,j⟩:=eo (h:=h) (l:=[.isl (bP p) x]) (l':=[.isl (bP p) .unk]) rfl rfl dD (by unfold dD;simp);cases p with
 |nil=>
  refine⟨.isl [] .full,h,?_,.inl rfl,aR _,λ_ _=>rfl,λi c=>by cases c⟩;simp only[ak,b,if_true,bm];unfold dM;rw[show C.mode 32=.ownT from rfl];dsimp only;rw[j];simp only[Go.V.freeze,g];have hp:C.prim 32 [.isl (bP []) .unk] []=some (.isl [] .full,[]):=by simp[C,prim,mD,cloneIds,bP]
  have k:Go.V.Call C 32 [.isl (bP []) .unk] []=some (.isl [] .full,[]):=oo (C:=C) (fn:=f32) func32 hp;rw[k];rfl
 |cons a p=>
  have d:∃r e,Go.V.Call C 32 [.isl (bP (a::p)) .unk] []=some (r,e)/\∃t,r=.isl (bP (a::p)) (.tok t)/\e[t]?=some (.tok (bP (a::p)).length 3):=by
   refine lC (by simp[C,prim,mD,cloneIds,bP]) func32 rfl k_ (by simp[f32]) λR m=>?_
   have nz:iN C.P .eql 53 (.tmp 3) (.const (.slice none 0 0)) (.isl (bP (a::p)) .unk) (.isl [] .full)=some (.bool false):=k_;have n:∀h,bu C.P false h 53 (.isl [] .full) (.isl (bP (a::p)) .unk)=some (.isl (bP (a::p)) (.tok h.length),h++[.tok (bP (a::p)).length 3]):=λh=>by have o:=nE (a::p);rw[iE];simp only[eV,u53,s3,b3,z3,lp,o];simp only[bP,aS,aG,aU]at hp ⊢;simp[gn];omega
   simp[go_sem,nz,xr,n];exact m _ _ _ (.inr rfl) ⟨.isl (bP (a::p)) (.tok 1),by simp[aY,cC,f32,go_sem],1,rfl,s_⟩
  obtain⟨r,e,d,t,rfl,q⟩:=d;refine⟨.isl (bP (a::p)) (.tok h.length),h++[.tok (bP (a::p)).length 3],?_,.inr ⟨h.length,rfl,s_⟩,s_,λi c=>aP c,λi c=>by simp only[bv,aA]at c;omega⟩;simp only[ak,b,if_true,bm];unfold dM;rw[show C.mode 32=.ownT from rfl];dsimp only;rw[j];simp only[Go.V.freeze,g];rw[d];dsimp only;unfold ky;have f:cr C.P 3=some 1:=s3;simp only[ju,oA,q,J4,f,and_self,if_true]
theorem z53:gH C.P 53=true:=k_
def PathC(h:H) (id n:Nat) (P:Nat->List Int):Prop:=∃cs,h[id]?=some (.cells cs .live)/\cs.length=n/\∀k,k<n->∃x,cs[k]?=some (.isl (bP (P k)) x)
theorem PathC.load{h:H}{id n:Nat}{P:Nat->List Int}(p:PathC h id n P){k:Nat}(hk:k<n):∃x,aW C.P h 53 (.ptr id k)=some (.isl (bP (P k)) x):=by have⟨d,a,e,b⟩:=p;have⟨x,c⟩:=b k hk;refine⟨x,?_⟩;rw[Na,HH,a];simp[ldM,aZ,a53,s53,c]
theorem PathC.keep{h h':H}{id n:Nat}{P:Nat->List Int}(p:PathC h id n P) (k:h'[id]?=h[id]?):PathC h' id n P:=by have⟨a,b,c,d⟩:=p;exact⟨a,by rw[k];exact b,c,d⟩
theorem PathC.store{h:H}{id n:Nat}{P:Nat->List Int}(p:PathC h id n P){k:Nat}(hk:k<n) (q:List Int) (x:Ext):∃h',cL C.P h 53 (.ptr id k) (.isl (bP q) x)=some h'/\PathC h' id n (λi=>if i=k then q else P i)/\h'.length=h.length/\∀i,i≠id->h'[i]?=h[i]?:=by
 have⟨b,c,d,f⟩:=p;have g:=(aB.1 c).1;refine⟨h.set id (.cells (b.set k (.isl (bP q) x)) .live),?_,⟨b.set k (.isl (bP q) x),aH g,by simpa using d,λi a=>?_⟩,s_,λi a=>aE (λe=>a e.symm)⟩
 ·rw[GV,HH,c,sr s53 h id k _ _ rfl o_];rfl
 by_cases e:i=k
 ·subst e;exact⟨x,by rw[aH o_];simp⟩
 have⟨y,j⟩:=f i a;exact⟨y,by rw[aE (λq=>e q.symm),j];simp[e]⟩
def fmC(f:Fm):LA:=[.isl (bP f.path) .unk,binds f.bind,bB f.dem]
def Vb(l:List Fm):LA:=l.flatMap fmC
def RowM2(h:H) (v:AV) (fs:List Fm):Prop:=(fs=[]/\v=.isl [] .full)\/∃id,v=.msl id 0 3 fs.length none/\h[id]?=some (.cells (Vb fs) .live)
theorem RowM2.keep{h h':H}{v:AV}{fs:List Fm}(r:RowM2 h v fs) (k:∀i,bv v=some i->h'[i]?=h[i]?):RowM2 h' v fs:=by
 rcases r with r|⟨id,rfl,a⟩
 ·exact .inl r
 exact .inr ⟨id,rfl,by rw[k id rfl];exact a⟩
theorem RowM2.id_lt{h:H}{v:AV}{fs:List Fm}(r:RowM2 h v fs){i:Nat}(e:bv v=some i):i<h.length:=by
 rcases r with⟨_,rfl⟩|⟨id,rfl,a⟩
 ·cases e
 simp only[bv,aA]at e;subst e;exact(aB.1 a).1
end Go.VZ
