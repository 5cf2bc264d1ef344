/- A part of the proof. -/
import Derived.Test.YtbcnnpkfkopoeaaGreatDoorSxqh
import Derived.Test.YtbcnnpkfkopoeaaGreatDoorSxqi
import Derived.Test.YtbcnnpkfkopoeaaGreatDoorSxqj
import Derived.Test.YtbcnnpkfkopoeaaGreatDoorSxqk
import Derived.Sort.Grow
import Derived.Deep.Draws
import Derived.Shelf.SlSortCmp.NoneTotal
import Derived.Test.YtbcnnpkfkopoeaaGreatDoorSb
import Derived.Shelf.Strconv.Itoa3
import Derived.Shelf.LaysM
set_option maxHeartbeats 4000000
set_option maxRecDepth 8000
namespace Go.VZ
open Go Go.V Go.Proofs Tryz Go.RowKit
theorem nG{f:FuncId}{args args':LA}{v:AV}(hb:dl CK.P f=true) (hm:CK.mode f=.strip) (hd:iT args=some args') (hs:args.all short=true) (hl:args.length<90000)
  (hc:az CK f args'=some v) (h:H):aj CK h (.func f []) (some args)=some (v,h):=by
 simp only[aj,hb,if_true,br];rw[kE hm hd hs hl,hc]
theorem Vo:CK.P.underlying 56=some (.slice 9):=underlying56
theorem Yv:CK.P.underlying 32=some (.slice 41):=underlying32
theorem Yu:∃e,CK.P.underlying 46=some (.slice e):=⟨_,underlying46⟩
theorem ks9:cw CK.P 9=some 1:=k_
theorem Yw:cw CK.P 41=some 4:=k_
theorem S0:cw CK.P 34=some 3:=k_
theorem kz9:ip CK.P 9=true:=k_
theorem Yt:ip CK.P 41=true:=k_
theorem Vu:gW CK.P 34=some true:=k_
theorem Vn:iV CK.P 34=some (.agg [.int .i64 0,.int .i64 0,.isl [] .full]):=k_
theorem Yy(h:H) (a:ByteArray):cQ CK.P h 56 1 [(0,.str a)]=some (.isl [.str a] .full,h):=cY Vo ks9 kz9 rfl o_ rfl rfl rfl s_ rfl
theorem Vt(h:H) (a b:ByteArray):cQ CK.P h 56 2 [(0,.str a),(1,.str b)]=some (.isl [.str a,.str b] .full,h):=cY Vo ks9 kz9 rfl o_ rfl rfl rfl s_ rfl
theorem Yz(h:H):cQ CK.P h 32 1 [(0,tA)]=some (.isl [tA] .full,h):=cY Yv Yw Yt rfl o_ rfl rfl rfl s_ rfl
def fC':AV:=.agg [.int .i64 3,.int .i64 1,.isl [tA] .full]
theorem S5:fV CK.P 34 [(0,.int .i64 3),(1,.int .i64 1),(2,.isl [tA] .full)]=some fC':=k_
theorem ZJ:st [97,116,116,40,107,58,97,110,121,41]=.str ⟨#[97,116,116,40,107,58,97,110,121,41]⟩:=k_
theorem ZI:st [97,116,116,40,101,110,99,40,115,58,97,110,121,44,32,107,58,97,110,121,41,41]=.str ⟨#[97,116,116,40,101,110,99,40,115,58,97,110,121,44,32,107,58,97,110,121,41,41]⟩:=k_
theorem e_x:st [98,101,103,105,110,32,49,40,63,120,41,32,38,32,97,116,116,40,63,121,41,32,45,62,32,99,108,97,105,109,32,49,40,63,120,41]=.str ⟨#[98,101,103,105,110,32,49,40,63,120,41,32,38,32,97,116,116,40,63,121,41,32,45,62,32,99,108,97,105,109,32,49,40,63,120,41]⟩:=k_
theorem e_y:st [98,101,103,105,110,32,49,40,63,121,41,32,38,32,97,116,116,40,63,121,41,32,45,62,32,99,108,97,105,109,32,49,40,63,120,41]=.str ⟨#[98,101,103,105,110,32,49,40,63,121,41,32,38,32,97,116,116,40,63,121,41,32,45,62,32,99,108,97,105,109,32,49,40,63,120,41]⟩:=k_
theorem Y5(h:H):aj CK h (.func 10 []) (some [.isl [.str ⟨#[97,116,116,40,107,58,97,110,121,41]⟩,.str ⟨#[97,116,116,40,101,110,99,40,115,58,97,110,121,44,32,107,58,97,110,121,41,41]⟩] .full])=some (lK,h):=nG k_ k_ (args':=[.isl [.str ⟨#[97,116,116,40,107,58,97,110,121,41]⟩,.str ⟨#[97,116,116,40,101,110,99,40,115,58,97,110,121,44,32,107,58,97,110,121,41,41]⟩] .unk]) rfl rfl s_ (by rw[<-ZJ,<-ZI];exact gc Sb) h
theorem Y4(h:H):aj CK h (.func 10 []) (some [.isl [.str ⟨#[98,101,103,105,110,32,49,40,63,120,41,32,38,32,97,116,116,40,63,121,41,32,45,62,32,99,108,97,105,109,32,49,40,63,120,41]⟩] .full])=some (lX,h):=nG k_ k_ (args':=[.isl [.str ⟨#[98,101,103,105,110,32,49,40,63,120,41,32,38,32,97,116,116,40,63,121,41,32,45,62,32,99,108,97,105,109,32,49,40,63,120,41]⟩] .unk]) rfl rfl s_ (by rw[<-e_x];exact gc Sa) h
theorem Y3(h:H):aj CK h (.func 10 []) (some [.isl [.str ⟨#[98,101,103,105,110,32,49,40,63,121,41,32,38,32,97,116,116,40,63,121,41,32,45,62,32,99,108,97,105,109,32,49,40,63,120,41]⟩] .full])=some (lY,h):=nG k_ k_ (args':=[.isl [.str ⟨#[98,101,103,105,110,32,49,40,63,121,41,32,38,32,97,116,116,40,63,121,41,32,45,62,32,99,108,97,105,109,32,49,40,63,120,41]⟩] .unk]) rfl rfl s_ (by rw[<-e_y];exact gc SZ) h
theorem Y1(h:H):aj CK h (.func 11 []) (some [.str ⟨#[107]⟩,.int .i64 0])=some (tK,h):=nG k_ k_ rfl rfl s_ (by have:=gc UE;rwa[show st [107]=.str ⟨#[107]⟩ by kernel_rfl]at this) h
theorem Y0(h:H):aj CK h (.func 11 []) (some [.str ⟨#[115]⟩,.int .i64 0])=some (tS,h):=nG k_ k_ rfl rfl s_ (by have:=gc UD;rwa[show st [115]=.str ⟨#[115]⟩ by kernel_rfl]at this) h
theorem Y2(h:H):aj CK h (.func 11 []) (some [.str ⟨#[97]⟩,.int .i64 0])=some (tA,h):=nG k_ k_ rfl rfl s_ (by have:=gc UF;rwa[show st [97]=.str ⟨#[97]⟩ by kernel_rfl]at this) h
theorem Y9(h:H):aj CK h (.func 8 []) (some [lK,tK])=some (.tuple [.int .i64 0,.int .i64 0],h):=nG k_ k_ k_ k_ s_ (gc Lo) h
theorem Y8(h:H):aj CK h (.func 8 []) (some [lK,tS])=some (.tuple [.int .i64 0,.int .i64 15],h):=nG k_ k_ k_ k_ s_ (gc Ln) h
theorem Y7(h:H):aj CK h (.func 12 []) (some [lX,fC'])=some (.tuple [.int .i64 0,.int .i64 15],h):=nG k_ k_ (args':=[lX,fC]) k_ k_ s_ (gc RM) h
theorem Y6(h:H):aj CK h (.func 12 []) (some [lY,fC'])=some (.tuple [.int .i64 0,.int .i64 0],h):=nG k_ k_ (args':=[lY,fC]) k_ k_ s_ (gc RL) h
theorem k27:∃x e,∀h,aj CK h (.func 13 []) (some [lK,Km tK,.int .i64 1])=some (.tuple [.isl [x] e,.int .i64 0],h):=by have⟨x,e,a⟩:=Ce SG;exact⟨x,e,λh=>nG k_ k_ k_ k_ s_ a h⟩
@[go_sem] theorem Wv {C:Cfg}{cf:FuncId}{ops:Array Oper}{d:Tmp}{ty:TypeId}{p:String}{af:Array Edge}{l:List Oper}{s:PT}{h:H}{K:PT->H->Prop}(t:TypeId) (parts:List (Nat × Operand)) :
  OW C cf ops (⟨some d,.build t parts.toArray,ty,p,af,none⟩::l) s h K↔bO (bi1 (fT s parts) (fV C.P t)) λv=>OW C cf ops l (s.set d v) h K:=OWn (by simp only[opN,bi1];cases fT s parts<;>rfl) rfl rfl
theorem Vp(a b c:AV):ah CK.P [.cells [a,b,c] .live] 34 (.ptr 0 0) fC'=some [.cells fC'.cells .live]:=by simp[ah,S0,fC',AV.cells]
theorem Vq:aJ CK.P [.cells fC'.cells .live] 34 (.ptr 0 0)=some fC':=by simp[aJ,aY,Vu,S0,fC',AV.cells]
theorem Vr:aZ CK.P 24 lK (.int .i64 0)=some (.iptr (cl [] 1 0 [tK]) 0):=k_
theorem Vs:bp CK.P 39 (.iptr (cl [] 1 0 [tK]) 0) 1=some (.iptr (cl [] 1 0 [tK]) 1):=k_
theorem S2(h:H):aJ CK.P h 34 (.iptr (cl [] 1 0 [tK]) 1)=some (Km tK):=by simp[aJ,aY,Vu,S0,cl,Km,AV.cells]
theorem S1(x:AV) (e:Ext):fG CK.P 46 (.isl [x] e)=some (.int .i64 1):=by have⟨t,a⟩:=Yu;simp[fG,a]
theorem VY:CK.mix 4 5=false:=k_
theorem VX:CK.mix 4 6=false:=k_
theorem nts(s:ByteArray):au (AV.str s)=true:=rfl
theorem nti(k:IntKind) (n:Int):au (AV.int k n)=true:=rfl
theorem ntl(l:LA) (x:Ext):au (AV.isl l x)=true:=rfl
theorem RG:az CK 4 []=some (.bool true):=by
 refine bL func4 rfl λR a=>?_
 have⟨b,c,k27⟩:=k27;simp[go_sem,dP,Yy,Vt,Yz,nts,nti,ntl,Y5,Y4,Y3,Y1,Y0,Y2,Y9,Y8,Y7,Y6,S5,Vn,k27,Vp,Vq,Vr,Vs,S2,S1,VY,VX,am,show au tA=true from rfl];refine a ⟨.bool true,by simp[ag,cO,f4,go_sem],aU rfl rfl⟩
theorem BQ{w:World}(hg:kF (λ_ _=>True) w):Calls prog 4 #[] w λe w'=>e=.returned (.bool true)/\Grows w w':=by
 have b:=RG;unfold az at b;split at b<;>try(cases b;done)
 rename_i r c g;refine((zS (C:=CK) Ey MA).fn 4 [] [] r c k_ g w.heap.size (λ_ _=>True) [] w #[] (.start hg) rfl (λi a v h=>by simp at h)).mono ?_;rintro e w' ⟨v,rfl,σ',d,f,j⟩;have k:=iW (d.stiller (da c)) cM r (.bool true) v b (j.step (.stiller d (da c)));cases k;exact⟨rfl,rH f.below f.drawn⟩
end Go.VZ
namespace Go.VP
open Go Go.V Go.Proofs Tryz TL
open Go.VZ (enc Am nF terms bV aq am ext pv)
noncomputable def C:Cfg:={P:=prog,mode:=λ_=>.strip,wr:=λ_ _=>false,prim:=λ_ _ _=>none,ext:=ext,extOk:=pv,mix:=λ_ _=>false}
@[go_sem] theorem wrC (f:FuncId) (t:Tmp):C.wr f t=false:=(rfl)
@[go_sem] theorem gM (f:FuncId) (i:Nat):C.mix f i=false:=(rfl)
theorem u23:C.P.underlying 32=some (.slice 41):=underlying32
theorem s3:cw C.P 3=some 1:=k_
theorem s9:cw C.P 9=some 1:=k_
theorem s23:cw C.P 32=some 1:=k_
theorem s25:cw C.P 41=some 4:=k_
theorem a3:gW C.P 3=some false:=k_
theorem a9:gW C.P 9=some false:=k_
theorem a23:gW C.P 32=some false:=k_
theorem a25:gW C.P 41=some true:=k_
attribute [go_sem] u23 s3 s9 s23 s25 a3 a9 a23 a25
theorem fq(es:LA) (x:Ext):fG C.P 32 (.isl es x)=some (.int .i64 es.length):=by simp[fG,u23]
theorem lu(l:Lq) (k:Nat) (hk:k<l.length) (x:Ext):aZ C.P 32 (.isl (l.map enc) x) (.int .i64 k)=some (.iptr (enc l[k]) 0):=by simp[aZ,u23,s25,aq,hk]
theorem ee(t:T) (h:H):aJ C.P h 41 (.iptr (enc t) 0)=some (enc t):=by simp[aJ,aY,a25,s25,aq];rw[bV]
theorem HJ(i:Nat):bp C.P 41 (.ptr i 0) 0=some (.ptr i 0):=k_
theorem HI(i:Nat):bp C.P 41 (.ptr i 0) 1=some (.ptr i 1):=k_
theorem HH(i:Nat):bp C.P 41 (.ptr i 0) 2=some (.ptr i 2):=k_
theorem HG(i:Nat):bp C.P 41 (.ptr i 0) 3=some (.ptr i 3):=k_
attribute [go_sem] HJ HI HH HG
theorem mf{f:FuncId}{args args':LA}{v:AV}{h:H}(hb:dl C.P f=true) (hm:C.mode f=.strip) (hd:iT args=some args') (hs:args.all short=true) (hl:args.length<90000)
  (hc:az C f args'=some v):aj C h (.func f []) (some args)=some (v,h):=by
 simp only[aj,hb,if_true,br];rw[kE hm hd hs hl,hc]
theorem an{f:FuncId}{args args':LA}{v:AV}{h:H}(hd:iT args=some args') (hs:args.all short=true) (hl:args.length<90000)
  (hc:az C f args'=some v) (hb:dl C.P f=true:=by(kernel_rfl)) (hm:C.mode f=.strip:=by rfl):aj C h (.func f []) (some args)=some (v,h):=mf hb hm hd hs hl hc
theorem fv(t:T):iT [enc t]=some [enc t]:=by rw[bV];rfl
theorem bF(t:T):short (enc t)=true:=by rw[bV];rfl
theorem gx(t:T) (h:H):mg C.P h 41 (enc t)=some (.ptr h.length 0,h++[.cells [.int .i64 t.kind,.str t.name,.int .i64 t.sort,terms t.kids] .live]):=by simp[mg,s25,aq];rw[bV];rfl
attribute [go_sem] gx
def OR(t:T) (n:Nat) (s:PT) (h:H):Prop:=∃k:Nat,n=t.kids.length-k/\k<=t.kids.length/\h=[.cells [.int .i64 t.kind,.str t.name,.int .i64 t.sort,terms t.kids] .live]/\s.get 1=.ptr 0 0/\s.get 3=.int .i64 (sizes (t.kids.take k)+1:Nat)/\s.get 4=.int .i64 k
theorem Mn(t:T):aJ C.P [.cells [.int .i64 t.kind,.str t.name,.int .i64 t.sort,terms t.kids] .live] 32 (.ptr 0 3)=some (terms t.kids):=by simp[aJ,aY,a23,s23]
theorem Ca(t:T) (hc:∀k∈t.kids,az C 75 [enc k]=some (.int .i64 k.size)) (hs:t.size<4000000):az C 75 [enc t]=some (.int .i64 t.size):=by
 refine bL func75 rfl λR l=>?_
 have c:t.size=sizes t.kids+1:=by cases t;rfl
 simp[go_sem];refine bX (OR t) t.kids.length ⟨0,by simp[go_sem,sizes]⟩ ?_;rintro n s h ⟨k,rfl,p,rfl,e,f,j⟩;have a:=Mn t;by_cases b:k<t.kids.length
 ·have d:(k:Int)<t.kids.length:=o_;have g:=lu t.kids k b .unk;have i:∀h,aj C h (.func 75 []) (some [enc t.kids[k]])=some (.int .i64 t.kids[k].size,h):=λh=>an (fv _) (by simp[bF]) s_ (hc _ (aG b))
  have q:=take_sizes b;have r:=take_sizes_le t.kids (k+1);have u:=len_sizes t.kids;have m:IntKind.i64.wrap ((sizes (t.kids.take k)+1:Nat)+(t.kids[k].size:Int))=(sizes (t.kids.take (k+1))+1:Nat):=by rw[ay o_];omega
  have o:=wS k o_;generalize v:sizes (t.kids.take k)+1=z at *;simp only[terms]at a;simp[go_sem,e,f,j,a,terms,fq,d,g,ee,i,-Int.natCast_add,m,o];refine⟨t.kids.length-(k+1),o_,k+1,rfl,b,?_⟩;simp[go_sem,e,terms]
 have:k=t.kids.length:=o_;subst this;rw[ak,<-c]at f;generalize t.size=z at *;simp only[terms]at a;simp[go_sem,e,f,j,a,terms,fq];refine l ⟨_,rfl,?_⟩;simp[go_sem,c];exact aU rfl rfl
theorem tB(t:T):t.size<4000000->az C 75 [enc t]=some (.int .i64 t.size):=by
 induction t using T.ind with
 |_ t b=>exact λc=>Ca t (λk a=>b k a (by have:=kid_size a;omega)) c
def OQ(t:T) (n:Nat) (s:PT) (_h:H):Prop:=∃k:Nat,n=t.kids.length-k/\k<=t.kids.length/\s.get 7=terms t.kids/\s.get 8=.int .i64 t.kids.length/\s.get 3=.int .i64 (sizes (t.kids.take k)+1:Nat)/\s.get 9=.int .i64 k
theorem zV:iV C.P 41=some (.agg [.int .i64 0,.str ⟨#[]⟩,.int .i64 0,.isl [] .full]):=k_
attribute [go_sem] zV
theorem Jh(t:T) (a b c d:AV) (h:H):ah C.P (h++[.cells [a,b,c,d] .live]) 41 (.ptr h.length 0) (enc t)=some (h++[.cells [.int .i64 t.kind,.str t.name,.int .i64 t.sort,terms t.kids] .live]):=by simp[ah,s25];rw[bV];rfl
theorem B2(t:T) (h:H):aJ C.P (h++[.cells [.int .i64 t.kind,.str t.name,.int .i64 t.sort,terms t.kids] .live]) 41 (.ptr h.length 0)=some (enc t):=by simp[aJ,aY,a25,s25];rw[bV]
theorem CZ(t:T) (hc:∀k∈t.kids,az C 136 [enc k]=some (.int .i64 k.size)) (hs:t.size<4000000):az C 136 [enc t]=some (.int .i64 t.size):=by
 refine bL func136 rfl λR m=>?_
 have d:t.size=sizes t.kids+1:=size_kids t;have b:=Mn t;simp only[terms]at b;simp[go_sem,b,terms,fq];refine bX (OQ t) t.kids.length ⟨0,by simp[go_sem,sizes,terms]⟩ ?_;rintro n s h ⟨k,rfl,q,e,f,g,l⟩;by_cases a:k<t.kids.length
 ·have c:(k:Int)<t.kids.length:=o_;have i:=lu t.kids k a .unk;have j:∀h,aj C h (.func 136 []) (some [enc t.kids[k]])=some (.int .i64 t.kids[k].size,h):=λh=>an (fv _) (by simp[bF]) s_ (hc _ (aG a))
  have r:=take_sizes a;have u:=take_sizes_le t.kids (k+1);have v:=len_sizes t.kids;have o:IntKind.i64.wrap ((sizes (t.kids.take k)+1:Nat)+(t.kids[k].size:Int))=(sizes (t.kids.take (k+1))+1:Nat):=by rw[ay o_];omega
  have p:=wS k o_;generalize w:sizes (t.kids.take k)+1=z at *;simp only[terms]at e;simp[go_sem,e,f,g,l,c,i,ee,Jh,B2,j,-Int.natCast_add,o,p];refine⟨t.kids.length-(k+1),o_,k+1,rfl,a,?_⟩;simp[go_sem,e,f,terms]
 have:k=t.kids.length:=o_;subst this;rw[ak,<-d]at g;generalize t.size=z at *;simp[go_sem,f,g,l];refine m ⟨_,rfl,?_⟩;simp[go_sem];exact aU rfl rfl
theorem sy(t:T):t.size<4000000->az C 136 [enc t]=some (.int .i64 t.size):=by
 induction t using T.ind with
 |_ t b=>exact λc=>CZ t (λk a=>b k a (by have:=kid_size a;omega)) c
theorem xY(a b:Int):az C 135 [.int .i64 a,.int .i64 b]=some (.int .i64 (sgn a b)):=by
 refine bL func135 rfl λR e=>?_
 by_cases c:a<b
 ·simp[go_sem,c];refine e ⟨_,rfl,?_⟩;simp[go_sem,sgn,c];exact aU rfl rfl
 by_cases d:b<a
 ·simp[go_sem,c,d];refine e ⟨_,rfl,?_⟩;simp[go_sem,sgn,c,d];exact aU rfl rfl
 simp[go_sem,c,d];refine e ⟨_,rfl,?_⟩;simp[go_sem,sgn,c,d];exact aU rfl rfl
theorem Df(a b:Int) (h:H):aj C h (.func 135 []) (some [.int .i64 a,.int .i64 b])=some (.int .i64 (sgn a b),h):=an rfl rfl s_ (xY a b)
theorem Da(a b:ByteArray) (h:H):aj C h (.func 204 []) (some [.str a,.str b])=some (.int .i64 (Lib.compareBytes a.data.toList b.data.toList),h):=by have c:dl C.P 204=false:=k_;simp only[aj,c];rfl
theorem pz(a b:ByteArray):az C 175 [.str a,.str b]=some (.int .i64 (Lib.compareBytes a.data.toList b.data.toList)):=by
 refine bL func175 rfl λR c=>?_
 simp[go_sem,Da];refine c ⟨_,rfl,?_⟩;simp[go_sem];exact aU rfl rfl
theorem Dd(a b:ByteArray) (h:H):aj C h (.func 175 []) (some [.str a,.str b])=some (.int .i64 (Lib.compareBytes a.data.toList b.data.toList),h):=an rfl rfl s_ (pz a b)
theorem sP(a b:ByteArray):az C 137 [.str a,.str b]=some (.int .i64 (Lib.compareBytes a.data.toList b.data.toList)):=by
 refine bL func137 rfl λR c=>?_
 simp[go_sem,Dd];refine c ⟨_,rfl,?_⟩;simp[go_sem];exact aU rfl rfl
theorem De(a b:ByteArray) (h:H):aj C h (.func 137 []) (some [.str a,.str b])=some (.int .i64 (Lib.compareBytes a.data.toList b.data.toList),h):=an rfl rfl s_ (sP a b)
theorem xI(t:T) (hs:t.size<4000000) (h:H):aj C h (.func 136 []) (some [enc t])=some (.int .i64 t.size,h):=an (fv _) (by simp[bF]) s_ (sy t hs)
def tM(a b:ByteArray):Int:=Lib.compareBytes a.data.toList b.data.toList
def two(a b:T):H:=[.cells [.int .i64 a.kind,.str a.name,.int .i64 a.sort,terms a.kids] .live,.cells [.int .i64 b.kind,.str b.name,.int .i64 b.sort,terms b.kids] .live]
theorem pZ(a b:T):aJ C.P (two a b) 41 (.ptr 0 0)=some (enc a):=by simp[two,aJ,aY,a25,s25];rw[bV]
theorem pX(a b:T):aJ C.P (two a b) 41 (.ptr 1 0)=some (enc b):=by simp[two,aJ,aY,a25,s25];rw[bV]
theorem pY(a b:T):aJ C.P (two a b) 3 (.ptr 0 0)=some (.int .i64 a.kind):=by simp[two,aJ,aY,a3,s3]
theorem pW(a b:T):aJ C.P (two a b) 3 (.ptr 1 0)=some (.int .i64 b.kind):=by simp[two,aJ,aY,a3,s3]
theorem qg(a b:T):aJ C.P (two a b) 9 (.ptr 0 1)=some (.str a.name):=by simp[two,aJ,aY,a9,s9]
theorem qf(a b:T):aJ C.P (two a b) 9 (.ptr 1 1)=some (.str b.name):=by simp[two,aJ,aY,a9,s9]
theorem xV(a b:T):aJ C.P (two a b) 3 (.ptr 0 2)=some (.int .i64 a.sort):=by simp[two,aJ,aY,a3,s3]
theorem xU(a b:T):aJ C.P (two a b) 3 (.ptr 1 2)=some (.int .i64 b.sort):=by simp[two,aJ,aY,a3,s3]
theorem ml(a b:T):aJ C.P (two a b) 32 (.ptr 0 3)=some (.isl (a.kids.map enc) .unk):=by simp[two,aJ,aY,a23,s23,terms]
theorem oo(a b:T):aJ C.P (two a b) 32 (.ptr 1 3)=some (.isl (b.kids.map enc) .unk):=by simp[two,aJ,aY,a23,s23,terms]
theorem yO(a b:T):mg C.P [.cells [.int .i64 a.kind,.str a.name,.int .i64 a.sort,terms a.kids] .live] 41 (enc b)=some (.ptr 1 0,two a b):=by rw[gx];rfl
theorem DQ(a b:T):a.cmp b=thn (sgn a.size b.size) (thn (sgn a.kind b.kind) (thn (Lib.compareBytes a.name.data.toList b.name.data.toList) (thn (sgn a.sort b.sort) (thn (sgn a.kids.length b.kids.length) (cmps a.kids b.kids))))):=by cases a;cases b;rw[T.cmp];rfl
theorem fA(a b:T):iT [enc a,enc b]=some [enc a,enc b]:=by rw[bV a,bV b];rfl
def head(a b:T):Int:=thn (sgn a.size b.size) (thn (sgn a.kind b.kind) (thn (tM a.name b.name) (thn (sgn a.sort b.sort) (sgn a.kids.length b.kids.length))))
theorem xW(a b c:Int):thn (thn a b) c=thn a (thn b c):=by unfold thn;split<;>simp_all
theorem Aq(a b:T):a.cmp b=thn (head a b) (cmps a.kids b.kids):=by rw[DQ,head];simp only[xW,tM]
def OS(a b:T) (n:Nat) (s:PT) (h:H):Prop:=∃k:Nat,∃c:Int,n=a.kids.length-k/\k<=a.kids.length/\h=two a b/\s.get 2=.ptr 0 0/\s.get 3=.ptr 1 0/\s.get 6=.int .i64 k/\s.get 5=.int .i64 c /\
 (c=0->a.kids.length=b.kids.length)/\thn c (cmps (a.kids.drop k) (b.kids.drop k))=a.cmp b
theorem HX(a b:T) (hs:a.size<4000000) (hs2:b.size<4000000) (hc:∀k∈a.kids,∀m∈b.kids,az C 98 [enc k,enc m]=some (.int .i64 (k.cmp m))):az C 98 [enc a,enc b]=some (.int .i64 (a.cmp b)):=by
 refine bL func98 rfl λR t=>?_
 have A:=xI a hs;have B:=xI b hs2;have D:tM a.name b.name=Lib.compareBytes a.name.data.toList b.name.data.toList:=rfl;have E:head a b=0->a.kids.length=b.kids.length:=λh=>by rw[head,thn_zero,thn_zero,thn_zero,thn_zero]at h;have:=sgn_zero.mp h.2.2.2.2;omega
 by_cases u:sgn a.size b.size=0<;>by_cases v:sgn a.kind b.kind=0<;>by_cases w:tM a.name b.name=0<;>by_cases x:sgn a.sort b.sort=0
 all_goals
  simp[go_sem,yO,pZ,pX,pY,pW,qg,qf,xV,xU,ml,oo,fq,A,B,Df,De,<-D,u,v,w,x];refine bX (OS a b) a.kids.length ⟨0,head a b,rfl,aO _,rfl,g_,g_,g_,by simp[go_sem,head,thn,u,v,w,x],E,by simp[Aq]⟩ ?_;rintro n s h ⟨k,c,rfl,G,rfl,j,y,z,l,o,g⟩;by_cases e:c=0
  ·subst e;by_cases f:k<a.kids.length
   ·have i:(k:Int)<a.kids.length:=o_;have d:k<b.kids.length:=by have:=o rfl;omega
    have p:=lu a.kids k f .unk;have q:=lu b.kids k d .unk;have r:∀h,aj C h (.func 98 []) (some [enc a.kids[k],enc b.kids[k]])=some (.int .i64 (a.kids[k].cmp b.kids[k]),h):=λh=>an (fA _ _) (by simp[bF]) s_ (hc _ (aG f) _ (aG d))
    have I:=len_sizes a.kids;have J:=size_kids a;have F:=wS k o_;rw[aI f,aI d,cmps,thn,if_pos rfl]at g;simp[go_sem,j,y,l,z,ml,oo,fq,i,p,q,ee,r,-Int.natCast_add,F];exact⟨a.kids.length-(k+1),o_,k+1,a.kids[k].cmp b.kids[k],by simp[go_sem,j,y,g];exact⟨o_,λ_=>o rfl⟩⟩
   have:k=a.kids.length:=o_;subst this;rw[bH,o rfl,bH]at g;simp[go_sem,j,l,z,ml,fq];refine t ⟨_,rfl,?_⟩;simp[go_sem,<-g,cmps,thn];exact aU rfl rfl
  rw[thn,if_neg e]at g;simp[go_sem,l,e];refine t ⟨_,rfl,?_⟩;simp[go_sem,<-g];exact aU rfl rfl
theorem sQ(a:T):∀b:T,a.size<4000000->b.size<4000000->az C 98 [enc a,enc b]=some (.int .i64 (a.cmp b)):=by
 induction a using T.ind with
 |_ a e=>exact λb f c=>HX a b f c λk d m g=>e k d m (by have:=kid_size d;omega) (by have:=kid_size g;omega)
theorem uj(a b:T) (hs:a.size<4000000) (hs2:b.size<4000000) (h:H):aj C h (.func 98 []) (some [enc a,enc b])=some (.int .i64 (a.cmp b),h):=an (fA _ _) (by simp[bF]) s_ (sQ a b hs hs2)
end Go.VP
namespace Go.VP
open Go Go.V Go.Proofs Tryz Go.RowKit TL
open Go.VZ (enc Am nF terms bV aq am)
theorem okD [DFlag]:Go.V.Ok prog (Go.V.Call C):=zS (C:=C) Go.VZ.Ey (λf a h r c b=>by cases b)
theorem Ij [DFlag] (hD:DFlag.D){w w':World}(g:Grows w w'):∃q os,w'=Go.Sort.grow (w.drewN q) os:=by
 have f:=g.drawn hD;refine⟨w'.drawn-w.drawn,w'.heap.extract w.heap.size w'.heap.size,?_⟩;have⟨k,l,m,os,n⟩:=w';have a:=g.os;have b:=g.tape;have c:=g.output;have h:=g.size;have d:=g.block;simp only at a b c h d f;subst a;subst b;subst c;simp only[Go.Sort.grow,World.drewN,World.mk.injEq,and_true,true_and];refine⟨?_,o_⟩;apply qH;intro i;rw[Array.getElem?_append];split
 ·rename_i e;exact d i e
 rename_i e;rw[Array.getElem?_extract];split
 ·rename_i j;congr 1;omega
 rename_i j;exact eV o_
theorem HU [DFlag] (hD:DFlag.D) (a b:T) (ha:a.size<4000000) (hb:b.size<4000000){w:World}{u v:Value}(hg:kF (λ_ _=>True) w) (hu:IRel (λ_ _=>True) w (enc a) u) (hv:IRel (λ_ _=>True) w (enc b) v) :
  Calls prog 98 #[u,v] w λe w'=>e=.returned (.int .i64 (a.cmp b))/\∃q os,w'=Go.Sort.grow (w.drewN q) os:=by
 have f:=sQ a b ha hb;unfold az at f;split at f<;>try(cases f;done)
 rename_i r g c;refine(okD.fn 98 [enc a,enc b] [] r g k_ c w.heap.size (λ_ _=>True) [] w #[u,v] (.start hg) rfl (λi x y c d=>?_)).mono ?_
 ·match i,c,d with
  |0,c,d=>simp at c d;subst c;subst d;exact .data (ny hu)
  |1,c,d=>simp at c d;subst c;subst d;exact .data (ny hv)
  |i+2,c,d=>simp at c
 rintro e w' ⟨v,rfl,σ',h,j,k⟩;have l:=iW (h.stiller (da g)) cM r _ v f (k.step (.stiller h (da g)));cases l;exact⟨rfl,Ij hD (rH j.below j.drawn)⟩
theorem K0(a b:T) (ha:a.size<4000000) (hb:b.size<4000000){w:World}{u v:Value}(hg:kF (λ_ _=>True) w) (hu:IRel (λ_ _=>True) w (enc a) u) (hv:IRel (λ_ _=>True) w (enc b) v) :
  Calls prog 98 #[u,v] w λe w'=>e=.returned (.int .i64 (a.cmp b))/\∃q os,w'=Go.Sort.grow (w.drewN q) os:=@HU ⟨True⟩ trivial a b ha hb w u v hg hu hv
end Go.VP
namespace Go.Proofs
open Go.Shelf
def Tryz.laysSort_ren:Go.Shelf.Ren:=⟨fun|6=>126|15=>134|14=>158|28=>173|29=>174|20=>187|21=>188|22=>189|23=>190|24=>191|25=>192|26=>193|27=>194|46=>213|47=>200|48=>201|49=>214|50=>215|57=>230|n=>n,fun|22=>32|24=>41|25=>140|3=>3|39=>169|0=>0|53=>208|55=>210|4=>4|46=>202|45=>201|50=>67|5=>5|9=>9|66=>229|70=>179|76=>244|77=>245|n=>n,fun|n=>n⟩
theorem Tryz.laysSort:Go.Proofs.SlLaysF0.n6 Tryz.prog Tryz.laysSort_ren:={
 mixed:=k_
 f6:=⟨Tryz.f126.name,d_,Tryz.func126.trans (congrArg some k_)⟩
 f14:=⟨Tryz.f158.name,d_,Tryz.func158.trans (congrArg some k_)⟩
 f15:=Tryz.func134.trans (congrArg some k_)
 f20:=⟨Tryz.f187.name,d_,Tryz.func187.trans (congrArg some k_)⟩
 f21:=⟨Tryz.f188.name,d_,Tryz.func188.trans (congrArg some k_)⟩
 f22:=⟨Tryz.f189.name,d_,Tryz.func189.trans (congrArg some k_)⟩
 f23:=⟨Tryz.f190.name,d_,Tryz.func190.trans (congrArg some k_)⟩
 f24:=⟨Tryz.f191.name,d_,Tryz.func191.trans (congrArg some k_)⟩
 f25:=⟨Tryz.f192.name,d_,Tryz.func192.trans (congrArg some k_)⟩
 f26:=⟨Tryz.f193.name,d_,Tryz.func193.trans (congrArg some k_)⟩
 f27:=⟨Tryz.f194.name,d_,Tryz.func194.trans (congrArg some k_)⟩
 f28:=Tryz.func173.trans (congrArg some k_)
 f29:=Tryz.func174.trans (congrArg some k_)
 f46:=⟨Tryz.f213.name,d_,Tryz.func213.trans (congrArg some k_)⟩
 f47:=Tryz.func200.trans (congrArg some k_)
 f48:=Tryz.func201.trans (congrArg some k_)
 f49:=⟨Tryz.f214.name,d_,Tryz.func214.trans (congrArg some k_)⟩
 f50:=⟨Tryz.f215.name,d_,Tryz.func215.trans (congrArg some k_)⟩
 f57:=⟨Tryz.f230.name,d_,Tryz.func230.trans (congrArg some k_)⟩
 t0:=Tryz.underlying0
 a0:=Tryz.isAgg0
 z0:=Tryz.sizeOf0
 v0:=Tryz.zeroValue0
 t3:=Tryz.underlying3
 a3:=Tryz.isAgg3
 z3:=Tryz.sizeOf3
 v3:=Tryz.zeroValue3
 t4:=Tryz.underlying4
 a4:=Tryz.isAgg4
 z4:=Tryz.sizeOf4
 v4:=Tryz.zeroValue4
 t5:=Tryz.underlying5
 a5:=Tryz.isAgg5
 z5:=Tryz.sizeOf5
 v5:=Tryz.zeroValue5
 t9:=Tryz.underlying9
 a9:=Tryz.isAgg9
 z9:=Tryz.sizeOf9
 v9:=Tryz.zeroValue9
 t22:=Tryz.underlying32
 a22:=Tryz.isAgg32
 z22:=Tryz.sizeOf32
 v22:=Tryz.zeroValue32
 t25:=Tryz.underlying140
 a25:=Tryz.isAgg140
 z25:=Tryz.sizeOf140
 v25:=Tryz.zeroValue140
 t39:=Tryz.underlying169
 a39:=Tryz.isAgg169
 z39:=Tryz.sizeOf169
 v39:=Tryz.zeroValue169
 t45:=Tryz.underlying201
 a45:=Tryz.isAgg201
 z45:=Tryz.sizeOf201
 v45:=Tryz.zeroValue201
 t46:=Tryz.underlying202
 a46:=Tryz.isAgg202
 z46:=Tryz.sizeOf202
 v46:=Tryz.zeroValue202
 t50:=Tryz.underlying67
 a50:=Tryz.isAgg67
 z50:=Tryz.sizeOf67
 v50:=Tryz.zeroValue67
 t53:=Tryz.underlying208
 a53:=Tryz.isAgg208
 z53:=Tryz.sizeOf208
 v53:=Tryz.zeroValue208
 t55:=Tryz.underlying210
 a55:=Tryz.isAgg210
 z55:=Tryz.sizeOf210
 v55:=Tryz.zeroValue210
 t66:=Tryz.underlying229
 a66:=Tryz.isAgg229
 z66:=Tryz.sizeOf229
 v66:=Tryz.zeroValue229
 t70:=Tryz.underlying179
 a70:=Tryz.isAgg179
 z70:=Tryz.sizeOf179
 v70:=Tryz.zeroValue179
 t76:=Tryz.underlying244
 a76:=Tryz.isAgg244
 z76:=Tryz.sizeOf244
 v76:=Tryz.zeroValue244
 t77:=Tryz.underlying245
 a77:=Tryz.isAgg245
 z77:=Tryz.sizeOf245
 v77:=Tryz.zeroValue245}
end Go.Proofs
namespace Go.VZ
open Go Go.V Go.Proofs Go.RowKit Go.Sort TL
variable {B:Nat}{A0:Nat->Nat->Prop}{σ:List (Option Nat)}{h:H}{w:World}
structure El (A:Nat->Nat->Prop) (w:World) where
 t:T
 vs:List Value
 len:vs.length=4
 small:t.size<4000000
 rel:IRel A w (enc t) (.agg vs.toArray)
theorem NF{A:Nat->Nat->Prop}{w:World}(x:El A w){c:Nat}{a:AV}{v:Value}(ha:(enc x.t).cells[c]?=some a) (hv:x.vs[c]?=some v):IRel A w a v:=by
 have r:=x.rel;rw[bV]at r;cases r with
 |agg d e b=>rw[aq]at ha;exact b c a v ha (by simpa using hv)
theorem Tc{A:Nat->Nat->Prop}{w:World}(x:El A w):∀v∈x.vs,v.oneCell'=true:=by
 intro v d;have⟨c,b⟩:=nc.1 d;have e:=(aB.1 b).1;have g:=x.len;have h:(enc x.t).cells.length=4:=by rw[aq];rfl
 have f:(enc x.t).cells[c]?=some (enc x.t).cells[c]:=aF o_;refine tT (NF x f b) ?_;have:=aG (l:=(enc x.t).cells) (n:=c) o_;generalize (enc x.t).cells[c]=a at this;rw[aq]at this;simp only[aV,dN,or_false]at this;rcases this with rfl|rfl|rfl|rfl<;>rfl
instance {A:Nat->Nat->Prop}{w:World}:Inhabited (El A w):=⟨⟨.mk 0 ⟨#[]⟩ 0 [],[.int .i64 0,.string ⟨#[]⟩,.int .i64 0,.slice none 0 0],rfl,d_,by
 rw[bV];refine .agg (by intro c hc;simp at hc;rcases hc with rfl|rfl|rfl|rfl<;>rfl) rfl λi a v ha hv=>?_
 match i,ha,hv with
 |0,ha,hv=>simp at ha hv;subst ha;subst hv;exact .int _ _
 |1,ha,hv=>simp at ha hv;subst ha;subst hv;exact .str _
 |2,ha,hv=>simp at ha hv;subst ha;subst hv;exact .int _ _
 |3,ha,hv=>simp at ha hv;subst ha;subst hv;exact .islNil
 |i+4,ha,hv=>simp at ha⟩⟩
theorem els{A:Nat->Nat->Prop}{w:World}{vs:Array Value}:∀(l:Lq) (off:Nat),(∀t∈l,t.size<4000000)->(∀(k:Nat) c v,(bZ l)[k]?=some c->vs[off+k]?=some v->IRel A w c v)->off+4*l.length<=vs.size ->
  ∃es:List (El A w),es.map El.t=l/\∀(j c:Nat) (hj:j<es.length),c<4->vs[off+(4*j+c)]?=(es[j]).vs[c]?
 |[],off,_,_,_=>⟨[],rfl,λj c hj=>by simp at hj⟩
 |a::l,off,hs,hr,hl=>by
  simp only[aL]at hl;obtain⟨es,h1,h2⟩:=els l (off+4) (λt ht=>hs t (by simp[ht])) (λk c v hc hv=>hr (4+k) c v (by
   have e:bZ (a::l)=(enc a).cells++bZ l:=rfl;have e4:(enc a).cells.length=4:=by rw[aq];rfl
   rw[e,ap o_,show 4+k-(enc a).cells.length=k by omega];exact hc) (by rw[<-gO];exact hv)) o_
  have g:∀c,c<4->∃v,vs[off+c]?=some v:=λc hc=>⟨vs[off+c]'(by omega),aX (by omega)⟩
  have⟨v0,g0⟩:=g 0 o_;have⟨v1,g1⟩:=g 1 o_;have⟨v2,g2⟩:=g 2 o_;have⟨v3,g3⟩:=g 3 o_;have r:∀(c:Nat) x v,(enc a).cells[c]?=some x->c<4->vs[off+c]?=some v->IRel A w x v:=λc x v hx hc hv=>hr c x v (by
   have:=As (l:=a::l) (j:=0) (c:=c) s_ hc;rw[Nat.mul_zero,bu]at this;rw[this];exact hx) hv
  refine⟨⟨a,[v0,v1,v2,v3],rfl,hs a s_,?_⟩::es,by simp[h1],?_⟩
  ·rw[bV];rw[aq]at r;refine .agg (by intro c hc;simp at hc;rcases hc with rfl|rfl|rfl|rfl<;>rfl) rfl λi x v hx hv=>?_
   match i,hx,hv with
   |0,hx,hv=>simp at hv;subst hv;exact r 0 x _ hx o_ g0
   |1,hx,hv=>simp at hv;subst hv;exact r 1 x _ hx o_ g1
   |2,hx,hv=>simp at hv;subst hv;exact r 2 x _ hx o_ g2
   |3,hx,hv=>simp at hv;subst hv;exact r 3 x _ hx o_ g3
   |i+4,hx,hv=>simp at hx
  intro j c hj hc;cases j with
  |zero=>
   match c,hc with
   |0,_=>exact g0
   |1,_=>exact g1
   |2,_=>exact g2
   |3,_=>exact g3
  |succ j=>have:=h2 j c (by simpa using hj) hc;rw[show off+(4*(j+1)+c)=off+4+(4*j+c) by omega,this];rfl
end Go.VZ
namespace Go.VZ
open Go Go.V Go.Proofs Tryz Go.RowKit Go.Sort TL
variable {B:Nat}{A0:Nat->Nat->Prop}{σ:List (Option Nat)}{h:H}{w:World}
theorem Ie{A:Nat->Nat->Prop}{x:Ext}{v:Value}(r:Rel prog A σ h w (.isl [] x) v):∃p cap,v=.slice p 0 cap:=by
 have b:∀u,IRel A w (.isl [] .unk) u->∃p cap,u=.slice p 0 cap:=λu r=>by
  cases r with
  |islNil=>exact⟨_,_,rfl⟩
  |islEmpty a cap g=>exact⟨_,_,rfl⟩
  |isl f=>exact⟨_,_,rfl⟩
 cases r with
 |data d=>
  cases d with
  |islNil=>exact⟨_,_,rfl⟩
  |islEmpty a cap g=>exact⟨_,_,rfl⟩
  |isl f=>exact⟨_,_,rfl⟩
 |full d=>have⟨p,c,e⟩:=b _ d;cases e;exact⟨_,_,rfl⟩
 |tok d _=>exact b _ d
theorem wm{A:Nat->Nat->Prop}{f:FuncId}{v:Value}(r:Rel prog A σ h w (.func f []) v):v=.func (.func f) #[] #[]:=by
 cases r with
 |data b=>cases b with
  |func a _=>simp only[bB,Array.size_eq_zero_iff]at a;rw[a]
 |func a _=>simp only[bB,Array.size_eq_zero_iff]at a;rw[a]
theorem Hb{A:Nat->Nat->Prop}{l:Lq}{k:Nat}{c:AV}{v:Value}(hc:(bZ l)[k]?=some c) (r:Rel prog A σ h w c v):IRel A w c v:=by have a:=bQ hc;simp only[bZ,bR]at a;have⟨t,_,a⟩:=a;rw[aq]at a;simp only[aV,dN,or_false]at a;rcases a with rfl|rfl|rfl|rfl<;>(cases r with|data hd=>exact hd)
theorem Yb{A:Nat->Nat->Prop}{w:World}:SWO (ltOf λx y:El A w=>x.t.cmp y.t) where
 irrefl x:=by simp[ltOf,cmp_refl]
 trans x y z h1 h2:=by simp only[ltOf,decide_eq_true_eq]at *;exact cmp_trans h1 h2
 ntrans x y z h1 h2:=by simp only[ltOf,decide_eq_false_iff_not]at *;exact le_trans (x:=z.t) (y:=y.t) (z:=x.t) h2 h1
theorem we{b:Nat}{vs:Array Value}{ty:TypeId}{fr:Nat × Nat}(f:Array Value->Array Value) (hb:w.heap[b]?=some (.cells vs ty fr)):mapBlock w b f=w.setRow b (f vs):=by
 unfold mapBlock World.setRow;congr 1
 apply qH;intro k;simp only[kQ];by_cases a:b=k
 ·subst a;simp only[if_true,hb,cT,onCells]
 simp[a]
theorem qx{E:Type} [Inhabited E] {ev:E->List Value}{k:Nat}{b m:Nat}{dk:Array E}{os:Array Obj}{g:Nat}{o:Obj}(hg:w.heap[g]?=some o) (hne:g≠b):(sortWorldK ev k w b 0 m dk os).heap[g]?=some o:=by have a:=(aR.1 hg).1;unfold sortWorldK;simp only[Go.Sort.grow];rw[cr (by unfold putRowK putRow mapBlock;simpa using a)];unfold putRowK putRow mapBlock;simp[kQ,Ne.symm hne,hg]
theorem GE [DFlag] (hr:HRel prog B A0 σ h w){i0 b c:Nat}{l:Lq}(hs:∀t∈l,t.size<4000000) (hid:h[i0]?=some (.cells (bZ l) .live)) (hb:σ[i0]?=some (some b)) (hl:l.length<4611686018427387904) :
  Calls prog 126 #[.slice (some ⟨b,0,none⟩) l.length c,.func (.func 98) #[] #[]] w (λe w'=>∃v,e=.returned v/\Go.V.gC prog B A0 σ h w (.tuple []) (h.set i0 (.cells (bZ (srt l)) .live)) v w'):=by
 have⟨b',vs,ty,z,hB,d,q9,q7,hrel⟩:=hr.cells i0 _ .live hid s_;rw[hb]at z;simp only[aA]at z;subst z;have q8:=fU l;have⟨u,O,Q⟩:=els (A:=Alw prog B A0 σ h) (w:=w) (vs:=vs) l 0 hs (λk x v s F=>by rw[bu]at F;exact Hb s (hrel k x v s F)) o_
 have G:u.length=l.length:=by rw[<-O];simp
 have q':b<w.heap.size:=(aR.1 d).1;have q0:∀k o,Alw prog B A0 σ h k o->k≠b:=λk o D e=>by subst e;unfold Alw at D;rw[if_neg o_]at D;exact D.1 i0 _ hid hb
 have up:∀(m:Nat) (E:Array Obj) (S:Array (El (Alw prog B A0 σ h) w)) (k o:Nat) x,Alw prog B A0 σ h k o->w.cell? ⟨k,o,none⟩=some x->(sortWorldK El.vs 4 w b 0 m S E).cell? ⟨k,o,none⟩=some x:=λm E S k o x D Z=>by have hk:=World.block_lt_of_cell? w _ Z;unfold sortWorldK;rw[cell?_grow _ _ _ (by unfold putRowK putRow mapBlock;simpa using hk),cell?_putRowK_other (h:=q0 k o D)];exact Z
 have U:CmpLays prog 98 #[] El.vs 4 (λx y:El (Alw prog B A0 σ h) w=>x.t.cmp y.t) b 0 u.toArray.size w:=by
  intro m E S _ x y;have go:∀ {a:AV}{v:Value},IRel (Alw prog B A0 σ h) w a v->IRel (λ_ _=>True) (sortWorldK El.vs 4 w b 0 m S E) a v:=λr=>r.mono λk o x D Z=>⟨trivial,up m E S k o x D Z⟩
  exact Go.VP.K0 x.t y.t x.small y.small ⟨λg a N=>go (hr.gr.1 g a N),λg n N=>by have⟨z',f,q1,q2,z,e2⟩:=hr.tab g n N;exact⟨f,q1,q2,qx z o_,e2⟩⟩ (go x.rel) (go y.rel)
 have hH:HoldsK El.vs 4 w b 0 u.toArray:=by
  intro j I;have z0:j<4*l.length:=by simp[size_flatK]at I;omega
  have hd:j/4<u.length:=o_;have N:=Q (j/4) (j%4) hd (iH _ o_);rw[show 0+(4*(j/4)+j%4)=j by omega]at N;have h4:=(u[j/4]).len;have q:j%4<4:=iH _ o_;refine⟨?_,by simp[World.frozen?,d]⟩;rw[get_flatK _ _ _ _ (by simpa[size_flatK]using I)];simp only[World.cell?,d,bu,gn,aT,if_false,N,id];rw[getElem!_pos u.toArray (j/4) (by simpa using hd)];simp only[List.getElem_toArray];rw[getElem!_pos _ _ o_,aF o_]
 have q3:u.toArray.size<4611686018427387904:=by simp;omega
 have J:=AnyQ.slices_SortFunc (P:=prog) laysSort 4 isAgg41 sizeOf41 (El.vs (A:=Alw prog B A0 σ h) (w:=w)) El.len Tc (λx y=>x.t.cmp y.t) Yb 98 #[] b 0 c u.toArray w (enters_of func98 k_ rfl) U hH q' q3;change Calls prog 126 _ _ _ at J;rw[show u.toArray.size=l.length by simp[G]]at J;refine J.mono ?_;rintro e w' ⟨rfl,p,n,E,hp,q4,rfl⟩;have K:p.size=l.length:=by have:=hp.1;simpa[G]using this
 have hT:p.toList.map El.t=srt l:=by
  have p1:(p.toList.map El.t).Perm l:=by have:=hp.2.2;rw[show l.length=p.size from K.symm,mU,K,show l.length=u.toArray.size by simp[G],mU]at this;rw[<-O];exact this.map _
  refine perm_sorted_eq (p1.trans (srt_perm l).symm) ?_ (srt_sorted l);rw[iD,iz];intro i j hi I q5;have:=q4 i j (aO _) q5 (by simpa[K]using I);simp only[ltOf,decide_eq_false_iff_not]at this;rw[getElem!_pos p i (by simpa using hi),getElem!_pos p j (by simpa using I)]at this;simpa[le]using this
 obtain⟨f,evs⟩:∃f,f=putCells id 0 (flatK El.vs 4 p) vs:=⟨_,rfl⟩
 have X:putRowK El.vs 4 w b 0 p=w.setRow b f:=by unfold putRowK putRow;rw[we _ d,evs]
 have hw:sortWorldK El.vs 4 w b 0 n p E=Go.Sort.grow ((w.setRow b f).drewN n) E:=by rw[<-X];rfl
 have Y:f.size=vs.size:=by rw[evs];simp[putCells]
 have q6:(bZ (srt l)).length=4*l.length:=by rw[fU,srt_len]
 have L:∀(k:Nat) x v,(bZ (srt l))[k]?=some x->f[k]?=some v->Rel prog (Alw prog B A0 σ h) σ h w x v:=by
  intro k x v s F;have hk:k<4*l.length:=by rw[<-q6];exact(aB.1 s).1
  have hd:k/4<p.size:=o_;have q:k%4<4:=iH _ o_;have I:k/4<(srt l).length:=by rw[srt_len];omega
  have z:=As I q;rw[show 4*(k/4)+k%4=k by omega,s]at z;have et:(srt l)[k/4]=(p[k/4]).t:=by simp[<-hT]
  rw[et]at z;have ev:v=(p[k/4]).vs[k%4]'(by rw[(p[k/4]).len];exact q):=by rw[evs]at F;simp only[putCells,Array.getElem?_mapIdx,aO,true_and,bu,size_flatK,Nat.sub_zero,id]at F;rw[aX o_,cT,if_pos o_,get_flatK _ _ _ _ o_,getElem!_pos p _ hd,getElem!_pos _ _ (by rw[(p[k/4]).len];exact q)]at F;simpa using F.symm
  exact .data (NF (p[k/4]) z.symm (by rw[ev];exact aF _))
 have M:∀x∈bZ (srt l),x.one=true:=by intro x s;simp only[bZ,bR]at s;have⟨t,_,s⟩:=s;rw[aq]at s;simp only[aV,dN,or_false]at s;rcases s with rfl|rfl|rfl|rfl<;>rfl
 have k1:=HRel.write hr hid hb d Y (cs':=bZ (srt l)) o_ M L;have k2:=Step.write (cs':=bZ (srt l)) hr hid hb d Y;have g:Grows (w.setRow b f) (sortWorldK El.vs 4 w b 0 n p E):=by rw[hw];refine⟨rfl,rfl,rfl,by simp[Go.Sort.grow,World.drewN],λk hk=>?_,λ_=>by simp[Go.Sort.grow,World.drewN]⟩;simp only[Go.Sort.grow,World.drewN];exact cr hk
 exact⟨_,rfl,σ,k1.grows g,k2.trans (.grows k1 g),.data (.tuple rfl (λi a v D=>by simp at D))⟩
theorem EU [DFlag]:sd prog 126 tH:=by
 intro g h r E c B F σ w j k o b;unfold tH at c;split at c<;>try(cases c;done)
 ·rename_i x;simp only[aA,aE]at c;obtain⟨rfl,rfl⟩:=c;have⟨l⟩:=j;match l,o,b with
  |[u,v],_,b=>obtain⟨p,d,rfl⟩:=Ie (b 0 _ u rfl rfl);have f:=wm (b 1 _ v rfl rfl);subst f;refine(show Calls prog 126 #[.slice p 0 d,.func (.func 98) #[] #[]] w _ from AnyF.slices_SortFunc_none (P:=prog) {laysSort with} p d _ w).mono ?_;rintro e G ⟨rfl,rfl⟩;exact⟨_,rfl,σ,k,.refl _ _ _,.data (.tuple rfl (λi a v b=>by simp at b))⟩
 rename_i I n;split at c<;>try(cases c;done)
 rename_i e;simp only[aA,aE]at c;obtain⟨rfl,rfl⟩:=c;have⟨q,y,s,c3⟩:=e.choose_spec;generalize e.choose=m at q s c3 y ⊢;subst q;have⟨l⟩:=j;match l,o,b with
 |[u,v],_,b=>
  have f:=wm (b 1 _ v rfl rfl);subst f;have z:=b 0 _ u rfl rfl;cases z with
  |data A=>cases A
  |msl D J K L M t N=>exact GE k s c3 D o_
end Go.VZ
namespace Go.VZ
open Go Go.V Go.Proofs Tryz TL
theorem mem_walk{x t:T}:x∈bm bD t↔x=t\/∃k∈t.kids,x∈bm bD k:=by rw[ss,aK,ng,bR];simp[bD]
theorem dD(t:T):t∈bm bD t:=mem_walk.2 (.inl rfl)
mutual
def iL(x y:T):T->T
 |.mk k n s l=>if T.cmp (.mk k n s l) x=0 then y else .mk k n s (IJ x y l)
def IJ(x y:T):Lq->Lq
 |[]=>[]
 |t::l=>iL x y t::IJ x y l
end
theorem Bq(x y:T):∀l,IJ x y l=l.map (iL x y)
 |[]=>rfl
 |t::l=>by rw[IJ,Bq x y l];rfl
theorem uT(x y t:T):iL x y t=if t.cmp x=0 then y else .mk t.kind t.name t.sort (t.kids.map (iL x y)):=by cases t;rw[iL,Bq];rfl
def jI(t:T):Prop:=∀y∈bm bD t,y.kind=1->y.kids=[]
theorem kI{t k:T}(h:jI t) (hk:k∈t.kids):jI k:=λy a=>h y (mem_walk.2 (.inr ⟨k,hk,a⟩))
theorem jH{l:Lq}(h:jt l=0):∀k∈l,cz k=0:=by
 induction l with
 |nil=>simp
 |cons a l c=>
  rw[jt]at h;have⟨d,e⟩:=thn_zero.1 h;intro k b;rcases aV.1 b with rfl|b
  ·exact d
  exact c e k b
theorem pQ:∀t:T,cz t=0->∀y∈bm bD t,cz y=0:=by
 refine T.ind λt c h y a=>?_
 rcases mem_walk.1 a with rfl|⟨k,b,a⟩
 ·exact h
 rw[fi]at h;exact c k b (jH (thn_zero.1 h).2 k b) y a
theorem lH{t:T}(h:gL t=0) (hk:t.kind=1\/t.kind=2):t.kids=[]:=by
 unfold gL at h;split at h
 ·cases h
 rename_i b;cases c:t.kids with
 |nil=>rfl
 |cons a l=>exfalso;apply b;simp only[kz,c,aL];rcases hk with hk|hk<;>simp[hk]
theorem uV{t:T}(h:gL t=0):t.kids.length<=8:=by
 unfold gL at h;split at h
 ·cases h
 split at h
 ·cases h
 split at h
 ·cases h
 omega
theorem eF{t:T}(h:cz t=0):gL t=0:=by rw[fi]at h;exact(thn_zero.1 h).1
theorem eD{t:T}(h:bA t=0):jI t:=λy a k=>lH (eF (pQ t (bg h).1 y a)) (.inl k)
theorem Ks{t k:T}(h:k∈t.kids):k.depth<t.depth:=by
 rw[lz t];have:∀l:Lq,k∈l->k.depth<=depths l:=by
  intro l;induction l with
  |nil=>simp
  |cons a l c=>
   intro b;rw[depths];rcases aV.1 b with rfl|b
   ·exact iI _ _
   exact cJ (c b) (gp _ _)
 exact Nat.lt_succ_of_le (this _ h)
theorem xS{t k:T}(h:bA t=0) (hk:k∈t.kids):bA k=0:=by have⟨d,e,f⟩:=bg h;have a:=pQ t d k (mem_walk.2 (.inr ⟨k,hk,dD k⟩));have b:=kid_size hk;have c:=Ks hk;unfold bA;rw[a,if_neg o_];rfl
theorem wc{x y:T}:∀t:T,jI t->∀z,z.kind=1->z∈bm bD (iL x y t)->(z∈bm bD t/\z≠x)\/z∈bm bD y:=by
 refine T.ind λt n j z g f=>?_
 rw[uT]at f;split at f
 ·exact .inr f
 rename_i h;rcases mem_walk.1 f with e|⟨k,l,f⟩
 ·left;have i:t.kind=1:=by rw[e]at g;exact g
  have c:=j t (dD t) i;have:z=t:=by rw[e,c];cases t;simp only[T.kind,T.name,T.sort,T.kids]at c ⊢;subst c;rfl
  subst this;exact⟨dD _,λe=>h (cmp_zero.2 e)⟩
 simp only[T.kids,ae]at l;obtain⟨m,d,rfl⟩:=l;rcases n m d (kI j d) z g f with⟨a,b⟩|a
 ·exact .inl ⟨mem_walk.2 (.inr ⟨m,d,a⟩),b⟩
 exact .inr a
theorem G2{x y t:T}(ht:jI t) (hy:jI y):jI (iL x y t):=by
 intro z c b;rcases wc t ht z b c with⟨a,_⟩|a
 ·exact ht z a b
 exact hy z a b
def occ(x t:T):Bool:=decide (x∈bm bD t)
inductive Ch where
 |bad (e:Int)
 |ok (x y:T)
def Ai(x t:T):Ch:=if x.sort≠0/\(t.kind≠2\/t.sort≠x.sort)then .bad 11 else if occ x t=true then .bad 12 else .ok x t
def fB(a b:T):Ch:=
 if a.kind=1 then
  if b.kind=1 then
   if(a.sort=b.sort/\a.cmp b<0)\/(a.sort≠b.sort/\b.sort=0)then .ok b a
   else if a.sort≠b.sort/\a.sort≠0 then .bad 11 else .ok a b
  else Ai a b
 else if b.kind=1 then Ai b a
 else .bad 11
def fH(a b:T):Bool:=decide (a.kind=3)&&decide (b.kind=3)&&decide (a.name=b.name)&&decide (a.kids.length=b.kids.length)
def mJ(a b:T):Lb:=a.kids.zip b.kids
def okP(x y:T) (ps:Lb):Bool:=ps.all λp=>decide (bA (iL x y p.1)=0)&&decide (bA (iL x y p.2)=0)
def okS(x y:T) (s:Lb):Bool:=s.all λb=>decide (bA (iL x y b.2)=0)
def okU(x y:T) (ps s:Lb):Bool:=okP x y ps&&okS x y s
def mw(x y:T) (ps:Lb):Lb:=ps.map λp=>(iL x y p.1,iL x y p.2)
def ke(x y:T) (s:Lb):Lb:=s.map λb=>(b.1,iL x y b.2)
theorem pS{a b x y:T}(ha:bA a=0) (hb:bA b=0) (hne:a≠b) (h:fB a b=.ok x y):x.kind=1/\x∉bm bD y/\((x=a/\y=b)\/(x=b/\y=a)):=by
 have d:∀u v:T,v.kind=1->jI v->u≠v->u∉bm bD v:=λu v m n o p=>by
  rcases mem_walk.1 p with e|⟨k,l,_⟩
  ·exact o e
  rw[n v (dD v) m]at l;simp at l
 have f:∀u v:T,u.kind=1->Ai u v=.ok x y->x=u/\y=v/\u∉bm bD v:=λu v _ c=>by
  unfold Ai at c;split at c
  ·cases c
  split at c
  ·cases c
  rename_i q;simp only[Ch.ok.injEq]at c;exact⟨c.1.symm,c.2.symm,by simpa[occ]using q⟩
 unfold fB at h;split at h
 ·rename_i i;split at h
  ·rename_i g;split at h
   ·simp only[Ch.ok.injEq]at h;obtain⟨rfl,rfl⟩:=h;exact⟨g,d _ _ i (eD ha) (λe=>hne e.symm),.inr ⟨rfl,rfl⟩⟩
   split at h
   ·cases h
   simp only[Ch.ok.injEq]at h;obtain⟨rfl,rfl⟩:=h;exact⟨i,d _ _ g (eD hb) hne,.inl ⟨rfl,rfl⟩⟩
  obtain⟨rfl,rfl,j⟩:=f a b i h;exact⟨i,j,.inl ⟨rfl,rfl⟩⟩
 split at h
 ·rename_i g;obtain⟨rfl,rfl,j⟩:=f b a g h;exact⟨g,j,.inr ⟨rfl,rfl⟩⟩
 cases h
def inP(u:T) (ps:Lb):Prop:=∃p∈ps,u∈bm bD p.1\/u∈bm bD p.2
open Classical in
noncomputable def sr(U:Lq) (ps:Lb):Nat:=(U.filter λu=>decide (inP u ps)).length
theorem yE{α:Type}{p q:α->Bool}:∀l:List α,(∀a∈l,p a=true->q a=true)->(l.filter p).length<=(l.filter q).length
 |[],_=>aP _
 |a::l,h=>by
  have ih:=yE l λb c=>h b (bP _ c)
  have d:=h a s_;rw[eC,eC];by_cases e:p a=true
  ·rw[if_pos e,if_pos (d e)];simp;omega
  rw[if_neg e];split<;>simp<;>omega
theorem B7{α:Type}{p q:α->Bool}{x:α}:∀l:List α,(∀a∈l,p a=true->q a=true)->x∈l->p x=false->q x=true->(l.filter p).length<(l.filter q).length
 |[],_,hx,_,_=>by simp at hx
 |a::l,h,hx,h1,h2=>by
  have hl:∀b∈l,p b=true->q b=true:=λb c=>h b (bP _ c)
  have d:=h a s_;rw[eC,eC];rcases aV.1 hx with rfl|hx
  ·have:=yE l hl;rw[if_neg (by rw[h1];simp),if_pos h2];simp;omega
  have f:=B7 l hl hx h1 h2;by_cases e:p a=true
  ·rw[if_pos e,if_pos (d e)];simp;omega
  rw[if_neg e];split<;>simp<;>omega
theorem zR{U:Lq}{ps qs:Lb}(h:∀u∈U,inP u ps->inP u qs):sr U ps<=sr U qs:=by unfold sr;exact yE U λu a b=>by simpa using h u a (by simpa using b)
theorem FM(U:Lq) (ps:Lb):sr U ps<=U.length:=dS _ _
theorem QR{U:Lq}{ps qs:Lb}{x:T}(h:∀u∈U,inP u ps->inP u qs) (hx:x∈U) (h1:¬inP x ps) (h2:inP x qs):sr U ps<sr U qs:=by unfold sr;exact B7 (x:=x) U (λu a b=>by simpa using h u a (by simpa using b)) hx (by simpa using h1) (by simpa using h2)
structure InvU (U:Lq) (K:Nat) (ps s:Lb):Prop where
 valid:∀p∈ps,bA p.1=0/\bA p.2=0
 varsU:∀p∈ps,∀u:T,u.kind=1->u∈bm bD p.1\/u∈bm bD p.2->u∈U
 allU:∀u∈U,u.kind=1
 bval:∀b∈s,bA b.1=0/\bA b.2=0
 gone:∀b∈s,b.1.kind=1/\¬inP b.1 ps
 diff:s.Pairwise λa b=>a.1≠b.1
 len:∃A B,ps=A++B/\(A.map λp=>p.1.size).sum<=400/\B.length+400*sr U ps<=K
 slen:s.length+sr U ps<=U.length
theorem H5{A:Lb}:A.length<=(A.map λp=>p.1.size).sum:=by
 induction A with
 |nil=>simp
 |cons a A b=>have:=size_pos a.1;simp only[aL,aM,iS];omega
theorem InvU.plen{U K ps s}(h:InvU U K ps s):ps.length<=400+K:=by obtain⟨A,B,rfl,a,b⟩:=h.len;have:=H5 (A:=A);rw[List.length_append];omega
theorem InvU.skip{U K p ps s}(h:InvU U K (p::ps) s):InvU U K ps s:=by
 have d:∀u:T,inP u ps->inP u (p::ps):=λu ⟨q,c,g⟩=>⟨q,bP _ c,g⟩
 have l:=zR (U:=U) (ps:=ps) (qs:=p::ps) λu _=>d u
 refine⟨λq c=>h.valid q (bP _ c),λq c=>h.varsU q (bP _ c),h.allU,h.bval,λb f=>⟨(h.gone b f).1,λi=>(h.gone b f).2 (d _ i)⟩,h.diff,?_,by have:=h.slen;omega⟩;have⟨A,B,e,j,k⟩:=h.len;cases A with
 |nil=>
  cases B with
  |nil=>simp at e
  |cons b B=>simp only[cN,ct]at e;obtain⟨rfl,rfl⟩:=e;exact⟨[],ps,rfl,s_,by simp only[aL]at k;omega⟩
 |cons a A=>simp only[cV,ct]at e;obtain⟨rfl,rfl⟩:=e;exact⟨A,B,rfl,by simp only[aM,iS]at j;omega,o_⟩
theorem wE{a b:T}{p:T × T}(h:p∈mJ a b):p.1∈a.kids/\p.2∈b.kids:=by have⟨u,v⟩:=p;exact⟨(kG h).1,(kG h).2⟩
theorem Hx:∀(l m:Lq),((l.zip m).map λp=>p.1.size).sum<=sizes l
 |[],_=>s_
 |_::_,[]=>s_
 |a::l,b::m=>by have:=Hx l m;simp only[gq,aM,iS,sizes];omega
theorem InvU.kids{U K a b ps s}(h:InvU U K ((a,b)::ps) s):InvU U K (mJ a b++ps) s:=by
 have g:=h.valid _ bv;have i:∀u:T,inP u (mJ a b++ps)->inP u ((a,b)::ps):=λu ⟨q,d,f⟩=>by
  rcases aK.1 d with d|d
  ·have:=wE d;exact⟨(a,b),bv,f.imp (λm=>mem_walk.2 (.inr ⟨_,this.1,m⟩)) (λm=>mem_walk.2 (.inr ⟨_,this.2,m⟩))⟩
  exact⟨q,bP _ d,f⟩
 have p:=zR (U:=U) λu _=>i u
 refine⟨λq d=>?_,λq d u j f=>?_,h.allU,h.bval,λb k=>⟨(h.gone b k).1,λl=>(h.gone b k).2 (i _ l)⟩,h.diff,?_,by have:=h.slen;omega⟩
 ·rcases aK.1 d with d|d
  ·have:=wE d;exact⟨xS g.1 this.1,xS g.2 this.2⟩
  exact h.valid q (bP _ d)
 ·rcases aK.1 d with d|d
  ·have:=wE d;exact h.varsU (a,b) bv u j (f.imp (λm=>mem_walk.2 (.inr ⟨_,this.1,m⟩)) (λm=>mem_walk.2 (.inr ⟨_,this.2,m⟩)))
  exact h.varsU q (bP _ d) u j f
 have⟨A,B,e,n,o⟩:=h.len;have r:=Hx a.kids b.kids;have t:=size_kids a;cases A with
 |nil=>
  cases B with
  |nil=>simp at e
  |cons c B=>simp only[cN,ct]at e;obtain⟨rfl,rfl⟩:=e;have:=(bg g.1).2.1;exact⟨mJ a b,ps,rfl,by unfold mJ;simp only at this;omega,by simp only[aL]at o;omega⟩
 |cons c A=>simp only[cV,ct]at e;obtain⟨rfl,rfl⟩:=e;refine⟨mJ a b++A,B,s_,?_,o_⟩;simp only[aM,iS]at n;rw[List.map_append,List.sum_append];unfold mJ;omega
theorem Pq{x y:T}{ps:Lb}(hl:∀p∈ps,jI p.1/\jI p.2){u:T}(hu:u.kind=1) (h:inP u (mw x y ps)):(inP u ps/\u≠x)\/u∈bm bD y:=by
 have⟨q,e,c⟩:=h;obtain⟨p,d,rfl⟩:=ae.1 e;rcases c with c|c
 ·rcases wc _ (hl p d).1 u hu c with⟨a,b⟩|a
  ·exact .inl ⟨⟨p,d,.inl a⟩,b⟩
  exact .inr a
 rcases wc _ (hl p d).2 u hu c with⟨a,b⟩|a
 ·exact .inl ⟨⟨p,d,.inr a⟩,b⟩
 exact .inr a
theorem InvU.perm{U K ps s s'}(h:InvU U K ps s) (p:s.Perm s'):InvU U K ps s':=
 ⟨h.valid,h.varsU,h.allU,λb c=>h.bval b (p.mem_iff.2 c),λb c=>h.gone b (p.mem_iff.2 c),(p.pairwise_iff fun {a b}(k:a.1≠b.1)=>λe=>k e.symm).1 h.diff,h.len,by rw[<-p.length_eq];exact h.slen⟩
theorem InvU.bind{U K a b ps s x y}(h:InvU U K ((a,b)::ps) s) (hne:a≠b) (hch:fB a b=.ok x y) (hok:okU x y ps s=true):InvU U K (mw x y ps) (ke x y s++[(x,y)])/\sr U (mw x y ps)<sr U ((a,b)::ps):=by
 have⟨F,G⟩:=h.valid _ bv;have⟨t,v,i⟩:=pS F G hne hch;have m:inP x ((a,b)::ps):=⟨(a,b),bv,i.elim (λe=>.inl (e.1▸dD _)) (λe=>.inr (e.1▸dD _))⟩
 have w:∀u,u∈bm bD y->inP u ((a,b)::ps):=λu k=>⟨(a,b),bv,i.elim (λe=>.inr (e.2▸k)) (λe=>.inl (e.2▸k))⟩
 have I:bA x=0:=by rcases i with⟨rfl,_⟩|⟨rfl,_⟩<;>assumption
 have J:bA y=0:=by rcases i with⟨_,rfl⟩|⟨_,rfl⟩<;>assumption
 have L:∀p∈ps,jI p.1/\jI p.2:=λp f=>⟨eD (h.valid p (bP _ f)).1,eD (h.valid p (bP _ f)).2⟩
 have n:∀u:T,u.kind=1->inP u (mw x y ps)->inP u ((a,b)::ps)/\u≠x:=λu k j=>by
  rcases Pq L k j with⟨⟨q,o,l⟩,M⟩|l
  ·exact⟨⟨q,bP _ o,l⟩,M⟩
  exact⟨w u l,λe=>v (e▸l)⟩
 have z:x∈U:=by have⟨p,f,l⟩:=m;exact h.varsU p f x t l
 have r:sr U (mw x y ps)<sr U ((a,b)::ps):=QR (λu k j=>(n u (h.allU u k) j).1) z (λj=>(n x t j).2 rfl) m;simp only[okU,okP,okS,bI,av,decide_eq_true_eq]at hok;refine⟨⟨λq o=>?_,λq o u D k=>?_,h.allU,λc g=>?_,λc g=>?_,?_,?_,?_⟩,r⟩
 ·obtain⟨p,f,rfl⟩:=ae.1 o;exact hok.1 p f
 ·have⟨p,f,l⟩:=(n u D ⟨q,o,k⟩).1;exact h.varsU p f u D l
 ·rcases aK.1 g with g|g
  ·obtain⟨p,f,rfl⟩:=ae.1 g;exact⟨(h.bval p f).1,hok.2 p f⟩
  simp only[aS]at g;subst g;exact⟨I,J⟩
 ·rcases aK.1 g with g|g
  ·obtain⟨p,f,rfl⟩:=ae.1 g;exact⟨(h.gone p f).1,λj=>(h.gone p f).2 (n _ (h.gone p f).1 j).1⟩
  simp only[aS]at g;subst g;exact⟨t,λj=>(n x t j).2 rfl⟩
 ·rw[List.pairwise_append];refine⟨by rw[ke,iD];exact h.diff,s_,λc g d E=>?_⟩;simp only[aS]at E;subst E;obtain⟨p,f,rfl⟩:=ae.1 g;exact λe=>(h.gone p f).2 (by rw[show p.1=x from e];exact m)
 ·refine⟨[],mw x y ps,rfl,s_,?_⟩;have:=h.skip.plen;have⟨A,B,e,N,O⟩:=h.len;have Q:=H5 (A:=A);have S:ps.length+1=A.length+B.length:=by have:=congrArg List.length e;simpa using this
  simp only[mw,ax];simp only[mw]at r;omega
 have:=h.slen;simp only[ke,List.length_append,ax,eK];omega
end Go.VZ
namespace Go.VZ
open Go Go.V Go.Proofs Tryz TL
def gg(ins:T × T->Lb->Lb):Nat->Lb->Lb->Option (Lb × Int)
 |_,[],s=>some (s,0)
 |0,_::_,_=>none
 |n+1,(a,b)::ps,s=>
  if a.cmp b=0 then gg ins n ps s
  else if fH a b=true then gg ins n (mJ a b++ps) s
  else match fB a b with
   |.bad e=>some ([],e)
   |.ok x y=>if okU x y ps s=true then gg ins n (mw x y ps) (ins (x,y) (ke x y s))else some ([],3)
def AZ(b:T × T) (s:Lb):Lb:=s++[b]
def lJ(b:T × T):Lb->Lb
 |[]=>[b]
 |c::l=>if b.1.cmp c.1<0 then b::c::l else c::lJ b l
theorem oA(b:T × T):∀l,(lJ b l).Perm (l++[b])
 |[]=>.refl _
 |c::l=>by
  rw[lJ];split
  ·exact(List.perm_append_singleton b (c::l)).symm
  exact(oA b l).cons c
theorem Mv(b:T × T) (l:Lb):(lJ b l).length=l.length+1:=by rw[(oA b l).length_eq,List.length_append];rfl
def xM(l:Lb):Prop:=l.Pairwise λa b=>le a.1 b.1
theorem Et{b:T × T}:∀ {l},xM l->xM (lJ b l)
 |[],_=>by simp[lJ,xM]
 |c::l,h=>by
  have h':=dw.1 h;rw[lJ];split
  ·rename_i e;have f:le b.1 c.1:=le_iff.2 o_;refine dw.2 ⟨λd a=>?_,h⟩;rcases aV.1 a with rfl|a
   ·exact f
   exact le_trans f (h'.1 d a)
  rename_i e;refine dw.2 ⟨λd a=>?_,Et h'.2⟩;rcases aK.1 ((oA b l).mem_iff.1 a)with a|a
  ·exact h'.1 d a
  simp only[aS]at a;subst a;exact e
theorem L9{x y:T}{s:Lb}(h:xM s):xM (ke x y s):=by unfold xM ke;rw[iD];exact h
theorem MH{x y:T}{s s':Lb}(p:s.Perm s'):okS x y s=okS x y s':=by rw[fc];simp only[okS,av];exact⟨λh b a=>h b (p.mem_iff.2 a),λh b a=>h b (p.mem_iff.1 a)⟩
theorem qz:∀(n:Nat) (ps s s' r:Lb) (e:Int),s.Perm s'->xM s'->gg AZ n ps s=some (r,e)->∃r',gg lJ n ps s'=some (r',e)/\r.Perm r'/\xM r'
 |n,[],s,s',r,e,hp,ha,h=>by simp only[gg,aA,aE]at h;obtain⟨rfl,rfl⟩:=h;exact⟨s',by simp[gg],hp,ha⟩
 |0,_::_,s,s',r,e,hp,ha,h=>by simp[gg]at h
 |n+1,(a,b)::ps,s,s',r,e,hp,ha,h=>by
  rw[gg]at h ⊢;by_cases c:a.cmp b=0
  ·rw[if_pos c]at h ⊢;exact qz n ps s s' r e hp ha h
  rw[if_neg c]at h ⊢;by_cases d:fH a b=true
  ·rw[if_pos d]at h ⊢;exact qz n _ s s' r e hp ha h
  rw[if_neg d]at h ⊢;cases f:fB a b with
  |bad j=>rw[f]at h;simp only[aA,aE]at h;obtain⟨rfl,rfl⟩:=h;exact⟨[],rfl,.refl _,List.Pairwise.nil⟩
  |ok x y=>
   rw[f]at h;dsimp only at h ⊢;have i:okU x y ps s=okU x y ps s':=by rw[okU,okU,MH hp]
   rw[<-i];by_cases g:okU x y ps s=true
   ·rw[if_pos g]at h ⊢;refine qz n _ _ _ r e ?_ (Et (L9 ha)) h;exact((hp.map _).append_right _).trans (oA _ _).symm
   rw[if_neg g]at h ⊢;simp only[aA,aE]at h;obtain⟨rfl,rfl⟩:=h;exact⟨[],rfl,.refl _,List.Pairwise.nil⟩
theorem rf{U:Lq}{K:Nat}:∀(n:Nat) (ps s r:Lb),InvU U K ps s->gg AZ n ps s=some (r,0)->r=[]\/InvU U K [] r
 |n,[],s,r,hi,h=>by simp only[gg,aA,aE,and_true]at h;subst h;exact .inr hi
 |0,_::_,s,r,hi,h=>by simp[gg]at h
 |n+1,(a,b)::ps,s,r,hi,h=>by
  rw[gg]at h;by_cases h1:a.cmp b=0
  ·rw[if_pos h1]at h;exact rf n ps s r hi.skip h
  rw[if_neg h1]at h;by_cases h2:fH a b=true
  ·rw[if_pos h2]at h;exact rf n _ s r hi.kids h
  rw[if_neg h2]at h;cases hc:fB a b with
  |bad e'=>rw[hc]at h;simp only[aA,aE]at h;exact .inl h.1.symm
  |ok x y=>
   rw[hc]at h;dsimp only at h;by_cases h3:okU x y ps s=true
   ·rw[if_pos h3]at h;exact rf n _ _ r (hi.bind (λe=>h1 (cmp_zero.2 e)) hc h3).1 h
   rw[if_neg h3]at h;simp at h
def szP(ps:Lb):Nat:=(ps.map λp=>p.1.size+p.2.size).sum
theorem GA(l m:Lb):szP (l++m)=szP l+szP m:=by simp[szP]
theorem H4:∀(l m:Lq),szP (l.zip m)<=sizes l+sizes m
 |[],_=>by simp[szP]
 |_::_,[]=>by simp[szP]
 |a::l,b::m=>by have:=H4 l m;simp only[szP,gq,aM,iS,sizes]at this ⊢;omega
theorem QI{U:Lq}{K:Nat}:∀(c n:Nat) (ps s:Lb),InvU U K ps s->sr U ps<=c->szP ps<=n->∃m r,gg AZ m ps s=some r:=by
 intro c;induction c using Nat.strongRecOn with
 |_ c t=>
  intro n;induction n using Nat.strongRecOn with
  |_ n i=>
   intro ps s j w z;match ps,j,w,z with
   |[],_,_,_=>exact⟨0,_,by rw[gg]⟩
   |(a,b)::ps,j,w,z=>
    have B:=size_pos a;have D:=size_pos b;have E:szP ((a,b)::ps)=a.size+b.size+szP ps:=by simp[szP]
    by_cases g:a.cmp b=0
    ·have k:=j.skip;have v:sr U ps<=sr U ((a,b)::ps):=zR λu _ ⟨q,f,o⟩=>⟨q,bP _ f,o⟩
     have⟨m,r,h⟩:=i (szP ps) o_ ps s k o_ (aP _);exact⟨m+1,r,by rw[gg,if_pos g];exact h⟩
    by_cases p:fH a b=true
    ·have k:=j.kids;have v:sr U (mJ a b++ps)<=sr U ((a,b)::ps):=zR λu _ ⟨q,f,o⟩=>by
      rcases aK.1 f with f|f
      ·have:=wE f;exact⟨(a,b),bv,o.imp (λm=>mem_walk.2 (.inr ⟨_,this.1,m⟩)) (λm=>mem_walk.2 (.inr ⟨_,this.2,m⟩))⟩
      exact⟨q,bP _ f,o⟩
     have F:=H4 a.kids b.kids;have l:szP (mJ a b++ps)<n:=by rw[GA,mJ];have:=size_kids a;have:=size_kids b;omega
     have⟨m,r,h⟩:=i _ l _ s k o_ (aP _);exact⟨m+1,r,by rw[gg,if_neg g,if_pos p];exact h⟩
    cases d:fB a b with
    |bad e=>exact⟨1,([],e),by rw[gg,if_neg g,if_neg p,d]⟩
    |ok x y=>
     by_cases l:okU x y ps s=true
     ·have⟨k,A⟩:=j.bind (λe=>g (cmp_zero.2 e)) d l;have⟨m,r,h⟩:=t _ o_ _ _ _ k (aP _) (aP _);exact⟨m+1,r,by rw[gg,if_neg g,if_neg p,d];dsimp only;rw[if_pos l];exact h⟩
     exact⟨1,([],3),by rw[gg,if_neg g,if_neg p,d];dsimp only;rw[if_neg l]⟩
theorem Hl:∀ {l m:Lb},l.Perm m->xM l->xM m->l.Pairwise (λa b=>a.1≠b.1)->l=m
 |[],m,p,_,_,_=>(List.nil_perm.1 p).symm
 |a::l,[],p,_,_,_=>by have:=p.length_eq;simp at this
 |a::l,b::m,p,ha,hb,hd=>by
  have c:=dw.1 ha;have d:=dw.1 hb;have f:=dw.1 hd;have e:a=b:=by
   rcases aV.1 (p.mem_iff.1 bv)with e|h
   ·exact e
   rcases aV.1 (p.mem_iff.2 (bv (a:=b) (l:=m)))with e|g
   ·exact e.symm
   exact absurd (le_antisymm (c.1 b g) (d.1 a h)) (f.1 b g)
  subst e;rw[Hl (p.cons_inv) c.2 d.2 f.2]
end Go.VZ
namespace Go.VP
open Go Go.V Go.Proofs Go.RowKit TL
open Go.VZ (enc Am nF terms bV aq am ext pv bT)
theorem s86:cw C.P 121=some 8:=k_
theorem a86:gW C.P 121=some true:=k_
attribute [go_sem] s86 a86
theorem HF(i:Nat):bp C.P 121 (.ptr i 0) 0=some (.ptr i 0):=k_
attribute [go_sem] HF
theorem WO(b:T × T) (h:H):mg C.P h 121 (bT b)=some (.ptr h.length 0,h++[.cells (bT b).cells .live]):=by simp[mg,bT,am,s86,au]
theorem Mj{h:H}{i:Nat}{b:T × T}(hi:h[i]?=some (.cells (bT b).cells .live)):aJ C.P h 41 (.ptr i 0)=some (enc b.1):=by simp[aJ,hi,aY,a25,s25,bT,am];rw[bV]
theorem QS(a b:T × T) (ha:a.1.size<4000000) (hb:b.1.size<4000000):az C 212 [bT a,bT b]=some (.int .i64 (a.1.cmp b.1)):=by
 refine bL Tryz.func212 rfl λR e=>?_
 have f:=uj a.1 b.1 ha hb;obtain⟨d,c⟩:∃g:H,g=[.cells (bT a).cells .live,.cells (bT b).cells .live]:=⟨_,rfl⟩
 have h:d[0]?=some (.cells (bT a).cells .live):=by rw[c];rfl
 have i:d[1]?=some (.cells (bT b).cells .live):=by rw[c];rfl
 have j:=Mj h;have k:=Mj i;simp[go_sem,WO];rw[<-c];simp[go_sem,j,k,f];exact e ⟨.int .i64 (a.1.cmp b.1),by simp[ag,cO,Tryz.f212,go_sem],aU rfl rfl⟩
theorem FN [DFlag] (hD:DFlag.D) (a b:T × T) (ha:a.1.size<4000000) (hb:b.1.size<4000000){w:World}{u v:Value}(hg:kF (λ_ _=>True) w) (hu:IRel (λ_ _=>True) w (bT a) u) (hv:IRel (λ_ _=>True) w (bT b) v) :
  Calls Tryz.prog 212 #[u,v] w λe w'=>e=.returned (.int .i64 (a.1.cmp b.1))/\∃q os,w'=Go.Sort.grow (w.drewN q) os:=by
 have f:=QS a b ha hb;unfold az at f;split at f<;>try(cases f;done)
 rename_i r g c;refine(okD.fn 212 [bT a,bT b] [] r g k_ c w.heap.size (λ_ _=>True) [] w #[u,v] (.start hg) rfl (λi x y c d=>?_)).mono ?_
 ·match i,c,d with
  |0,c,d=>simp at c d;subst c;subst d;exact .data (ny hu)
  |1,c,d=>simp at c d;subst c;subst d;exact .data (ny hv)
  |i+2,c,d=>simp at c
 rintro e w' ⟨v,rfl,σ',h,j,k⟩;have l:=iW (h.stiller (da g)) cM r _ v f (k.step (.stiller h (da g)));cases l;exact⟨rfl,Ij hD (rH j.below j.drawn)⟩
theorem HV(a b:T × T) (ha:a.1.size<4000000) (hb:b.1.size<4000000){w:World}{u v:Value}(hg:kF (λ_ _=>True) w) (hu:IRel (λ_ _=>True) w (bT a) u) (hv:IRel (λ_ _=>True) w (bT b) v) :
  Calls Tryz.prog 212 #[u,v] w λe w'=>e=.returned (.int .i64 (a.1.cmp b.1))/\∃q os,w'=Go.Sort.grow (w.drewN q) os:=@FN ⟨True⟩ trivial a b ha hb w u v hg hu hv
end Go.VP
namespace Go.Proofs
open Go.Shelf
def Tryz.laysSortB_ren:Go.Shelf.Ren:=⟨fun|6=>96|15=>134|14=>133|28=>173|29=>174|20=>165|21=>166|22=>167|23=>168|24=>169|25=>170|26=>171|27=>172|46=>199|47=>200|48=>201|49=>202|50=>203|57=>223|n=>n,fun|22=>81|24=>121|25=>141|3=>3|39=>169|0=>0|53=>208|55=>210|4=>4|46=>202|45=>201|50=>67|5=>5|9=>9|66=>229|70=>179|76=>244|77=>245|n=>n,fun|n=>n⟩
theorem Tryz.laysSortB:Go.Proofs.SlLaysF0.n6 Tryz.prog Tryz.laysSortB_ren:={
 mixed:=k_
 f6:=⟨Tryz.f96.name,d_,Tryz.func96.trans (congrArg some k_)⟩
 f14:=⟨Tryz.f133.name,d_,Tryz.func133.trans (congrArg some k_)⟩
 f15:=Tryz.func134.trans (congrArg some k_)
 f20:=⟨Tryz.f165.name,d_,Tryz.func165.trans (congrArg some k_)⟩
 f21:=⟨Tryz.f166.name,d_,Tryz.func166.trans (congrArg some k_)⟩
 f22:=⟨Tryz.f167.name,d_,Tryz.func167.trans (congrArg some k_)⟩
 f23:=⟨Tryz.f168.name,d_,Tryz.func168.trans (congrArg some k_)⟩
 f24:=⟨Tryz.f169.name,d_,Tryz.func169.trans (congrArg some k_)⟩
 f25:=⟨Tryz.f170.name,d_,Tryz.func170.trans (congrArg some k_)⟩
 f26:=⟨Tryz.f171.name,d_,Tryz.func171.trans (congrArg some k_)⟩
 f27:=⟨Tryz.f172.name,d_,Tryz.func172.trans (congrArg some k_)⟩
 f28:=Tryz.func173.trans (congrArg some k_)
 f29:=Tryz.func174.trans (congrArg some k_)
 f46:=⟨Tryz.f199.name,d_,Tryz.func199.trans (congrArg some k_)⟩
 f47:=Tryz.func200.trans (congrArg some k_)
 f48:=Tryz.func201.trans (congrArg some k_)
 f49:=⟨Tryz.f202.name,d_,Tryz.func202.trans (congrArg some k_)⟩
 f50:=⟨Tryz.f203.name,d_,Tryz.func203.trans (congrArg some k_)⟩
 f57:=⟨Tryz.f223.name,d_,Tryz.func223.trans (congrArg some k_)⟩
 t0:=Tryz.underlying0
 a0:=Tryz.isAgg0
 z0:=Tryz.sizeOf0
 v0:=Tryz.zeroValue0
 t3:=Tryz.underlying3
 a3:=Tryz.isAgg3
 z3:=Tryz.sizeOf3
 v3:=Tryz.zeroValue3
 t4:=Tryz.underlying4
 a4:=Tryz.isAgg4
 z4:=Tryz.sizeOf4
 v4:=Tryz.zeroValue4
 t5:=Tryz.underlying5
 a5:=Tryz.isAgg5
 z5:=Tryz.sizeOf5
 v5:=Tryz.zeroValue5
 t9:=Tryz.underlying9
 a9:=Tryz.isAgg9
 z9:=Tryz.sizeOf9
 v9:=Tryz.zeroValue9
 t22:=Tryz.underlying81
 a22:=Tryz.isAgg81
 z22:=Tryz.sizeOf81
 v22:=Tryz.zeroValue81
 t25:=Tryz.underlying141
 a25:=Tryz.isAgg141
 z25:=Tryz.sizeOf141
 v25:=Tryz.zeroValue141
 t39:=Tryz.underlying169
 a39:=Tryz.isAgg169
 z39:=Tryz.sizeOf169
 v39:=Tryz.zeroValue169
 t45:=Tryz.underlying201
 a45:=Tryz.isAgg201
 z45:=Tryz.sizeOf201
 v45:=Tryz.zeroValue201
 t46:=Tryz.underlying202
 a46:=Tryz.isAgg202
 z46:=Tryz.sizeOf202
 v46:=Tryz.zeroValue202
 t50:=Tryz.underlying67
 a50:=Tryz.isAgg67
 z50:=Tryz.sizeOf67
 v50:=Tryz.zeroValue67
 t53:=Tryz.underlying208
 a53:=Tryz.isAgg208
 z53:=Tryz.sizeOf208
 v53:=Tryz.zeroValue208
 t55:=Tryz.underlying210
 a55:=Tryz.isAgg210
 z55:=Tryz.sizeOf210
 v55:=Tryz.zeroValue210
 t66:=Tryz.underlying229
 a66:=Tryz.isAgg229
 z66:=Tryz.sizeOf229
 v66:=Tryz.zeroValue229
 t70:=Tryz.underlying179
 a70:=Tryz.isAgg179
 z70:=Tryz.sizeOf179
 v70:=Tryz.zeroValue179
 t76:=Tryz.underlying244
 a76:=Tryz.isAgg244
 z76:=Tryz.sizeOf244
 v76:=Tryz.zeroValue244
 t77:=Tryz.underlying245
 a77:=Tryz.isAgg245
 z77:=Tryz.sizeOf245
 v77:=Tryz.zeroValue245}
end Go.Proofs
namespace Go.VZ
open Go Go.V Go.Proofs Go.RowKit Go.Sort TL
variable {B:Nat}{A0:Nat->Nat->Prop}{σ:List (Option Nat)}{h:H}{w:World}
def bC(b:T × T):LA:=(enc b.1).cells++(enc b.2).cells
theorem Ff(b:T × T):bC b=[.int .i64 b.1.kind,.str b.1.name,.int .i64 b.1.sort,terms b.1.kids,.int .i64 b.2.kind,.str b.2.name,.int .i64 b.2.sort,terms b.2.kids]:=by unfold bC;rw[aq,aq];rfl
theorem A2(b:T × T):(bC b).length=8:=by rw[Ff];rfl
theorem QJ(b:T × T):bT b=.agg (bC b):=by rw[Ff];rfl
theorem Hj(b:T × T):∀c∈bC b,c.one=true:=by intro c a;rw[Ff]at a;simp only[aV,dN,or_false]at a;rcases a with rfl|rfl|rfl|rfl|rfl|rfl|rfl|rfl<;>rfl
theorem tu(a:T × T) (l:Lb):bw (a::l)=bC a++bw l:=rfl
theorem tt:∀l:Lb,(bw l).length=8*l.length
 |[]=>rfl
 |a::l=>by rw[tu,List.length_append,A2,tt l,aL];omega
theorem Aw{l:Lb}{j c:Nat}(hj:j<l.length) (hc:c<8):(bw l)[8*j+c]?=(bC l[j])[c]?:=by
 induction l generalizing j with
 |nil=>simp at hj
 |cons a l b=>
  have d:=A2 a;rw[tu];cases j with
  |zero=>rw[aH o_];simp
  |succ j=>rw[ap o_,show 8*(j+1)+c-(bC a).length=8*j+c by omega,b (by simpa using hj)];simp
theorem Au{l:Lb}{c:AV}(hc:c∈bw l):∃b,c∈bC b:=by simp only[bw,bR]at hc;have⟨b,_,hc⟩:=hc;exact⟨b,hc⟩
structure ElB (A:Nat->Nat->Prop) (w:World) where
 b:T × T
 vs:List Value
 len:vs.length=8
 small:b.1.size<4000000/\b.2.size<4000000
 rel:∀(c:Nat) a v,(bC b)[c]?=some a->vs[c]?=some v->IRel A w a v
theorem QK{A:Nat->Nat->Prop}{w:World}(x:ElB A w):∀v∈x.vs,v.oneCell'=true:=by intro v d;have⟨c,a⟩:=nc.1 d;have e:=(aB.1 a).1;have g:=x.len;have h:=A2 x.b;have f:(bC x.b)[c]?=some (bC x.b)[c]:=aF o_;exact tT (x.rel c _ v f a) (Hj x.b _ (aG _))
theorem U3{A:Nat->Nat->Prop}{w:World}:∀(c:Nat) a v,(bC (.mk 0 ⟨#[]⟩ 0 [],.mk 0 ⟨#[]⟩ 0 []))[c]?=some a->([.int .i64 0,.string ⟨#[]⟩,.int .i64 0,.slice none 0 0,.int .i64 0,.string ⟨#[]⟩,.int .i64 0,.slice none 0 0]:List Value)[c]?=some v->IRel A w a v:=by
 intro c a v b d;rw[Ff]at b;match c,b,d with
 |0,b,d=>simp at b d;subst b;subst d;exact .int _ _
 |1,b,d=>simp at b d;subst b;subst d;exact .str _
 |2,b,d=>simp at b d;subst b;subst d;exact .int _ _
 |3,b,d=>simp at b d;subst b;subst d;exact .islNil
 |4,b,d=>simp at b d;subst b;subst d;exact .int _ _
 |5,b,d=>simp at b d;subst b;subst d;exact .str _
 |6,b,d=>simp at b d;subst b;subst d;exact .int _ _
 |7,b,d=>simp at b d;subst b;subst d;exact .islNil
 |i+8,b,d=>simp at b
instance {A:Nat->Nat->Prop}{w:World}:Inhabited (ElB A w):=⟨⟨(.mk 0 ⟨#[]⟩ 0 [],.mk 0 ⟨#[]⟩ 0 []),_,rfl,d_,U3⟩⟩
theorem WK{A:Nat->Nat->Prop}{w:World}{vs:Array Value}:∀(l:Lb) (off:Nat),(∀b∈l,b.1.size<4000000/\b.2.size<4000000)->(∀(k:Nat) c v,(bw l)[k]?=some c->vs[off+k]?=some v->IRel A w c v)->off+8*l.length<=vs.size ->
  ∃es:List (ElB A w),es.map ElB.b=l/\∀(j c:Nat) (hj:j<es.length),c<8->vs[off+(8*j+c)]?=(es[j]).vs[c]?
 |[],off,_,_,_=>⟨[],rfl,λj c hj=>by simp at hj⟩
 |a::l,off,hs,hr,hl=>by
  simp only[aL]at hl;have e8:=A2 a;obtain⟨es,h1,h2⟩:=WK l (off+8) (λt ht=>hs t (by simp[ht])) (λk c v hc hv=>hr (8+k) c v (by
   rw[tu,ap o_,show 8+k-(bC a).length=k by omega];exact hc) (by rw[<-gO];exact hv)) o_
  have hg:∀c,c<8->((vs.toList.drop off).take 8)[c]?=vs[off+c]?:=λc hc=>by
   rw[List.getElem?_take_of_lt hc,cd,bW]
  refine⟨⟨a,(vs.toList.drop off).take 8,by simp;omega,hs a s_,λc x v hx hv=>?_⟩::es,by simp[h1],?_⟩
  ·have hc:c<8:=by have:=(aB.1 hx).1;omega
   rw[hg c hc]at hv;refine hr c x v ?_ hv;have:=Aw (l:=a::l) (j:=0) (c:=c) s_ hc;rw[Nat.mul_zero,bu]at this;rw[this];exact hx
  intro j c hj hc;cases j with
  |zero=>change vs[off+(8*0+c)]?=((vs.toList.drop off).take 8)[c]?;rw[hg c hc,Nat.mul_zero,bu]
  |succ j=>have:=h2 j c (by simpa using hj) hc;rw[show off+(8*(j+1)+c)=off+8+(8*j+c) by omega,this];rfl
theorem Iu{A:Nat->Nat->Prop}{w:World}(x:ElB A w):IRel A w (bT x.b) (.agg x.vs.toArray):=by rw[QJ];refine .agg (Hj _) (by have:=x.len;have:=A2 x.b;simp;omega) λi a v c d=>x.rel i a v c (by simpa using d)
theorem FS{A:Nat->Nat->Prop}{l:Lb}{k:Nat}{c:AV}{v:Value}(hc:(bw l)[k]?=some c) (r:Rel Tryz.prog A σ h w c v):IRel A w c v:=by have⟨b,a⟩:=Au (bQ hc);rw[Ff]at a;simp only[aV,dN,or_false]at a;rcases a with rfl|rfl|rfl|rfl|rfl|rfl|rfl|rfl<;>(cases r with|data hd=>exact hd)
theorem Yc{A:Nat->Nat->Prop}{w:World}:SWO (ltOf λx y:ElB A w=>x.b.1.cmp y.b.1) where
 irrefl x:=by simp[ltOf,cmp_refl]
 trans x y z h1 h2:=by simp only[ltOf,decide_eq_true_eq]at *;exact cmp_trans h1 h2
 ntrans x y z h1 h2:=by simp only[ltOf,decide_eq_false_iff_not]at *;exact le_trans (x:=z.b.1) (y:=y.b.1) (z:=x.b.1) h2 h1
theorem zk(l:Lb):(pg l).Perm l:=List.mergeSort_perm l _
theorem Lf(l:Lb):xM (pg l):=by
 have:=List.pairwise_mergeSort (le:=λx y:T × T=>!decide (y.1.cmp x.1<0)) (λa b c e d=>by
  simp only[cL,decide_eq_false_iff_not]at *;exact le_trans e d) (λa b=>by
  rw[bz];simp only[cL,decide_eq_false_iff_not];by_cases h:b.1.cmp a.1<0
  ·right;intro d;have:=cmp_anti a.1 b.1;omega
  exact .inl h) l
 exact this.imp λh=>by simpa[le]using h
theorem D5 [DFlag] (hr:HRel Tryz.prog B A0 σ h w){i0 b c:Nat}{l:Lb}(hs:∀b∈l,b.1.size<4000000/\b.2.size<4000000) (hd:l.Pairwise λa b=>a.1≠b.1) (hid:h[i0]?=some (.cells (bw l) .live)) (hb:σ[i0]?=some (some b)) (hl:l.length<4611686018427387904) :
  Calls Tryz.prog 96 #[.slice (some ⟨b,0,none⟩) l.length c,.func (.func 212) #[] #[]] w (λe w'=>∃v,e=.returned v/\Go.V.gC Tryz.prog B A0 σ h w (.tuple []) (h.set i0 (.cells (bw (pg l)) .live)) v w'):=by
 have⟨b',vs,ty,t,hB,d,q9,q7,hrel⟩:=hr.cells i0 _ .live hid s_;rw[hb]at t;simp only[aA]at t;subst t;have q8:=tt l;have⟨s,N,O⟩:=WK (A:=Alw Tryz.prog B A0 σ h) (w:=w) (vs:=vs) l 0 hs (λk x v u E=>by rw[bu]at E;exact FS u (hrel k x v u E)) o_
 have F:s.length=l.length:=by rw[<-N];simp
 have q':b<w.heap.size:=(aR.1 d).1;have q0:∀k o,Alw Tryz.prog B A0 σ h k o->k≠b:=λk o z e=>by subst e;unfold Alw at z;rw[if_neg o_]at z;exact z.1 i0 _ hid hb
 have up:∀(m:Nat) (D:Array Obj) (Q:Array (ElB (Alw Tryz.prog B A0 σ h) w)) (k o:Nat) x,Alw Tryz.prog B A0 σ h k o->w.cell? ⟨k,o,none⟩=some x->(sortWorldK ElB.vs 8 w b 0 m Q D).cell? ⟨k,o,none⟩=some x:=λm D Q k o x z Z=>by have hk:=World.block_lt_of_cell? w _ Z;unfold sortWorldK;rw[cell?_grow _ _ _ (by unfold putRowK putRow mapBlock;simpa using hk),cell?_putRowK_other (h:=q0 k o z)];exact Z
 have S:CmpLays Tryz.prog 212 #[] ElB.vs 8 (λx y:ElB (Alw Tryz.prog B A0 σ h) w=>x.b.1.cmp y.b.1) b 0 s.toArray.size w:=by
  intro m D Q _ x y;have go:∀ {a:AV}{v:Value},IRel (Alw Tryz.prog B A0 σ h) w a v->IRel (λ_ _=>True) (sortWorldK ElB.vs 8 w b 0 m Q D) a v:=λr=>r.mono λk o x z Z=>⟨trivial,up m D Q k o x z Z⟩
  exact Go.VP.HV x.b y.b x.small.1 y.small.1 ⟨λg a M=>go (hr.gr.1 g a M),λg n M=>by have⟨z',f,q1,q2,t,e2⟩:=hr.tab g n M;exact⟨f,q1,q2,qx t o_,e2⟩⟩ (go (Iu x)) (go (Iu y))
 have hH:HoldsK ElB.vs 8 w b 0 s.toArray:=by
  intro j G;have z0:j<8*l.length:=by simp[size_flatK]at G;omega
  have hd:j/8<s.length:=o_;have M:=O (j/8) (j%8) hd (iH _ o_);rw[show 0+(8*(j/8)+j%8)=j by omega]at M;have h8:=(s[j/8]).len;have q:j%8<8:=iH _ o_;refine⟨?_,by simp[World.frozen?,d]⟩;rw[get_flatK _ _ _ _ (by simpa[size_flatK]using G)];simp only[World.cell?,d,bu,gn,aT,if_false,M,id];rw[getElem!_pos s.toArray (j/8) (by simpa using hd)];simp only[List.getElem_toArray];rw[getElem!_pos _ _ o_,aF o_]
 have q3:s.toArray.size<4611686018427387904:=by simp;omega
 have I:=AnyQ.slices_SortFunc (P:=Tryz.prog) Tryz.laysSortB 8 Tryz.isAgg121 Tryz.sizeOf121 (ElB.vs (A:=Alw Tryz.prog B A0 σ h) (w:=w)) ElB.len QK (λx y=>x.b.1.cmp y.b.1) Yc 212 #[] b 0 c s.toArray w (enters_of Tryz.func212 k_ rfl) S hH q' q3;change Calls Tryz.prog 96 _ _ _ at I;rw[show s.toArray.size=l.length by simp[F]]at I;refine I.mono ?_;rintro e w' ⟨rfl,p,n,D,hp,q4,rfl⟩;have J:p.size=l.length:=by have:=hp.1;simpa[F]using this
 have hT:p.toList.map ElB.b=pg l:=by
  have p1:(p.toList.map ElB.b).Perm l:=by have:=hp.2.2;rw[show l.length=p.size from J.symm,mU,J,show l.length=s.toArray.size by simp[F],mU]at this;rw[<-N];exact this.map _
  refine Hl (p1.trans (zk l).symm) ?_ (Lf l) ((p1.pairwise_iff fun {a b}(k:a.1≠b.1)=>λe=>k e.symm).2 hd);unfold xM;rw[iD,iz];intro i j hi G q5;have:=q4 i j (aO _) q5 (by simpa[J]using G);simp only[ltOf,decide_eq_false_iff_not]at this;rw[getElem!_pos p i (by simpa using hi),getElem!_pos p j (by simpa using G)]at this;simpa[le]using this
 obtain⟨f,evs⟩:∃f,f=putCells id 0 (flatK ElB.vs 8 p) vs:=⟨_,rfl⟩
 have U:putRowK ElB.vs 8 w b 0 p=w.setRow b f:=by unfold putRowK putRow;rw[we _ d,evs]
 have hw:sortWorldK ElB.vs 8 w b 0 n p D=Go.Sort.grow ((w.setRow b f).drewN n) D:=by rw[<-U];rfl
 have X:f.size=vs.size:=by rw[evs];simp[putCells]
 have Y:(pg l).length=l.length:=(zk l).length_eq;have q6:(bw (pg l)).length=8*l.length:=by rw[tt,Y]
 have K:∀(k:Nat) x v,(bw (pg l))[k]?=some x->f[k]?=some v->Rel Tryz.prog (Alw Tryz.prog B A0 σ h) σ h w x v:=by
  intro k x v u E;have hk:k<8*l.length:=by rw[<-q6];exact(aB.1 u).1
  have hd:k/8<p.size:=o_;have q:k%8<8:=iH _ o_;have G:k/8<(pg l).length:=by rw[Y];omega
  have t:=Aw G q;rw[show 8*(k/8)+k%8=k by omega,u]at t;have et:(pg l)[k/8]=(p[k/8]).b:=by simp[<-hT]
  rw[et]at t;have ev:v=(p[k/8]).vs[k%8]'(by rw[(p[k/8]).len];exact q):=by rw[evs]at E;simp only[putCells,Array.getElem?_mapIdx,aO,true_and,bu,size_flatK,Nat.sub_zero,id]at E;rw[aX o_,cT,if_pos o_,get_flatK _ _ _ _ o_,getElem!_pos p _ hd,getElem!_pos _ _ (by rw[(p[k/8]).len];exact q)]at E;simpa using E.symm
  exact .data ((p[k/8]).rel _ _ _ t.symm (by rw[ev];exact aF _))
 have L:∀x∈bw (pg l),x.one=true:=by intro x u;have⟨b,u⟩:=Au u;exact Hj b x u
 have k1:=HRel.write hr hid hb d X (cs':=bw (pg l)) o_ L K;have k2:=Step.write (cs':=bw (pg l)) hr hid hb d X;have g:Grows (w.setRow b f) (sortWorldK ElB.vs 8 w b 0 n p D):=by rw[hw];refine⟨rfl,rfl,rfl,by simp[Go.Sort.grow,World.drewN],λk hk=>?_,λ_=>by simp[Go.Sort.grow,World.drewN]⟩;simp only[Go.Sort.grow,World.drewN];exact cr hk
 exact⟨_,rfl,σ,k1.grows g,k2.trans (.grows k1 g),.data (.tuple rfl (λi a v z=>by simp at z))⟩
theorem Cm [DFlag]:sd Tryz.prog 96 rF:=by
 intro g h r F c B G σ w j k o b;unfold rF at c;split at c<;>try(cases c;done)
 ·rename_i x;simp only[aA,aE]at c;obtain⟨rfl,rfl⟩:=c;have⟨l⟩:=j;match l,o,b with
  |[u,v],_,b=>obtain⟨p,d,rfl⟩:=Ie (b 0 _ u rfl rfl);have f:=wm (b 1 _ v rfl rfl);subst f;refine(show Calls Tryz.prog 96 #[.slice p 0 d,.func (.func 212) #[] #[]] w _ from AnyF.slices_SortFunc_none (P:=Tryz.prog) {Tryz.laysSortB with} p d _ w).mono ?_;rintro e I ⟨rfl,rfl⟩;exact⟨_,rfl,σ,k,.refl _ _ _,.data (.tuple rfl (λi a v b=>by simp at b))⟩
 rename_i J n;split at c<;>try(cases c;done)
 rename_i e;simp only[aA,aE]at c;obtain⟨rfl,rfl⟩:=c;have⟨q,z,s,t,c3⟩:=e.choose_spec;generalize e.choose=m at q s c3 z t ⊢;subst q;have⟨l⟩:=j;match l,o,b with
 |[u,v],_,b=>
  have f:=wm (b 1 _ v rfl rfl);subst f;have A:=b 0 _ u rfl rfl;cases A with
  |data D=>cases D
  |msl E K L M N y O=>exact D5 k s t c3 E o_
end Go.VZ
namespace Go.Proofs
open Go.Shelf
def Tryz.laysM171_ren:Go.Shelf.Ren:=⟨fun|171=>132|243=>164|246=>198|283=>219|284=>220|285=>221|286=>222|129=>174|317=>231|318=>232|319=>233|320=>234|337=>235|338=>236|n=>n,fun|3=>3|9=>9|2=>2|4=>4|171=>240|0=>0|53=>210|37=>22|5=>5|173=>242|212=>259|51=>208|20=>20|213=>260|46=>169|232=>262|233=>263|n=>n,fun|17=>2|18=>3|19=>4|n=>n⟩
theorem Tryz.laysM171:Go.Proofs.LaysM.n171 Tryz.prog Tryz.laysM171_ren:={
 mixed:=k_
 f129:=Tryz.func174.trans (congrArg some k_)
 f171:=Tryz.func132.trans (congrArg some k_)
 f243:=Tryz.func164.trans (congrArg some k_)
 f246:=Tryz.func198.trans (congrArg some k_)
 f283:=Tryz.func219.trans (congrArg some k_)
 f284:=Tryz.func220.trans (congrArg some k_)
 f285:=Tryz.func221.trans (congrArg some k_)
 f286:=Tryz.func222.trans (congrArg some k_)
 f317:=Tryz.func231.trans (congrArg some k_)
 f318:=Tryz.func232.trans (congrArg some k_)
 f319:=Tryz.func233.trans (congrArg some k_)
 f320:=Tryz.func234.trans (congrArg some k_)
 f337:=Tryz.func235.trans (congrArg some k_)
 f338:=Tryz.func236.trans (congrArg some k_)
 t0:=Tryz.underlying0
 a0:=Tryz.isAgg0
 z0:=Tryz.sizeOf0
 v0:=Tryz.zeroValue0
 t2:=Tryz.underlying2
 a2:=Tryz.isAgg2
 z2:=Tryz.sizeOf2
 v2:=Tryz.zeroValue2
 t3:=Tryz.underlying3
 a3:=Tryz.isAgg3
 z3:=Tryz.sizeOf3
 v3:=Tryz.zeroValue3
 t4:=Tryz.underlying4
 a4:=Tryz.isAgg4
 z4:=Tryz.sizeOf4
 v4:=Tryz.zeroValue4
 t5:=Tryz.underlying5
 a5:=Tryz.isAgg5
 z5:=Tryz.sizeOf5
 v5:=Tryz.zeroValue5
 t9:=Tryz.underlying9
 a9:=Tryz.isAgg9
 z9:=Tryz.sizeOf9
 v9:=Tryz.zeroValue9
 t20:=Tryz.underlying20
 a20:=Tryz.isAgg20
 z20:=Tryz.sizeOf20
 v20:=Tryz.zeroValue20
 t37:=Tryz.underlying22
 a37:=Tryz.isAgg22
 z37:=Tryz.sizeOf22
 v37:=Tryz.zeroValue22
 t46:=Tryz.underlying169
 a46:=Tryz.isAgg169
 z46:=Tryz.sizeOf169
 v46:=Tryz.zeroValue169
 t51:=Tryz.underlying208
 a51:=Tryz.isAgg208
 z51:=Tryz.sizeOf208
 v51:=Tryz.zeroValue208
 t53:=Tryz.underlying210
 a53:=Tryz.isAgg210
 z53:=Tryz.sizeOf210
 v53:=Tryz.zeroValue210
 t171:=Tryz.underlying240
 a171:=Tryz.isAgg240
 z171:=Tryz.sizeOf240
 v171:=Tryz.zeroValue240
 t173:=Tryz.underlying242
 a173:=Tryz.isAgg242
 z173:=Tryz.sizeOf242
 v173:=Tryz.zeroValue242
 t212:=Tryz.underlying259
 a212:=Tryz.isAgg259
 z212:=Tryz.sizeOf259
 v212:=Tryz.zeroValue259
 t213:=Tryz.underlying260
 a213:=Tryz.isAgg260
 z213:=Tryz.sizeOf260
 t232:=Tryz.underlying262
 a232:=Tryz.isAgg262
 z232:=Tryz.sizeOf262
 v232:=Tryz.zeroValue262
 t233:=Tryz.underlying263
 a233:=Tryz.isAgg263
 z233:=Tryz.sizeOf263
 v233:=Tryz.zeroValue263
 g17:=k_
 g18:=k_
 g19:=k_
 i0:=k_
 i2:=k_
 i3:=k_
 i4:=k_
 i5:=k_
 i9:=k_
 i20:=k_
 i37:=k_
 i46:=k_
 i51:=k_
 i53:=k_
 i171:=k_
 i173:=k_
 i212:=k_
 i232:=k_
 i233:=k_
 m17:=k_
 m18:=k_
 m19:=by kernel_rfl}
open Go.RowKit Go.Sort Go.Lib in
theorem Tryz.strconv_Itoa(n:Int) (h0:-9223372036854775808<=n) (h1:n<=9223372036854775807) (w:World) (htab:Lib.TabIs Tryz.prog w "internal/strconv.uint64pow10" .u64 Lib.pow10Tab) :
  Calls Tryz.prog 132 #[.int .i64 n] w λe w'=>e=.returned (.string ⟨(Lib.itoa n).toArray⟩)/\∃k os,w'=grow (w.drewN k) os:=Any.strconv_Itoa Tryz.laysM171 n h0 h1 w htab
end Go.Proofs
namespace Go.VZ
open Go Go.V Go.Proofs Go.RowKit TL
theorem SJ{A:Nat->Nat->Prop}{w:World}(hg:kF A w):Lib.TabIs Tryz.prog w "internal/strconv.uint64pow10" .u64 Lib.pow10Tab:=by
 have⟨k,n,o,e,p⟩:=hg.2 2 20 rfl;have c:∀j,j<20->k[j]?=some (.int .u64 ((10 ^ j:Nat):Int)):=by
  intro j b;have r:=hg.1 2 (.agg ((List.range 20).map λi=>.int .u64 ((10 ^ i:Nat):Int))) rfl;cases r with
  |iptr f q l m=>
   have a:((AV.agg ((List.range 20).map λi=>.int .u64 ((10 ^ i:Nat):Int))).cells)[j]?=some (.int .u64 ((10 ^ j:Nat):Int)):=by simp only[AV.cells,cK,eo b,cT]
   have⟨_,g⟩:=l j _ a;have h:=m j _ a;generalize f j=u at g h;cases h;simpa[World.cell?,e]using g
 unfold Lib.TabIs World.var?;rw[show Tryz.prog.globalNamed "internal/strconv.uint64pow10" = some 2 from by kernel_rfl];simp only[cZ,e,aA];apply qH;intro j;by_cases b:j<20
 ·rw[c j b];have:Lib.pow10Tab[j]?=some ((10 ^ j:Nat):Int):=by
   have d:∀j,j<20->Lib.pow10Tab[j]?=some ((10 ^ j:Nat):Int):=by decide +kernel
   exact d j b
  simp[this]
 rw[eV o_,eV];have:Lib.pow10Tab.length=20:=by decide +kernel
 simp;omega
theorem KV:((List.range 1000).all λm=>decide (Lib.itoa (m:Int)=jj m))=true:=k_
theorem G5{m:Nat}(h:m<1000):Lib.itoa (m:Int)=jj m:=of_decide_eq_true (av.1 KV m (dR.2 h))
theorem EV [DFlag]:sd Tryz.prog 132 tI:=by
 intro d h r t a B v σ w f b i c;unfold tI at a;split at a<;>try(cases a;done)
 rename_i n;split at a<;>try(cases a;done)
 rename_i j;simp only[aA,aE]at a;obtain⟨rfl,rfl⟩:=a;obtain⟨m,rfl⟩:=Int.eq_ofNat_of_zero_le j.1;have⟨l⟩:=f;match l,i,c with
 |[u],_,c=>
  have o:=c 0 _ u rfl rfl;have:u=.int .i64 m:=by
   cases o with
   |data p=>cases p;rfl
  subst this;refine(Tryz.strconv_Itoa (m:Int) o_ o_ w (SJ b.gr)).mono ?_;rintro e x ⟨rfl,k,q,rfl⟩;have g:Grows w (Go.Sort.grow (w.drewN k) q):=by refine⟨rfl,rfl,rfl,by simp[Go.Sort.grow,World.drewN],λk s=>?_,λ_=>by simp[Go.Sort.grow,World.drewN]⟩;simp only[Go.Sort.grow,World.drewN];exact cr s
  refine⟨_,rfl,σ,b.grows g,.grows b g,?_⟩;rw[G5 o_,Int.toNat_natCast];exact .data (.str _)
end Go.VZ
