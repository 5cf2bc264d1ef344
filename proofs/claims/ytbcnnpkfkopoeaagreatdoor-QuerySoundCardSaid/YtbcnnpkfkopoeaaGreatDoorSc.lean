/- A part of the proof. -/
import Derived.Test.YtbcnnpkfkopoeaaGreatDoorSa
import Derived.WalkKit
import Derived.ProofKit
import Derived.Shelf.Strings.Builder1
import Derived.Deep.RegionHeld3
import Derived.Laws.IdiomRangeMap
set_option maxHeartbeats 4000000
set_option maxRecDepth 100000
namespace Go.VZ
open Go Go.V Go.Proofs Tryz Go.RowKit
def PZ(P:Program):Bool:=P.funcs.all λfn=>!(fn.name == "runtime.NumGoroutine")
theorem Ey:Go.V.Good C.P where
 names:=λf a b=>by have h:PZ prog=true:=k_;have:=fE.1 h a (nf b);simpa using this
 mixed:=k_
theorem uq(t e d:Nat) (w:World) (hu:prog.underlying t=some (.slice e)):(Op.equalIn (d+1) t (.slice none 0 0) (.slice none 0 0)).run prog w=.ok true w:=by simp only[Op.equalIn,Sem.run_bind,bj hu,Result.andThen_ok];rfl
theorem DJ(t e:Nat) (w:World) (hu:prog.underlying t=some (.slice e)):(binOp .eql t (.slice none 0 0) (.slice none 0 0)).run prog w=.ok (.bool true) w:=by have:Op.equal t (.slice none 0 0) (.slice none 0 0)=Op.equalIn (9999+1) t (.slice none 0 0) (.slice none 0 0):=rfl;simp only[binOp,this,Sem.run_bind,Sem.run_pure,Result.andThen_ok,uq t e 9999 w hu]
theorem DI(t e:Nat) (w:World) (a:Addr) (c:Nat) (hu:prog.underlying t=some (.slice e)):(binOp .eql t (.slice (some a) 0 c) (.slice none 0 0)).run prog w=.ok (.bool false) w:=by have:Op.equal t (.slice (some a) 0 c) (.slice none 0 0)=Op.equalIn (9999+1) t (.slice (some a) 0 c) (.slice none 0 0):=rfl;simp only[binOp,this,Sem.run_bind,Sem.run_pure,Result.andThen_ok,kN 9999 a 0 c hu]
def Dq(f:FuncId):Prop:=(∀w,Calls prog f #[.slice none 0 0] w λe w'=>e=.returned (.slice none 0 0)/\Grows w w') /\
 ∀(a:Addr) (c:Nat) (w:World),Calls prog f #[.slice (some a) 0 c] w λe w'=>(∃b,e=.returned (.slice (some b) 0 0))/\Grows w w'
section
@[local go_sem] theorem WI (w:World):(binOp .eql 24 (.slice none 0 0) (.slice none 0 0)).run prog w=.ok (.bool true) w:=DJ _ _ w underlying24
@[local go_sem] theorem WG (w:World) (a:Addr) (c:Nat):(binOp .eql 24 (.slice (some a) 0 c) (.slice none 0 0)).run prog w=.ok (.bool false) w:=DI _ _ w a c underlying24
theorem Ni:Dq 9:=by
 constructor
 ·intro w
  go_enter func9,ntmps9
  go_wp2
  go_ret
  exact⟨rfl,.refl _⟩
 intro a c w
 go_enter func9,ntmps9
 go_wp2
 go_ret
 exact⟨⟨_,rfl⟩,.alloc _ _⟩
end
section
end
section
end
section
end
section
@[local go_sem] theorem WH (w:World):(binOp .eql 29 (.slice none 0 0) (.slice none 0 0)).run prog w=.ok (.bool true) w:=DJ _ _ w underlying29
@[local go_sem] theorem WF (w:World) (a:Addr) (c:Nat):(binOp .eql 29 (.slice (some a) 0 c) (.slice none 0 0)).run prog w=.ok (.bool false) w:=DI _ _ w a c underlying29
theorem Nh:Dq 49:=by
 constructor
 ·intro w
  go_enter func49,ntmps49
  go_wp2
  go_ret
  exact⟨rfl,.refl _⟩
 intro a c w
 go_enter func49,ntmps49
 go_wp2
 go_ret
 exact⟨⟨_,rfl⟩,.alloc _ _⟩
end
section
end
section
@[local go_sem] theorem Um (w:World):(binOp .eql 182 (.slice none 0 0) (.slice none 0 0)).run prog w=.ok (.bool true) w:=DJ _ _ w underlying182
@[local go_sem] theorem Ul (w:World) (a:Addr) (c:Nat):(binOp .eql 182 (.slice (some a) 0 c) (.slice none 0 0)).run prog w=.ok (.bool false) w:=DI _ _ w a c underlying182
theorem K1:Dq 229:=by
 constructor
 ·intro w
  go_enter func229,ntmps229
  go_wp2
  go_ret
  exact⟨rfl,.refl _⟩
 intro a c w
 go_enter func229,ntmps229
 go_wp2
 go_ret
 exact⟨⟨_,rfl⟩,.alloc _ _⟩
end
section
end
section
end
section
end
theorem Th(f:FuncId) (hf:cloneIds.contains f=true):Dq f:=by
 simp only[cloneIds,List.contains_cons,bz,beq_iff_eq,List.contains_nil,aT,or_false]at hf;rcases hf with rfl|rfl|rfl
 ·exact Ni
 ·exact Nh
 exact K1
theorem mz(f:FuncId):sd prog f (lG f):=by
 intro m h r A g B D σ w l j p q;unfold lG at g;split at g<;>try(cases g;done)
 rename_i s;have⟨t,n⟩:=Th f s;split at g<;>try(cases g;done)
 rename_i x;simp only[aA,aE]at g;obtain⟨rfl,rfl⟩:=g;obtain⟨v,rfl⟩:∃v,l = #[v]:=by have:l.size=1:=p;exact⟨l[0],by apply Array.ext<;>simp[this];intro i u;subst u;rfl⟩
 have y:=mu (q 0 _ v rfl rfl);cases y with
 |islNil=>exact(t w).mono λe o ⟨k,d⟩=>⟨_,k,σ,j.grows d,.grows j d,.full .islNil⟩
 |islEmpty a c z=>exact(n a c w).mono λe o ⟨⟨b,k⟩,d⟩=>⟨_,k,σ,j.grows d,.grows j d,.full (.islEmpty b 0 (by simp[maxLen]))⟩
 |isl f E F z G I J K=>exact(n _ _ w).mono λe o ⟨⟨b,k⟩,d⟩=>⟨_,k,σ,j.grows d,.grows j d,.full (.islEmpty b 0 (by simp[maxLen]))⟩
end Go.VZ
namespace Go.VZ
open Go Go.V Go.Proofs Tryz Go.RowKit
def opens:List Nat:=[26,27,46,47,51,54,55,56,86,87,88,94,96,97,149,126,127,133,201,158,161,162,163,165,166,167,168,169,170,171,172,182,183,187,188,189,190,191,192,193,194,195,196,197,199,202,203,209,210,211,213,214,215,216,223,225,227,230,245,246,247,248,249,252]
def owns:List Nat:=[9,10,24,25,36,77,35,43,49,57,69,70,121,73,112,113,114,151,152,104,184,229,261]
def md2:FuncId->Go.V.Mode:=λf=>if opens.contains f then .openH else if owns.contains f then .ownM else .strip
def wr2:FuncId->Tmp->Bool:=λ_ _=>true
noncomputable def C2:Cfg:={P:=prog,mode:=md2,wr:=wr2,prim:=lG,ext:=ext,extOk:=pv,mix:=λf i=>mixL.contains (f,i)}
theorem ok2(m:Nat):Go.V.Ok prog (fM C2 m):=xH (C:=C2) Ey mz m
theorem Pw [DFlag] {P:Program}{B:Nat}{A0:Nat->Nat->Prop}{σ:List (Option Nat)}{h:H}{w:World}(hr:HRel P B A0 σ h w):kF (λ_ _=>True) w:=⟨λg a b=>(hr.glob g a b).mono λ_b _o _x _ c=>⟨trivial,c⟩,λg n b=>(hr.tab g n b).2⟩
end Go.VZ
namespace Go.Proofs
open Go.Shelf
def Tryz.lays169_ren:Go.Shelf.Ren:=⟨fun|169=>163|n=>n,fun|70=>191|9=>9|0=>0|72=>193|37=>22|127=>227|3=>3|5=>5|n=>n,fun|n=>n⟩
theorem Tryz.lays169:Go.Proofs.Lays.n169 Tryz.prog Tryz.lays169_ren:={
 mixed:=k_
 f169:=Tryz.func163.trans (congrArg some k_)
 t0:=Tryz.underlying0
 a0:=Tryz.isAgg0
 z0:=Tryz.sizeOf0
 v0:=Tryz.zeroValue0
 t3:=Tryz.underlying3
 a3:=Tryz.isAgg3
 z3:=Tryz.sizeOf3
 v3:=Tryz.zeroValue3
 t9:=Tryz.underlying9
 a9:=Tryz.isAgg9
 z9:=Tryz.sizeOf9
 v9:=Tryz.zeroValue9
 t37:=Tryz.underlying22
 a37:=Tryz.isAgg22
 z37:=Tryz.sizeOf22
 v37:=Tryz.zeroValue22
 t70:=Tryz.underlying191
 a70:=Tryz.isAgg191
 z70:=Tryz.sizeOf191
 v70:=Tryz.zeroValue191
 t72:=Tryz.underlying193
 a72:=Tryz.isAgg193
 z72:=Tryz.sizeOf193
 v72:=Tryz.zeroValue193
 t127:=Tryz.underlying227
 a127:=Tryz.isAgg227
 z127:=Tryz.sizeOf227
 v127:=Tryz.zeroValue227}
theorem Tryz.Builder_Extra_169:Builder.Extra Tryz.prog Tryz.lays169_ren:={
 sizeBuilder:=k_
 liesBuilder:=k_
 t5:=Tryz.underlying5
 a5:=Tryz.isAgg5
 z5:=Tryz.sizeOf5
 v5:=Tryz.zeroValue5
 infoByte:=k_
 cellsByte:=k_
 sizeByte:=k_
 neB5:=by decide}
open Go.RowKit in
theorem Tryz.Builder_String(B b:Nat) (l:List UInt8) (w:World) (h:Lib.IsBuilder 193 5 B b (Lib.byteCells l) w) (h0:l≠[]) :
  Calls Tryz.prog 163 #[.pointer (some ⟨b,0,none⟩)] w λe w'=>e=.returned (.string ⟨l.toArray⟩)/\Below B w w':=Any.Builder_String Tryz.lays169 Tryz.Builder_Extra_169 B b l w h h0
open Go.RowKit
theorem Tryz.sizeBuilder:(Tryz.prog.info? 193).map (·.size)=some 2:=k_
theorem Tryz.liesBuilder:liesAt Tryz.prog Tryz.prog.depth 193 (2/Tryz.prog.cellsOf 193) 0 193 1=true:=k_
theorem Tryz.infoByte:(Tryz.prog.info? 5).map (λi=>(i.zero,i.size,i.bytes))=some (some (.int .u8 0),1,1):=k_
theorem Tryz.copyCheck_fresh(b:Nat) (w:World) (h0:w.cell? ⟨b,0,none⟩=some (.pointer none)) (hsh:w.shape? b=some (193,2)) (hfz:w.frozen? ⟨b,0,none⟩=false) :
  Calls Tryz.prog 196 #[.pointer (some ⟨b,0,none⟩)] w λe w'=>e=.returned (.tuple #[])/\w'=w.setCell ⟨b,0,none⟩ (.pointer (some ⟨b,0,none⟩)):=by
 have⟨j,c,a⟩:=cS.1 Tryz.sizeBuilder
 go_enter Tryz.func196,Tryz.ntmps196
 go_wp2
 rw[Lib.run_to_unsafe w ⟨b,0,none⟩ Tryz.underlying191 Tryz.underlying237 c (by rw[a];decide) hsh (Nat.zero_lt_succ 1)];simp only[Result.andThen];rw[Oper.upon_value]
 go_wp2
 rw[run_callFunc_extern Tryz.func217 k_ k_ k_ (e:=Extern.AbiNoEscape.same) k_];rw[Lib.run_noEscape];simp only[Result.andThen];rw[Oper.upon_value]
 go_wp2
 rw[Lib.run_from_unsafe w ⟨b,0,none⟩ Tryz.underlying237 Tryz.underlying191 c hsh Tryz.liesBuilder];simp only[Result.andThen];rw[Oper.upon_value]
 go_wp2
 go_end0
 exact⟨rfl,rfl⟩
end Go.Proofs
namespace Go.Proofs
open Go.Shelf Go.RowKit
def Pn:ByteArray:=⟨#[107,58,97,110,121]⟩
def OnlyB(b:Nat) (w w':World):Prop:=∀k,k<w.heap.size->k≠b->w'.heap[k]?=w.heap[k]?
theorem OnlyB.cell{b:Nat}{w w':World}(h:OnlyB b w w'){k o:Nat}{x:Value}(hk:k≠b) (hc:w.cell? ⟨k,o,none⟩=some x):w'.cell? ⟨k,o,none⟩=some x:=by have a:=World.block_lt_of_cell? w _ hc;rw[World.cell?_of_block (w:=w) (h k a hk)];exact hc
theorem Tryz.writeString_fresh(b:Nat) (s:ByteArray) (w:World) (hbk0:w.heap[b]?=some (.cells #[.pointer none,.slice none 0 0] 193 (0,0))) (hlen:s.size<=140737488355328) :
  Calls Tryz.prog 162 #[.pointer (some ⟨b,0,none⟩),.string s] w λe w'=>e=.returned (.tuple #[.int .i64 s.size,.nilIface])/\(Lib.BuilderAt 193 5 b b (.pointer (some ⟨b,0,none⟩)) (Lib.strCells s) w'/\Below b w w'/\OnlyB b w w'):=by
 have⟨F,G,r,t,u⟩:=info_parts Tryz.infoByte;have I:b<w.heap.size:=by
  rcases fj b w.heap.size with v|v
  ·exact v
  simp[eV v]at hbk0
 have h:Lib.BuilderAt 193 5 b b (.pointer none) [] w:=⟨aP _,.slice none 0 0,hbk0,World.ownsRow_nil _ _ _ _,by simp[Value.ownBlock]⟩
 have B:∀args w,(callFunc 196 args).run Tryz.prog w=.ok (.enter 196 args) w:=enters_of Tryz.func196 k_ rfl
 go_enter Tryz.func162,Tryz.ntmps162
 go_wp2_with (go_at_fn 196;refine(Tryz.copyCheck_fresh b _ h.cell0 h.shape h.frozen0).mono ?_)
 rintro e i ⟨rfl,d⟩;have j:i.heap[b]?=some (.cells #[.pointer (some ⟨b,0,none⟩),.slice none 0 0] 193 (0,0)):=by rw[d];simp[World.setCell,kQ,hbk0]
 have m:Below b w i:=by rw[d];exact(Below.refl b w).setCell (p:=⟨b,0,none⟩) (aP _) _
 have x:OnlyB b w i:=λk _ o=>by rw[d];exact Below.heap_setCell _ _ _ _ o
 have n:i.ownsRow b 5 1 (.slice none 0 0) 0 []:=World.ownsRow_nil _ _ _ _;have M:i.cell? ⟨b,0,none⟩=some (.pointer (some ⟨b,0,none⟩)):=by rw[Lib.cell_of_heap j];rfl
 have N:i.cell? ⟨b,1,none⟩=some (.slice none 0 0):=by rw[Lib.cell_of_heap j];rfl
 have J:=m.size;clear d
 go_wp2_with (at_builtin;refine Lib.wpList_append_own_string _ rfl _ _ 22 9 rfl b 5 F Tryz.underlying22 Tryz.underlying9 G r t u _ _ _ rfl n s rfl ?c3 ?c4 ?c5 ?_)
 case c3=>unfold maxLen;omega
 case c4=>omega
 case c5=>omega
 intro K q c a _;have y:b<i.heap.size:=o_;have f:q.heap[b]?=some (.cells #[.pointer (some ⟨b,0,none⟩),.slice none 0 0] 193 (0,0)):=by rw[a.block b y (λe=>by cases e)];exact j
 have O:q.cell? ⟨b,0,none⟩=some (.pointer (some ⟨b,0,none⟩)):=by rw[Lib.cell_of_heap f];rfl
 have Q:q.cell? ⟨b,1,none⟩=some (.slice none 0 0):=by rw[Lib.cell_of_heap f];rfl
 have S:q.frozen? ⟨b,1,none⟩=false:=Lib.frozen_of_heap f 1;obtain⟨D,E,l,rfl⟩:∃D E l,K=.slice D E l:=by
  rcases c.2 with⟨z,_⟩|⟨g,l,L,z,_⟩
  ·exact⟨_,_,_,z⟩
  exact⟨_,_,_,z⟩
 go_wp2
 go_ret2
 refine⟨rfl,?_,?_,?_⟩
 ·exact Lib.BuilderAt.put (T:=193) (e:=5) (aP _) f (bs':=Lib.strCells s) (by simpa[Lib.strCells_length]using c) d_
 ·exact(m.grown a o_ (λk A=>by cases A)).setCell (p:=⟨b,1,none⟩) (aP _) _
 intro k A o;rw[Below.heap_setCell _ _ _ _ o,a.block k o_ (λe=>by cases e)];exact x k A o
theorem Tryz.write_k(b g o cap:Nat) (kv:Value) (w:World) (hbk:w.heap[b]?=some (.cells #[.pointer none,.slice none 0 0] 193 (0,0))) (hg:w.cell? ⟨1,0,none⟩=some (.slice (some ⟨g,o,none⟩) 6 cap))
  (hw:w.cell? ⟨g,o,none⟩=some (.string ⟨#[97,110,121]⟩)) :
  Calls Tryz.prog 195 #[.pointer (some ⟨b,0,none⟩),.agg #[.int .i64 2,.string ⟨#[107]⟩,.int .i64 0,kv]] w λe w'=>e=.returned (.tuple #[])/\(Lib.BuilderAt 193 5 b b (.pointer (some ⟨b,0,none⟩)) (Lib.strCells Pn) w'/\Below b w w'):=by
 have q:∀args w,(callFunc 162 args).run Tryz.prog w=.ok (.enter 162 args) w:=enters_of Tryz.func162 k_ rfl;have h:b<w.heap.size:=by
  rcases fj b w.heap.size with j|j
  ·exact j
  simp[eV j]at hbk
 have y:=World.new_ne w _ hg;have z:=World.new_ne w _ hw
 go_enter Tryz.func195,Tryz.ntmps195
 go_wp2
 have c:((⟨#[107]⟩:ByteArray)++⟨#[58]⟩++⟨#[97,110,121]⟩)=Pn:=d_;have t:(w.alloc (.cells #[.int .i64 2,.string ⟨#[107]⟩,.int .i64 0,kv] 41)).drew.heap[b]?=some (.cells #[.pointer none,.slice none 0 0] 193 (0,0)):=by show(w.alloc _).heap[b]?=_;rw[Below.heap_alloc _ _ _ h];exact hbk
 have l:((⟨#[107]⟩:ByteArray)++⟨#[58]⟩++⟨#[97,110,121]⟩).size<=140737488355328:=by rw[c];decide
 have i:w.heap.size≠b:=o_;have m:1≠b:=by intro e;subst e;rw[Lib.cell_of_heap hbk]at hg;simp at hg
 have n:g≠b:=by
  intro e;subst e;rw[Lib.cell_of_heap hbk]at hw;match o,hw with
  |0,hw=>simp at hw
  |1,hw=>simp at hw
  |o+2,hw=>simp at hw
 have d:(w.alloc (.cells #[.int .i64 2,.string ⟨#[107]⟩,.int .i64 0,kv] 41)).drew.heap[w.heap.size]?=some (.cells #[.int .i64 2,.string ⟨#[107]⟩,.int .i64 0,kv] 41):=by show(w.heap.push _)[w.heap.size]?=_;simp
 have u:(w.alloc (.cells #[.int .i64 2,.string ⟨#[107]⟩,.int .i64 0,kv] 41)).drew.cell? ⟨w.heap.size,1,none⟩=some (.string ⟨#[107]⟩):=by rw[Lib.cell_of_heap d];rfl
 have v:(w.alloc (.cells #[.int .i64 2,.string ⟨#[107]⟩,.int .i64 0,kv] 41)).drew.cell? ⟨w.heap.size,2,none⟩=some (.int .i64 0):=by rw[Lib.cell_of_heap d];rfl
 have f:∀(k o:Nat) (x:Value),w.cell? ⟨k,o,none⟩=some x->(w.alloc (.cells #[.int .i64 2,.string ⟨#[107]⟩,.int .i64 0,kv] 41)).drew.cell? ⟨k,o,none⟩=some x:=λk o x r=>by have p:=World.block_lt_of_cell? w _ r;rw[World.cell?_of_block (w:=w) (by show(w.alloc _).heap[k]?=_;exact Below.heap_alloc _ _ _ p)];exact r
 have a3:=f _ _ _ hg;have a4:=f _ _ _ hw
 go_region_held3 (λw'=>w'.cell? ⟨w.heap.size,1,none⟩=some (.string ⟨#[107]⟩)/\w'.cell? ⟨w.heap.size,2,none⟩=some (.int .i64 0)/\w'.cell? ⟨1,0,none⟩=some (.slice (some ⟨g,o,none⟩) 6 cap)/\w'.cell? ⟨g,o,none⟩=some (.string ⟨#[97,110,121]⟩))
  (first|go_keep|exact⟨a.cell i u,a.cell i v,a.cell m a3,a.cell n a4⟩)
  (first|(go_at_call 162;refine(Tryz.writeString_fresh b _ _ t l).mono ?_;rintro e w' ⟨rfl,s,p,a⟩))
 go_wp2
 refine bodyPost_ret (results_none rfl _ _ _) rfl ?_;rw[c]at s;exact⟨rfl,s,(((Below.refl b w).alloc (nO h) _).drew).trans p⟩
end Go.Proofs
namespace Go.VZ
open Go Go.V Go.Proofs Tryz Go.RowKit
def opens48:List Nat:=[26,27,46,47,51,54,55,86,87,88,94,96,149,126,127,133,201,158,161,162,163,165,166,167,168,169,170,171,172,182,183,187,188,189,190,191,192,193,194,195,196,197,199,202,203,209,210,211,213,214,215,216,223,225,227,230,245,246,247,248,249,252]
def owns48:List Nat:=[9,24,25,36,77,35,43,49,57,69,70,121,73,112,113,114,151,152,104,184,229,261]
def looks48:List Nat:=[56,97]
def mix48:List (Nat × Nat):=[(13,12),(21,3),(25,1),(77,1),(57,1),(87,1),(94,1),(107,3),(112,3),(145,4),(145,9),(145,10),(145,12),(145,14),(145,15),(146,6),(146,17),(156,2),(183,1),(211,1)]
def Va:FuncId->Go.V.Mode:=λf=>if looks48.contains f then .openQ else if opens48.contains f then .openH else if owns48.contains f then .ownM else .strip
def U5:FuncId->Tmp->Bool:=λ_ _=>true
noncomputable def CL:Cfg:={P:=prog,mode:=Va,wr:=U5,prim:=lG,ext:=ext,extOk:=pv,mix:=λf i=>mix48.contains (f,i)}
theorem VR(m:Nat):Go.V.Ok prog (fM CL m):=xH (C:=CL) Ey mz m
def iK(C:Cfg) (m:Nat) (f:FuncId) (args:LA) (v:AV):Bool:=match fM C m f args []with
 |some (r,h)=>match eW (bo h) cM r with
  |some u=>AV.same u v
  |none=>false
 |none=>false
theorem AD{C:Cfg}{m:Nat}{f:FuncId}{args:LA}{v:AV}(h:iK C m f args v=true):∃r h1,fM C m f args []=some (r,h1)/\eW (bo h1) cM r=some v:=by
 unfold iK at h;split at h<;>try(cases h;done)
 rename_i r h1 a;split at h<;>try(cases h;done)
 rename_i u b;exact⟨r,h1,a,by rw[b,AV.same_eq h]⟩
theorem gc{C:Cfg}{m:Nat}{f:FuncId}{args:LA}{v:AV}(h:iK C m f args v=true):az C f args=some v:=by have⟨r,c,a,b⟩:=AD h;unfold az;rw[zU m a];exact b
theorem xA{C:Cfg}{m:Nat}(_hC:C.P=prog) (ok:Go.V.Ok prog (fM C m)){f:FuncId}{args:LA}{v:AV}(h:iK C m f args v=true) (hb:dl prog f=true){w:World}{vs:Array Value}(hg:kF (λ_ _=>True) w)
  (hl:vs.size=args.length) (hr:∀(i:Nat) a u,args[i]?=some a->vs[i]?=some u->IRel (λ_ _=>True) w a u) :
  Calls prog f vs w λe w'=>∃u,e=.returned u/\Grows w w'/\IRel (λ_ _=>True) w' v u:=by
 have⟨r,c,j,k⟩:=AD h;refine(ok.fn f args [] r c hb j w.heap.size (λ_ _=>True) [] w vs (.start hg) hl (λi a v l n=>.data (ny (hr i a v l n)))).mono ?_;rintro e w' ⟨u,rfl,σ',d,g,p⟩;have:=iW (d.stiller (da c)) cM r v u k (p.step (.stiller d (da c)));exact⟨u,rfl,rH g.below g.drawn,this.mono λb o x _ q=>⟨trivial,q⟩⟩
def tK:AV:=.agg [.int .i64 2,.str ⟨#[107]⟩,.int .i64 0,.isl [] .unk]
theorem Oi:iK CL 4000 118 [tK] (.int .i64 0)=true:=k_
theorem vl{w w':World}(g:Grows w w') (h:kF (λ_ _=>True) w):kF (λ_ _=>True) w':=⟨λa b c=>(h.1 a b c).mono λ_ _ _ _ e=>⟨trivial,g.cell e⟩,λa n f=>by have⟨i,j,k,d,l⟩:=h.2 a n f;exact⟨i,j,k,by rw[g.block a (aR.1 d).1];exact d,l⟩⟩
theorem LR{w:World}(h:kF (λ_ _=>True) w):∃g o cap,w.cell? ⟨1,0,none⟩=some (.slice (some ⟨g,o,none⟩) 6 cap)/\w.cell? ⟨g,o,none⟩=some (.string ⟨#[97,110,121]⟩):=by
 have d:=h.1 1 _ (if_pos rfl);cases d with
 |iptr f d j k=>
  have a:=(j 0 _ rfl).2;have e:=k 0 _ rfl;simp only[dm]at a;generalize f 0=u at a e;cases e with
  | @isl es sz b o cap f hz hc hm h0 q1 q2 q3=>refine⟨b,o,cap,by simpa using a,?_⟩;have c:=(q2 0 0 _ _ rfl rfl).2;have i:=q3 0 0 _ _ rfl rfl;simp only[Nat.zero_mul,dm]at c;generalize f 0 0=z at c i;cases i;exact c
theorem M5(kv:Value) (w:World) (hg:kF (λ_ _=>True) w) (hkv:IRel (λ_ _=>True) w (.isl [] .unk) kv) :
  Calls prog 160 #[.agg #[.int .i64 2,.string ⟨#[107]⟩,.int .i64 0,kv]] w λe w'=>e=.returned (.tuple #[.string Pn,.int .i64 0])/\Grows w w':=by
 have B:∀args w,(callFunc 118 args).run prog w=.ok (.enter 118 args) w:=enters_of func118 k_ rfl;have D:∀args w,(callFunc 195 args).run prog w=.ok (.enter 195 args) w:=enters_of func195 k_ rfl;have E:∀args w,(callFunc 163 args).run prog w=.ok (.enter 163 args) w:=enters_of func163 k_ rfl;have p:Grows w (w.alloc (.cells #[.int .i64 2,.string ⟨#[107]⟩,.int .i64 0,kv] 41)):=.alloc _ _;have k:Calls prog 118 #[.agg #[.int .i64 2,.string ⟨#[107]⟩,.int .i64 0,kv]] (w.alloc (.cells #[.int .i64 2,.string ⟨#[107]⟩,.int .i64 0,kv] 41)) λe w'=>e=.returned (.int .i64 0)/\Grows (w.alloc (.cells #[.int .i64 2,.string ⟨#[107]⟩,.int .i64 0,kv] 41)) w':=by
  refine(xA (C:=CL) rfl (VR 4000) Oi k_ (vl p hg) rfl ?_).mono ?_
  ·intro i a u q n;match i with
   |0=>
    simp at q n;subst q;subst n;refine .agg (by simp[AV.one]) rfl λj c v f k=>?_
    match j with
    |0=>simp at f k;subst f;subst k;exact .int _ _
    |1=>simp at f k;subst f;subst k;exact .str _
    |2=>simp at f k;subst f;subst k;exact .int _ _
    |3=>simp at f k;subst f;subst k;exact hkv.mono λ_ _ _ _ f=>⟨trivial,p.cell f⟩
    |j+4=>simp at f
   |i+1=>simp at q
  rintro e w' ⟨u,rfl,r,n⟩;cases n;exact⟨rfl,r⟩
 go_enter func160,ntmps160
 go_wp2_with (go_at_fn 118;refine k.mono ?_)
 rintro e b ⟨rfl,F⟩;have l:=p.trans F;have d:b.heap[w.heap.size]?=some (.cells #[.int .i64 2,.string ⟨#[107]⟩,.int .i64 0,kv] 41):=by rw[F.block _ (by show w.heap.size<(w.heap.push _).size;simp)];show(w.heap.push _)[w.heap.size]?=_;simp
 have O:b.cell? ⟨w.heap.size,0,none⟩=some (.int .i64 2):=by rw[Lib.cell_of_heap d];rfl
 have Q:b.cell? ⟨w.heap.size,1,none⟩=some (.string ⟨#[107]⟩):=by rw[Lib.cell_of_heap d];rfl
 have S:b.cell? ⟨w.heap.size,2,none⟩=some (.int .i64 0):=by rw[Lib.cell_of_heap d];rfl
 have b3:b.cell? ⟨w.heap.size,3,none⟩=some kv:=by rw[Lib.cell_of_heap d];rfl
 have G:w.heap.size<b.heap.size:=(aR.1 d).1;have J:b.heap.size≠w.heap.size:=o_;have I:Grows b (b.alloc (.cells #[.pointer none,.slice none 0 0] 193)):=.alloc _ _;have⟨g,o,s,t,x⟩:=LR (vl (l.trans I) hg);have m:(b.alloc (.cells #[.pointer none,.slice none 0 0] 193)).heap[b.heap.size]?=some (.cells #[.pointer none,.slice none 0 0] 193 (0,0)):=by show(b.heap.push _)[b.heap.size]?=_;simp
 go_wp2_with (go_at_fn 195;refine(write_k b.heap.size g o s kv _ m t x).mono ?_)
 rintro e K ⟨rfl,L,y⟩;have z:Lib.IsBuilder 193 5 b.heap.size b.heap.size (Lib.byteCells [107,58,97,110,121]) K:=.inr L
 go_wp2_with (go_at_fn 163;refine(Builder_String b.heap.size b.heap.size [107,58,97,110,121] _ z s_).mono ?_)
 rintro e U ⟨rfl,A⟩
 go_wp2
 go_ret2
 refine⟨rfl,rH ?_ λh=>h.elim⟩;have M:Below w.heap.size w b:=l.below (aP _);have N:Below w.heap.size b (b.alloc (.cells #[.pointer none,.slice none 0 0] 193)):=I.below o_;exact((M.trans N).trans (y.mono o_)).trans (A.mono o_)
theorem Jj:iK CL 4000 96 [.isl [] .unk,.func 97 []] (.tuple [])=true:=k_
theorem BP(b clock:Nat) (w:World) (hg:kF (λ_ _=>True) w) (hb:w.heap[b]?=some (.map #[] clock)) :
  Calls prog 56 #[.map (some b)] w λe w'=>e=.returned (.slice none 0 0)/\Grows w w':=by
 have j:∀args w,(callFunc 96 args).run prog w=.ok (.enter 96 args) w:=enters_of func96 k_ rfl;have r:=run_range_map (P:=prog) w 100 _ _ b #[] clock underlying100 hb;have s:∀f,(Instr.next (.pointer (some ⟨w.heap.size,0,none⟩)) false f).run prog (w.alloc (.mapIter (some b) clock #[] clock))=.ok (.tuple #[.bool false]) (w.alloc (.mapIter (some b) clock #[] clock)):=λf=>by
  rcases run_next_map (P:=prog) w f b clock clock #[] #[] clock hb (λx l=>by simp at l) (aP _)with⟨_,h⟩|⟨e,m,_⟩
  ·exact h
  exact absurd (mem_left m).1 s_
 have k:Grows w (w.alloc (.mapIter (some b) clock #[] clock)):=.alloc _ _;have n:Calls prog 96 #[.slice none 0 0,.func (.func 97) #[] #[]] (w.alloc (.mapIter (some b) clock #[] clock)) λe w'=>e=.returned (.tuple #[])/\Grows (w.alloc (.mapIter (some b) clock #[] clock)) w':=by
  refine(xA (C:=CL) rfl (VR 4000) Jj k_ (vl k hg) rfl ?_).mono ?_
  ·intro i a u c d;match i with
   |0=>simp at c d;subst c;subst d;exact .islNil
   |1=>simp at c d;subst c;subst d;exact .func rfl λi a v c=>by simp at c
   |i+2=>simp at c
  rintro e w' ⟨u,rfl,g,d⟩;cases d with
  |tuple o h=>rename_i p;have:p = #[]:=jg (by simpa using o);subst this;exact⟨rfl,g⟩
 go_enter func56,ntmps56
 go_wp2
 refine wp_loop_once ?_
 go_wp2_with (go_at_fn 96;refine n.mono ?_)
 rintro e t ⟨rfl,q⟩
 go_wp2
 go_ret
 exact⟨rfl,k.trans q⟩
def MB(f:FuncId) (args:LA) (h:H):Option (AV × H):=
 if f=160 then(match args with
  |[a]=>if AV.same a tK then some (.tuple [.str Pn,.int .i64 0],h)else none
  |_=>none)
 else if f=56 then(match args with
  |[.mp i]=>match h[i]? with
   |some (.map [])=>some (.isl [] .full,h)
   |_=>none
  |_=>none)
 else lG f args h
noncomputable def CK:Cfg:={P:=prog,mode:=Va,wr:=U5,prim:=MB,ext:=ext,extOk:=pv,mix:=λf i=>mix48.contains (f,i)}
theorem gT{B:Nat}{A0:Nat->Nat->Prop}{σ:List (Option Nat)}{h:H}{w:World}(hr:HRel prog B A0 σ h w):kF (λ_ _=>True) w:=⟨λg a b=>(hr.gr.1 g a b).mono λ_ _ _ _ c=>⟨trivial,c⟩,hr.gr.2⟩
theorem IN{vs:Array Value}(hl:vs.size=1):∃v,vs = #[v]:=⟨vs[0],by apply Array.ext<;>simp[hl];intro i a;subst a;rfl⟩
theorem Lc{A:Nat->Nat->Prop}{w:World}{v:Value}(r:IRel A w tK v):∃kv,v=.agg #[.int .i64 2,.string ⟨#[107]⟩,.int .i64 0,kv]/\IRel A w (.isl [] .unk) kv:=by
 cases r with
 |agg m e h=>
  rename_i f;have⟨l⟩:=f;match l,e with
  |[a,b,c,d],_=>have g:=h 0 _ a rfl rfl;have i:=h 1 _ b rfl rfl;have j:=h 2 _ c rfl rfl;have k:=h 3 _ d rfl rfl;cases g;cases i;cases j;exact⟨d,rfl,k⟩
theorem MA(f:FuncId):sd CK.P f (CK.prim f):=by
 intro k h r x D B y σ w E z o p;have c:MB f k h=some (r,x):=D;have d:HRel prog B y σ h w:=z;unfold MB at c;split at c
 ·rename_i q;subst q;split at c<;>try(cases c;done)
  rename_i a;split at c<;>try(cases c;done)
  rename_i m;have m:=AV.same_eq m;subst m;simp only[aA,aE]at c;obtain⟨rfl,rfl⟩:=c;obtain⟨v,rfl⟩:=IN o;have F:=iW d cM tK tK v k_ (p 0 _ v rfl rfl);obtain⟨G,rfl,s⟩:=Lc F;refine(M5 G w (gT d) (s.mono λ_ _ _ _ I=>⟨trivial,I⟩)).mono λe J ⟨t,n⟩=>⟨_,t,σ,d.grows n,.grows d n,.data (.tuple rfl λi a v g j=>?_)⟩
  match i with
  |0=>simp at g j;subst g;subst j;exact .str _
  |1=>simp at g j;subst g;subst j;exact .int _ _
  |i+2=>simp at g
 split at c
 ·rename_i q;subst q;split at c<;>try(cases c;done)
  rename_i i;split at c<;>try(cases c;done)
  rename_i K;simp only[aA,aE]at c;obtain⟨rfl,rfl⟩:=c;obtain⟨v,rfl⟩:=IN o;obtain⟨b,rfl,m⟩:=GT (p 0 _ v rfl rfl);have⟨L,u,l,A,S,M,N,_⟩:=d.map i _ K;have O:b=L:=by rw[m]at A;simpa using A
  subst O;have Q:u = #[]:=jg (by simpa using N);subst Q;exact(BP b l w (gT d) M).mono λe J ⟨t,n⟩=>⟨_,t,σ,d.grows n,.grows d n,.full .islNil⟩
 exact mz f k h r x c B y σ w E z o p
end Go.VZ
