/- A part of the proof. -/
import Derived.Test.YtclakfnjdnibeaaGreatDoorSa
set_option maxRecDepth 100000
namespace Go.VZ
open Go Go.V Go.Proofs Tryz Go.RowKit
def opens:List Nat:=[28,33,47,64,83,120,121,122,123,124,125,126,127,145,147,149,152,158,181,183,184,185,194,195,199,200,201,202,203,208,211,215,223,242,247,248,250,251,254,255,261,262,268,269,270,271,272,273,274,275,299,301,310,313,314,315,325,326,327,328,329,330,331,332,337,348,353,354,355,357,363,364,365,371,387,388,390,396,403,412,413,414,422,427,429,441,442,443,444,447,451,457,458,465,468,475,476,477,494,495,496,497,498]
def owns:List Nat:=[11,15,17,31,32,41,42,43,45,46,63,78,79,82,90,91,96,102,103,135,137,148,150,153,188,190,205,209,210,213,264,292,296,303,308,311,349,370,392,401,408,418,440,448,473,474,509]
def md2:FuncId->Go.V.Mode:=λf=>if opens.contains f then .openH else if owns.contains f then .ownM else .strip
def wr2:FuncId->Tmp->Bool:=λ_ _=>true
def mixL2:List (Nat × Nat):=[(6,2),(16,5),(254,1),(38,3),(296,3),(322,4),(322,9),(322,10),(322,12),(322,14),(322,15),(323,6),(323,17),(310,1),(355,1),(91,1),(200,2),(412,2),(412,5),(464,19),(464,32),(14,8),(39,2),(308,4)]
noncomputable def C2:Cfg:={P:=prog,mode:=md2,wr:=wr2,prim:=rM,ext:=ext,extOk:=qT,mix:=λf i=>mixL2.contains (f,i)}
theorem ok2(m:Nat):Go.V.Ok prog (fA C2 m):=Au (C:=C2) good yk m
def I1(x:Option (AV × H)):Bool:=match x with
 |some (.bool b,_)=>b
 |_=>false
theorem HC{x:Option (AV × H)}(h:I1 x=true):∃h',x=some (.bool true,h'):=by
 unfold I1 at h;split at h
 ·rename_i b h';subst h;exact⟨h',rfl⟩
 cases h
theorem Q8 [DFlag] {P:Program}{B:Nat}{A0:Nat->Nat->Prop}{σ:List (Option Nat)}{h:H}{w:World}(hr:HRel P B A0 σ h w):lS (λ_ _=>True) w:=⟨λg a b=>(hr.glob g a b).mono λ_b _o _x _ c=>⟨trivial,c⟩,λg n b=>(hr.tab g n b).2⟩
theorem Je{f:FuncId}{m:Nat}(hy:I1 (fA C2 m f [] [])=true) (hb:eE prog f=true){w:World}(hg:lS (λ_ _=>True) w):Calls prog f #[] w λe w'=>e=.returned (.bool true)/\Grows w w':=by have⟨c,d⟩:=HC hy;refine((ok2 m).fn f [] [] _ c hb d w.heap.size (λ_ _=>True) [] w #[] (.start hg) rfl (λi a v g=>by simp at g)).mono ?_;rintro e w' ⟨v,rfl,σ',j,b,h⟩;exact⟨by rw[pA h],tC b.below b.drawn⟩
theorem Vk:I1 (fA C2 4000 6 [] [])=true:=k_
theorem Dx{w:World}(hg:lS (λ_ _=>True) w):Calls prog 6 #[] w λe w'=>e=.returned (.bool true)/\Grows w w':=Je Vk k_ hg
end Go.VZ
