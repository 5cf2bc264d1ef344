/- Calls whose outcome keeps memory; calls that read a row of one's own. -/
import Derived.Test.YtdoegkegjaadeaaGreatDoorV20
namespace Go.V
open Go
theorem Call_W {C:Cfg}{f:FuncId}{args:List AV}{fn:Func}{c:Code}{h h1:H}{v:AV}(hp:C.prim f args h=none) (hf:C.P.funcs[f]?=some fn) (hb:fn.body=some c) (hok:codeOk C f fn.ntmps false c=true) (hn:args.length≤fn.ntmps)
  (hw:∀R:Ex→PT→H→Prop,(∀e s h,(e=.normal∨e=.ret)→(∃r,resultV C.P s h fn.results.toList=some r∧(r,h)=(v,h1))→R e s h)→W C f R c [] (initS 0 args .leaf) h):Call C f args h=some (v,h1):=by
 obtain ⟨e,s',h',hx,he,r,h1,h2⟩:=hw (fun e s h=>(e=.normal∨e=.ret)∧∃r,resultV C.P s h fn.results.toList=some r∧(r,h)=(v,h1)) fun _ _ _ he hr=>⟨he,hr⟩
 rw[Call_eq hp hf hb hok hn,hx]
 rcases he with rfl | rfl<;>simp only[h1,h2]
theorem buildSlice_dats {P:Program}{h:H}{t e:TypeId}{len sz:Nat}{parts:List (Nat × AV)}{es:List AV}(hu:P.underlying t=some (.slice e)) (hs:sizeV P e=some sz) (hz:zeroOk P e=true) (h0:(sz==0)=false)
  (hl:len*sz≤16777216) (hi:(parts.map (·.1)==List.range len)=true) (hd:dats (parts.map (·.2))=some es) (hsh:(parts.map (·.2)).all short=true) (hpl:parts.length<90000) (he:elemOkV sz es=true) :
  buildSliceV P h t len parts=some (.isl es .full,h):=by
 obtain ⟨e1,e2⟩:=dats_snap (h:=h) hd hsh deep (by simp only[List.length_map];unfold deep;omega)
 have hcond:(!zeroOk P e||sz==0 || !decide (len*sz≤16777216) || !(parts.map (·.1)==List.range len))=false:=by
  rw[hz,h0,hi];simp[hl]
 unfold buildSliceV
 rw[hu]
 simp only[hs]
 simp only[hcond,Bool.false_eq_true,if_false,e2,freeze,e1,he,if_true]
end Go.V
