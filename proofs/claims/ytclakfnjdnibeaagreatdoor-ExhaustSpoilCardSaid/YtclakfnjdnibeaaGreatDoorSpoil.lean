/- It is proved that ExhaustSpoil returns true for all systems of demands, trees and numbers, and leaves what it was given as it was; no condition. -/
import Derived.Test.YtclakfnjdnibeaaGreatDoorTie
import Derived.Test.YtclakfnjdnibeaaGreatDoorSk
import Derived.Test.YtclakfnjdnibeaaGreatDoorSxjdp
import Derived.Test.YtclakfnjdnibeaaGreatDoorSxjep
import Derived.ChangeOld
import Derived.Lay
import Derived.Deep.DeepHandedRow
import Derived.Deep.DeepWitnessRowRef
namespace Go.Proofs.YtclakfnjdnibeaaGreatDoor.exhaustSpoil
open Go.ChangeShapes Go.WideShapes Go.ChangeAt Go.RowKit
theorem and_tt {a b:Bool}(h:a=true) (k:b=true):(a&&b)=true:=by rw[h,k];rfl
set_option maxRecDepth 100000 in
theorem closed:joinedFacts Tryz.prog 5 Tryz.f5 (OpenSpec.ofChange Rows.exhaustSpoilSpec).bare Rows.exhaustSpoilRow=true:=(and_tt (and_tt (and_tt (and_tt (and_tt (and_tt (and_tt (and_tt (and_tt (and_tt (and_tt (and_tt (and_tt (and_tt (and_tt (and_tt (and_tt (and_tt (and_tt (and_tt (and_tt (and_tt (and_tt (and_tt (and_tt (and_tt (and_tt (and_tt (and_tt (and_tt (and_tt jf0 jf1) jf2) jf3) jf4) jf5) jf6) jf7) jf8) jf9) jf10) jf11) jf12) jf13) jf14) jf15) jf16) jf17) jf18) jf19) jf20) jf21) jf22) jf23) jf24) jf25) jf26) jf27) jf28) jf29) jf30) jf31)
set_option maxRecDepth 100000 in
theorem contract (H:Type) (enc:TypeId × Value→H) (W:World) (base:Nat) (args:Array Value) (ds gs:List (DataW H)) (before:List MemPlace)
  (hval:∀(j:Nat) t v,Tryz.f5.params[j]?=some t→args[j]?=some v→Value.okWide Tryz.prog W .any base t v)
  (hW:DataW.Whole enc Tryz.prog Tryz.f5.params.toList Rows.exhaustSpoilSpec.vars false W args.toList ds gs before) (hgl:Go.V.lS (fun _ _=>True) W) :
  Calls Tryz.prog 5 args W fun e W'=>∃v,e=.returned v∧Rows.exhaustSpoilSpec.post enc Tryz.prog Tryz.f5 false true false false W args v W':=by
 have hW':=hW
 obtain ⟨p,q,hA0,hV,rfl,hfz,hnd⟩:=hW
 have hA:DataW.TrodAll enc Tryz.prog W 0 (fun _=>true) true Tryz.f5.params.toList args.toList ds p:=hA0
 rw[Tryz.params5] at hA hval
 obtain ⟨v0,v1,v2,d0,d1,d2,p0,p1,p2,rfl,rfl,rfl,h0,h1,h2⟩:=trodAll_three hA
 obtain ⟨rfl,rfl⟩:=trodVars_none hV
 obtain ⟨a0,len0,cap0,rfl⟩:=okWide_slice Tryz.underlying22 (hval 0 22 v0 rfl rfl)
 obtain ⟨cs1,rfl,hs1⟩:=Go.VZ.Gu Tryz.underlying31 (hval 1 31 v1 rfl rfl)
 have k0:=h0
 have k1:=h1
 have k2:=h2
 have lt0:∀x∈p0,x.block<W.heap.size:=by obtain ⟨m,hm⟩:=k0;exact DataW.trod_lt m _ _ _ hm
 have lt1:∀x∈p1,x.block<W.heap.size:=by obtain ⟨m,hm⟩:=k1;exact DataW.trod_lt m _ _ _ hm
 have lt2:∀x∈p2,x.block<W.heap.size:=by obtain ⟨m,hm⟩:=k2;exact DataW.trod_lt m _ _ _ hm
 obtain ⟨n0,f0⟩:=h0
 obtain ⟨n1,f1⟩:=h1
 obtain ⟨l,r0⟩:=Go.VZ.FC f0
 have hs1':cs1.toList.length=1:=by simpa using hs1.trans (by kernel_rfl)
 obtain ⟨t,r1⟩:=Go.VZ.OQ hs1' f1
 obtain ⟨i,rfl⟩:=okWide_int Tryz.underlying3 (hval 2 3 v2 rfl rfl)
 refine (Go.VZ.Oo (args:=[Go.VZ.bB l,.agg [Go.VZ.bi t],.int .i64 i]) (by kernel_rfl) rfl ?_ hgl (Go.VZ.aAz l t i)).mono fun e W' ⟨he,bel⟩=>?_
 ·intro i a v ha hv
  match i with
  | 0=>simp at ha hv;subst ha;subst hv;exact r0
  | 1=>simp at ha hv;subst ha;subst hv;exact r1
  | 2=>simp at ha hv;subst ha;subst hv;exact .int _ _
  | i+3=>simp at ha
 ·subst he
  exact ⟨_,rfl,_,_,_,[],_,[],hW',trodAll_mk1 (shut_bool Tryz.underlying4 _),trodAll_cons_mk (Below.trod jf1 (by kernel_rfl) (of_decide_eq_true (by kernel_rfl)) k0 bel lt0)
   (trodAll_cons_mk (Below.trod jf1 (by kernel_rfl) (of_decide_eq_true (by kernel_rfl)) k1 bel lt1) (trodAll_cons_mk (Below.trod jf1 (by kernel_rfl) (of_decide_eq_true (by kernel_rfl)) k2 bel lt2) trodAll_mk0)),rfl,bel.frame _,fun h=>by cases h⟩
noncomputable def laidWorld (os:Os):World:=World.laidAll Tryz.prog os Rows.exhaustSpoilRow.laid
abbrev wargs:Array Value:=#[.slice none 0 0,.agg #[.slice none 0 0],.int .i64 0]
theorem laid_met (os:Os):laidMet Tryz.prog Rows.exhaustSpoilRow.laid ((laidWorld os).forCall (fun _ _=>0) ⟨#[],wargs,[]⟩).memory:=laidMet_laidAll wargs (by kernel_rfl) (by kernel_rfl)
theorem reads (os:Os){H:Type}(enc:TypeId × Value→H):∃places,DataW.whole enc Tryz.prog ((laidWorld os).forCall (fun _ _=>0) ⟨#[],wargs,[]⟩).memory Tryz.f5.params.toList Rows.exhaustSpoilSpec.vars false wargs.toList 8=some ([.nil,.agg [.nil],.lit (.int .i64 0)],[],places):=
 ⟨[],by kernel_rfl⟩
set_option maxRecDepth 100000 in
theorem lifted (os:Os) (started:os.Started) (H:Type) (enc:TypeId × Value→H) (F:Stop.Interp) :
  ReturnsInHanded {} Tryz.checked os 5 .any ((OpenSpec.ofChange Rows.exhaustSpoilSpec).preRow enc Tryz.prog Tryz.f5 Rows.exhaustSpoilRow.domain false Rows.exhaustSpoilRow.laid) (((OpenSpec.ofChange Rows.exhaustSpoilSpec).at F).post enc Tryz.prog Tryz.f5 false true false false):=by
 obtain ⟨places,hx⟩:=reads os enc
 refine returnsInHanded_of_row (C:=Tryz.checked) (s:=OpenSpec.ofChange Rows.exhaustSpoilSpec) jown started jnoinit Tryz.func5
  (witness_row_atRef (enc:=enc) (C:=Tryz.checked) false (laidWorld os) wargs (World.laidAll_os _ _ _) (by kernel_rfl) (by kernel_rfl) (by kernel_rfl)
   (OpenSpec.preRow_of_cond 8 hx (by kernel_rfl) (fun k hk=>by cases hk) (by kernel_rfl) (laid_met os))) ?_
 intro W base args ds gs before hval hW _ hcond _ hL _ _
 exact contract H enc W base args ds gs before hval hW (Go.VZ.Ku hL)
theorem said:Rows.ExhaustSpoilSaid:=
 OpenClaim.holds_of_cond 5 Tryz.f5 rfl rfl rfl rfl rfl rfl rfl ⟨rfl,rfl,rfl,rfl,rfl⟩ rfl rfl rfl rfl rfl jfn Tryz.func5 closed jinst jwrap
  (fun os started H enc _ F=>by rw[OpenClaim.pre_eq_preRow];exact lifted os started H enc F)
theorem plain (f:FuncId) (fn:Func) (hf:Tryz.pinned.checked.prog.funcNamed "sealring/sealringlaw40.ExhaustSpoil" = some f) (hfn:Tryz.pinned.checked.prog.funcs[f]?=some fn) :
  false=Tryz.pinned.checked.prog.looks []∧∀(j:Nat) t,fn.params[j]?=some t→Tryz.pinned.checked.prog.wantsStandIn t=false:=by
 obtain rfl:f=5:=Option.some.inj ((show Tryz.prog.funcNamed "sealring/sealringlaw40.ExhaustSpoil" = some 5 from jfn).symm.trans hf) |>.symm
 obtain rfl:fn=Tryz.f5:=(Option.some.inj (Tryz.func5.symm.trans hfn)).symm
 refine ⟨jlooks,fun j t ht=>?_⟩
 rw[Tryz.params5] at ht
 have:t=22∨t=31∨t=3:=by simpa using Array.mem_of_getElem? ht
 rcases this with rfl | rfl | rfl
 ·exact (show Tryz.prog.wantsStandIn 22=false by kernel_rfl)
 ·exact (show Tryz.prog.wantsStandIn 31=false by kernel_rfl)
 ·exact (show Tryz.prog.wantsStandIn 3=false by kernel_rfl)
theorem card:Rows.ExhaustSpoilCardSaid:=
 Claim7.holds_tied_plain_at .later [] _ _ _ _ said (fun _ h=>by cases h) jtext (fun _ h=>by cases h) exhaustSpoil_row_tie rfl ⟨rfl,rfl⟩ jmain rfl plain jgoes
#print axioms card
end Go.Proofs.YtclakfnjdnibeaaGreatDoor.exhaustSpoil
