/- It is proved that ExhaustCovered returns true for all moments, bindings and numbers, and leaves what it was given as it was. -/
import Derived.Test.YtdoegkegjaadeaaGreatDoorCards
import Derived.Test.YtdoegkegjaadeaaGreatDoorTie
import Derived.Test.YtdoegkegjaadeaaGreatDoorESg
import Derived.Test.YtdoegkegjaadeaaGreatDoorESh
import Derived.Test.YtdoegkegjaadeaaGreatDoorESi
import Derived.Test.YtdoegkegjaadeaaGreatDoorESdb
import Derived.Test.YtdoegkegjaadeaaGreatDoorESf
import Derived.WalkKit
import Derived.ProofKit
import Derived.OpenShut
import Derived.ChangeOld
import Derived.Below
import Derived.Lay
import Derived.Deep.DeepHandedRow
namespace Go.VZ
open Go Go.V Go.Proofs Go.RowKit
theorem calls_of {f : FuncId} {args : List AV} {vs : Array Value} {w : World} (hb : hasBody C.P f = true) (hl : vs.size = args.length)
    (hr : ∀ (i : Nat) a v, args[i]? = some a → vs[i]? = some v → IRel (fun _ _ => True) w a v) (hc : CallP C f args = some (.bool true)) :
    Calls Tryz.prog f vs w (fun e w' => e = .returned (.bool true) ∧ Below w.heap.size w w') := by
  unfold CallP at hc
  split at hc <;> first | (cases hc; done) | skip
  rename_i r h1 hx
  refine (ok.fn f args [] r h1 hb hx w.heap.size (fun _ _ => True) [] w vs (.start _) hl (fun i a v ha hv => .data (irel_start (hr i a v ha hv)))).mono ?_
  rintro e w' ⟨v, rfl, σ', k1, k2, k3⟩
  have hs := snap_sound (k1.stiller (freezeAll_stiller h1)) deep r (.bool true) v hc (k3.step (.stiller k1 (freezeAll_stiller h1)))
  cases hs
  exact ⟨rfl, k2.below⟩
end Go.VZ
namespace Go.Proofs.YtdoegkegjaadeaaGreatDoor.exhaustCovered
open Go.ChangeShapes Go.WideShapes Go.ChangeAt Go.RowKit
theorem and_tt {a b : Bool} (h : a = true) (k : b = true) : (a && b) = true := by rw [h, k]; rfl
set_option maxRecDepth 100000 in
theorem closed : joinedFacts Tryz.prog 6 Tryz.f6 (OpenSpec.ofChange Rows.exhaustCoveredSpec).bare Rows.exhaustCoveredRow = true := (and_tt (and_tt (and_tt (and_tt (and_tt (and_tt (and_tt (and_tt (and_tt (and_tt (and_tt (and_tt (and_tt (and_tt (and_tt (and_tt (and_tt (and_tt (and_tt (and_tt (and_tt (and_tt (and_tt (and_tt (and_tt (and_tt (and_tt (and_tt (and_tt (and_tt (and_tt jf0 jf1) jf2) jf3) jf4) jf5) jf6) jf7) jf8) jf9) jf10) jf11) jf12) jf13) jf14) jf15) jf16) jf17) jf18) jf19) jf20) jf21) jf22) jf23) jf24) jf25) jf26) jf27) jf28) jf29) jf30) jf31)
set_option maxRecDepth 100000 in
theorem contract (H : Type) (enc : TypeId × Value → H) (W : World) (base : Nat) (args : Array Value) (ds gs : List (DataW H)) (before : List MemPlace)
    (hval : ∀ (j : Nat) t v, Tryz.f6.params[j]? = some t → args[j]? = some v → Value.okWide Tryz.prog W .any base t v)
    (hW : DataW.Whole enc Tryz.prog Tryz.f6.params.toList Rows.exhaustCoveredSpec.vars false W args.toList ds gs before) (hwt : (DataW.weightsEach Tryz.prog (Tryz.f6.params.toList ++ (OpenSpec.ofChange Rows.exhaustCoveredSpec).bare.plain.varTypes Tryz.prog) (ds ++ gs)).all (· ≤ reachBytes) = true) :
    Calls Tryz.prog 6 args W fun e W' => ∃ v, e = .returned v ∧ Rows.exhaustCoveredSpec.post enc Tryz.prog Tryz.f6 false true false false W args v W' := by
  have hW' := hW
  obtain ⟨p, q, hA0, hV, rfl, hfz, hnd⟩ := hW
  have hA : DataW.TrodAll enc Tryz.prog W 0 (fun _ => true) true Tryz.f6.params.toList args.toList ds p := hA0
  rw [Tryz.params6] at hA hval hwt
  obtain ⟨v0, v1, v2, d0, d1, d2, p0, p1, p2, rfl, rfl, rfl, h0, h1, h2⟩ := trodAll_three hA
  obtain ⟨rfl, rfl⟩ := trodVars_none hV
  obtain ⟨a0, len0, cap0, rfl⟩ := okWide_slice Tryz.underlying50 (hval 0 50 v0 rfl rfl)
  obtain ⟨a1, len1, cap1, rfl⟩ := okWide_slice Tryz.underlying46 (hval 1 46 v1 rfl rfl)
  obtain ⟨a2, len2, cap2, rfl⟩ := okWide_slice Tryz.underlying47 (hval 2 47 v2 rfl rfl)
  have k0 := h0
  have k1 := h1
  have k2 := h2
  have lt0 : ∀ x ∈ p0, x.block < W.heap.size := by obtain ⟨m, hm⟩ := k0; exact DataW.trod_lt m _ _ _ hm
  have lt1 : ∀ x ∈ p1, x.block < W.heap.size := by obtain ⟨m, hm⟩ := k1; exact DataW.trod_lt m _ _ _ hm
  have lt2 : ∀ x ∈ p2, x.block < W.heap.size := by obtain ⟨m, hm⟩ := k2; exact DataW.trod_lt m _ _ _ hm
  obtain ⟨n0, f0⟩ := h0
  obtain ⟨n1, f1⟩ := h1
  obtain ⟨n2, f2⟩ := h2
  obtain ⟨l, r0, _⟩ := Go.VZ.dec_moments f0
  obtain ⟨s, r1, b1⟩ := Go.VZ.dec_binds f1
  obtain ⟨cl, r2⟩ := Go.VZ.dec_ints f2
  have hN : ∀ n ∈ d1.weights Tryz.prog 46, n ≤ reachBytes := fun n hn => of_decide_eq_true (List.all_eq_true.1 hwt n (Go.VZ.wt_each (i := 1) rfl rfl hn))
  have hsl : s.length * 112 ≤ 140737488355328 := by
    have h := (Go.VZ.wt_slice Tryz.underlying46 hN).1
    rw [show Tryz.prog.bytesOf 86 = 112 by kernel_rfl] at h
    have hr : reachBytes = 140737488351232 := rfl
    have b1 : s.length = (Go.VZ.elemsD d1).length := b1
    omega
  refine (Go.VZ.calls_of (args := [Go.VZ.moments l, Go.VZ.binds s, Go.VZ.ints cl]) (by kernel_rfl) rfl ?_ (Go.VZ.law6 l s cl hsl)).mono fun e W' ⟨he, bel⟩ => ?_
  · intro i a v ha hv
    match i with
    | 0 => simp at ha hv; subst ha; subst hv; exact r0
    | 1 => simp at ha hv; subst ha; subst hv; exact r1
    | 2 => simp at ha hv; subst ha; subst hv; exact r2
    | i + 3 => simp at ha
  · subst he
    exact ⟨_, rfl, _, _, _, [], _, [], hW', trodAll_mk1 (shut_bool Tryz.underlying4 _), trodAll_cons_mk (Below.trod jf1 (by kernel_rfl) (of_decide_eq_true (by kernel_rfl)) k0 bel lt0)
      (trodAll_cons_mk (Below.trod jf1 (by kernel_rfl) (of_decide_eq_true (by kernel_rfl)) k1 bel lt1) (trodAll_cons_mk (Below.trod jf1 (by kernel_rfl) (of_decide_eq_true (by kernel_rfl)) k2 bel lt2) trodAll_mk0)), rfl, bel.frame _, fun h => by cases h⟩
noncomputable def laidWorld (os : Os) : World := World.laidAll Tryz.prog os Rows.exhaustCoveredRow.laid
abbrev wargs : Array Value := #[.slice none 0 0, .slice none 0 0, .slice none 0 0]
theorem laid_met (os : Os) : laidMet Tryz.prog Rows.exhaustCoveredRow.laid ((laidWorld os).forCall (fun _ _ => 0) ⟨#[], wargs, []⟩).memory := laidMet_laidAll wargs (by kernel_rfl) (by kernel_rfl)
theorem reads (os : Os) {H : Type} (enc : TypeId × Value → H) : ∃ places, DataW.whole enc Tryz.prog ((laidWorld os).forCall (fun _ _ => 0) ⟨#[], wargs, []⟩).memory Tryz.f6.params.toList Rows.exhaustCoveredSpec.vars false wargs.toList 8 = some ([.nil, .nil, .nil], [], places) :=
  ⟨[], by kernel_rfl⟩
set_option maxRecDepth 100000 in
theorem lifted (os : Os) (started : os.Started) (H : Type) (enc : TypeId × Value → H) (F : Stop.Interp) :
    ReturnsInHanded {} Tryz.checked os 6 .any ((OpenSpec.ofChange Rows.exhaustCoveredSpec).preRow enc Tryz.prog Tryz.f6 Rows.exhaustCoveredRow.domain false Rows.exhaustCoveredRow.laid) (((OpenSpec.ofChange Rows.exhaustCoveredSpec).at F).post enc Tryz.prog Tryz.f6 false true false false) := by
  obtain ⟨places, hx⟩ := reads os enc
  refine returnsInHanded_of_row (C := Tryz.checked) (s := OpenSpec.ofChange Rows.exhaustCoveredSpec) jown started jnoinit Tryz.func6
    (witness_row_at (enc := enc) (C := Tryz.checked) false (laidWorld os) wargs (World.laidAll_os _ _ _) (by kernel_rfl) (by kernel_rfl) (by kernel_rfl)
      (OpenSpec.preRow_of_cond 8 hx (by kernel_rfl) (fun k hk => by cases hk) (by kernel_rfl) (laid_met os))) ?_
  intro W base args ds gs before hval hW _ _ hwt _ _ _
  exact contract H enc W base args ds gs before hval hW hwt
theorem said : Rows.ExhaustCoveredSaid :=
  OpenClaim.holds_of_cond 6 Tryz.f6 rfl rfl rfl rfl rfl rfl rfl ⟨rfl, rfl, rfl, rfl, rfl⟩ rfl rfl rfl rfl rfl jfn Tryz.func6 closed jinst jwrap
    (fun os started H enc _ F => by rw [OpenClaim.pre_eq_preRow]; exact lifted os started H enc F)
theorem plain (f : FuncId) (fn : Func) (hf : Tryz.pinned.checked.prog.funcNamed "sealring/sealringlaw40.ExhaustCovered" = some f) (hfn : Tryz.pinned.checked.prog.funcs[f]? = some fn) :
    false = Tryz.pinned.checked.prog.looks [] ∧ ∀ (j : Nat) t, fn.params[j]? = some t → Tryz.pinned.checked.prog.wantsStandIn t = false := by
  obtain rfl : f = 6 := Option.some.inj ((show Tryz.prog.funcNamed "sealring/sealringlaw40.ExhaustCovered" = some 6 from jfn).symm.trans hf) |>.symm
  obtain rfl : fn = Tryz.f6 := (Option.some.inj (Tryz.func6.symm.trans hfn)).symm
  refine ⟨jlooks, fun j t ht => ?_⟩
  rw [Tryz.params6] at ht
  have : t = 50 ∨ t = 46 ∨ t = 47 := by simpa using Array.mem_of_getElem? ht
  rcases this with rfl | rfl | rfl
  · exact (show Tryz.prog.wantsStandIn 50 = false by kernel_rfl)
  · exact (show Tryz.prog.wantsStandIn 46 = false by kernel_rfl)
  · exact (show Tryz.prog.wantsStandIn 47 = false by kernel_rfl)
theorem card : Rows.ExhaustCoveredCardSaid :=
  Claim7.holds_tied_plain_at .later [] _ _ _ _ said (fun _ h => by cases h) jtext (fun _ h => by cases h) exhaustCovered_row_tie rfl ⟨rfl, rfl⟩ jmain rfl plain jgoes
#print axioms card
end Go.Proofs.YtdoegkegjaadeaaGreatDoor.exhaustCovered
