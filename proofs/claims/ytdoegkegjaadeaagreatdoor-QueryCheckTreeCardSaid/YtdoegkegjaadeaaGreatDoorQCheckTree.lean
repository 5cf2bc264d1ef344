/- It is proved that QueryCheckTree returns true for all clauses and trees of inferences, and leaves what it was given as it was. -/
import Derived.Test.YtdoegkegjaadeaaGreatDoorCards
import Derived.Test.YtdoegkegjaadeaaGreatDoorTie
import Derived.Test.YtdoegkegjaadeaaGreatDoorQSi
import Derived.Test.YtdoegkegjaadeaaGreatDoorQSxjdt
import Derived.Test.YtdoegkegjaadeaaGreatDoorQSxjet
import Derived.Test.YtdoegkegjaadeaaGreatDoorQSxzc
import Derived.WalkKit
import Derived.ProofKit
import Derived.OpenShut
import Derived.ChangeOld
import Derived.Below
import Derived.Lay
import Derived.Deep.DeepHandedRow
import Derived.Deep.DeepWitnessRowRef
namespace Go.VZ
open Go Go.V Go.Proofs Go.RowKit
theorem calls_of {f : FuncId} {args : List AV} {vs : Array Value} {w : World} (hb : hasBody C.P f = true) (hl : vs.size = args.length)
    (hr : ∀ (i : Nat) a v, args[i]? = some a → vs[i]? = some v → IRel (fun _ _ => True) w a v) (hg : GlobR (fun _ _ => True) w) (hc : CallP C f args = some (.bool true)) :
    Calls Tryz.prog f vs w (fun e w' => e = .returned (.bool true) ∧ Below w.heap.size w w') := by
  unfold CallP at hc
  split at hc <;> first | (cases hc; done) | skip
  rename_i r h1 hx
  refine (ok.fn f args [] r h1 hb hx w.heap.size (fun _ _ => True) [] w vs (.start hg) hl (fun i a v ha hv => .data (irel_start (hr i a v ha hv)))).mono ?_
  rintro e w' ⟨v, rfl, σ', k1, k2, k3⟩
  have hs := snap_sound (k1.stiller (freezeAll_stiller h1)) deep r (.bool true) v hc (k3.step (.stiller k1 (freezeAll_stiller h1)))
  cases hs
  exact ⟨rfl, k2.below⟩
theorem le_sum_of_mem {α : Type} {f : α → Nat} {l : List α} {a : α} (h : a ∈ l) : f a ≤ (l.map f).sum := by
  induction l with
  | nil => simp at h
  | cons b l ih =>
    rw [List.map_cons, List.sum_cons]
    rcases List.mem_cons.1 h with rfl | h
    · omega
    · have := ih h; omega
end Go.VZ
namespace Go.Proofs.YtdoegkegjaadeaaGreatDoor.queryCheckTree
open Go.ChangeShapes Go.WideShapes Go.ChangeAt Go.RowKit
theorem and_tt {a b : Bool} (h : a = true) (k : b = true) : (a && b) = true := by rw [h, k]; rfl
set_option maxRecDepth 100000 in
theorem closed : joinedFacts Tryz.prog 5 Tryz.f5 (OpenSpec.ofChange Rows.queryCheckTreeSpec).bare Rows.queryCheckTreeRow = true := (and_tt (and_tt (and_tt (and_tt (and_tt (and_tt (and_tt (and_tt (and_tt (and_tt (and_tt (and_tt (and_tt (and_tt (and_tt (and_tt (and_tt (and_tt (and_tt (and_tt (and_tt (and_tt (and_tt (and_tt (and_tt (and_tt (and_tt (and_tt (and_tt (and_tt (and_tt jf0 jf1) jf2) jf3) jf4) jf5) jf6) jf7) jf8) jf9) jf10) jf11) jf12) jf13) jf14) jf15) jf16) jf17) jf18) jf19) jf20) jf21) jf22) jf23) jf24) jf25) jf26) jf27) jf28) jf29) jf30) jf31)
set_option maxRecDepth 100000 in
theorem contract (H : Type) (enc : TypeId × Value → H) (W : World) (base : Nat) (args : Array Value) (ds gs : List (DataW H)) (before : List MemPlace)
    (hval : ∀ (j : Nat) t v, Tryz.f5.params[j]? = some t → args[j]? = some v → Value.okWide Tryz.prog W .any base t v)
    (hW : DataW.Whole enc Tryz.prog Tryz.f5.params.toList Rows.queryCheckTreeSpec.vars false W args.toList ds gs before) (hgl : Go.V.GlobR (fun _ _ => True) W) (hwt : (DataW.weightsEach Tryz.prog (Tryz.f5.params.toList ++ (OpenSpec.ofChange Rows.queryCheckTreeSpec).bare.plain.varTypes Tryz.prog) (ds ++ gs)).all (· ≤ reachBytes) = true) :
    Calls Tryz.prog 5 args W fun e W' => ∃ v, e = .returned v ∧ Rows.queryCheckTreeSpec.post enc Tryz.prog Tryz.f5 false true false false W args v W' := by
  have hW' := hW
  obtain ⟨p, q, hA0, hV, rfl, hfz, hnd⟩ := hW
  have hA : DataW.TrodAll enc Tryz.prog W 0 (fun _ => true) true Tryz.f5.params.toList args.toList ds p := hA0
  rw [Tryz.params5] at hA hval hwt
  obtain ⟨v0, v1, d0, d1, p0, p1, rfl, rfl, rfl, h0, h1⟩ := trodAll_two hA
  obtain ⟨rfl, rfl⟩ := trodVars_none hV
  obtain ⟨a0, len0, cap0, rfl⟩ := okWide_slice Tryz.underlying22 (hval 0 22 v0 rfl rfl)
  obtain ⟨a1, len1, cap1, rfl⟩ := okWide_slice Tryz.underlying42 (hval 1 42 v1 rfl rfl)
  have k0 := h0
  have k1 := h1
  have lt0 : ∀ x ∈ p0, x.block < W.heap.size := by obtain ⟨m, hm⟩ := k0; exact DataW.trod_lt m _ _ _ hm
  have lt1 : ∀ x ∈ p1, x.block < W.heap.size := by obtain ⟨m, hm⟩ := k1; exact DataW.trod_lt m _ _ _ hm
  obtain ⟨n0, f0⟩ := h0
  obtain ⟨n1, f1⟩ := h1
  obtain ⟨l, r0⟩ := Go.VZ.dec_clauses f0
  obtain ⟨t, r1, b1⟩ := Go.VZ.dec_infs f1
  have hN : ∀ n ∈ d1.weights Tryz.prog 42, n ≤ reachBytes := fun n hn => of_decide_eq_true (List.all_eq_true.1 hwt n (Go.VZ.wt_each (i := 1) rfl rfl hn))
  have hbs : ∀ i ∈ t, i.bs.length * 112 ≤ 140737488355328 := fun i hi => by
    obtain ⟨d, hd, y, hy, e⟩ := b1 i hi
    have h := (Go.VZ.wt_slice Tryz.underlying46 (Go.VZ.wt_agg Tryz.underlying49 ((Go.VZ.wt_slice Tryz.underlying42 hN).2 d hd) hy rfl)).1
    rw [show Tryz.prog.bytesOf 86 = 112 by kernel_rfl] at h
    have hr : reachBytes = 140737488351232 := rfl
    omega
  refine (Go.VZ.calls_of (args := [Go.VZ.clsV l, Go.VZ.infs t]) (by kernel_rfl) rfl ?_ hgl (Go.VZ.law5 l t hbs)).mono fun e W' ⟨he, bel⟩ => ?_
  · intro i a v ha hv
    match i with
    | 0 => simp at ha hv; subst ha; subst hv; exact r0
    | 1 => simp at ha hv; subst ha; subst hv; exact r1
    | i + 2 => simp at ha
  · subst he
    exact ⟨_, rfl, _, _, _, [], _, [], hW', trodAll_mk1 (shut_bool Tryz.underlying4 _), trodAll_cons_mk (Below.trod jf1 (by kernel_rfl) (of_decide_eq_true (by kernel_rfl)) k0 bel lt0)
      (trodAll_cons_mk (Below.trod jf1 (by kernel_rfl) (of_decide_eq_true (by kernel_rfl)) k1 bel lt1) trodAll_mk0), rfl, bel.frame _, fun h => by cases h⟩
noncomputable def laidWorld (os : Os) : World := World.laidAll Tryz.prog os Rows.queryCheckTreeRow.laid
abbrev wargs : Array Value := #[.slice none 0 0, .slice none 0 0]
theorem laid_met (os : Os) : laidMet Tryz.prog Rows.queryCheckTreeRow.laid ((laidWorld os).forCall (fun _ _ => 0) ⟨#[], wargs, []⟩).memory := laidMet_laidAll wargs (by kernel_rfl) (by kernel_rfl)
theorem reads (os : Os) {H : Type} (enc : TypeId × Value → H) : ∃ places, DataW.whole enc Tryz.prog ((laidWorld os).forCall (fun _ _ => 0) ⟨#[], wargs, []⟩).memory Tryz.f5.params.toList Rows.queryCheckTreeSpec.vars false wargs.toList 8 = some ([.nil, .nil], [], places) :=
  ⟨[], by kernel_rfl⟩
set_option maxRecDepth 100000 in
theorem lifted (os : Os) (started : os.Started) (H : Type) (enc : TypeId × Value → H) (F : Stop.Interp) :
    ReturnsInHanded {} Tryz.checked os 5 .any ((OpenSpec.ofChange Rows.queryCheckTreeSpec).preRow enc Tryz.prog Tryz.f5 Rows.queryCheckTreeRow.domain false Rows.queryCheckTreeRow.laid) (((OpenSpec.ofChange Rows.queryCheckTreeSpec).at F).post enc Tryz.prog Tryz.f5 false true false false) := by
  obtain ⟨places, hx⟩ := reads os enc
  refine returnsInHanded_of_row (C := Tryz.checked) (s := OpenSpec.ofChange Rows.queryCheckTreeSpec) jown started jnoinit Tryz.func5
    (witness_row_atRef (enc := enc) (C := Tryz.checked) false (laidWorld os) wargs (World.laidAll_os _ _ _) (by kernel_rfl) (by kernel_rfl) (by kernel_rfl)
      (OpenSpec.preRow_of_cond 8 hx (by kernel_rfl) (fun k hk => by cases hk) (by kernel_rfl) (laid_met os))) ?_
  intro W base args ds gs before hval hW _ _ hwt hL _ _
  exact contract H enc W base args ds gs before hval hW (Go.VZ.glob_words hL) hwt
theorem said : Rows.QueryCheckTreeSaid :=
  OpenClaim.holds_of_cond 5 Tryz.f5 rfl rfl rfl rfl rfl rfl rfl ⟨rfl, rfl, rfl, rfl, rfl⟩ rfl rfl rfl rfl rfl jfn Tryz.func5 closed jinst jwrap
    (fun os started H enc _ F => by rw [OpenClaim.pre_eq_preRow]; exact lifted os started H enc F)
theorem plain (f : FuncId) (fn : Func) (hf : Tryz.pinned.checked.prog.funcNamed "sealring/sealringlaw48.QueryCheckTree" = some f) (hfn : Tryz.pinned.checked.prog.funcs[f]? = some fn) :
    false = Tryz.pinned.checked.prog.looks [] ∧ ∀ (j : Nat) t, fn.params[j]? = some t → Tryz.pinned.checked.prog.wantsStandIn t = false := by
  obtain rfl : f = 5 := Option.some.inj ((show Tryz.prog.funcNamed "sealring/sealringlaw48.QueryCheckTree" = some 5 from jfn).symm.trans hf) |>.symm
  obtain rfl : fn = Tryz.f5 := (Option.some.inj (Tryz.func5.symm.trans hfn)).symm
  refine ⟨jlooks, fun j t ht => ?_⟩
  rw [Tryz.params5] at ht
  have : t = 22 ∨ t = 42 := by simpa using Array.mem_of_getElem? ht
  rcases this with rfl | rfl
  · exact (show Tryz.prog.wantsStandIn 22 = false by kernel_rfl)
  · exact (show Tryz.prog.wantsStandIn 42 = false by kernel_rfl)
theorem card : Rows.QueryCheckTreeCardSaid :=
  Claim7.holds_tied_plain_at .later [] _ _ _ _ said (fun _ h => by cases h) jtext (fun _ h => by cases h) queryCheckTree_row_tie rfl ⟨rfl, rfl⟩ jmain rfl plain jgoes
#print axioms card
end Go.Proofs.YtdoegkegjaadeaaGreatDoor.queryCheckTree
