/- Closed facts of the row and of the card, one by one. -/
import Derived.Test.YtdoegkegjaadeaaGreatDoorCards
import Derived.JoinedCond
import Derived.SevenTiedAt
namespace Go.Proofs.YtdoegkegjaadeaaGreatDoor.queryCheckTree
open Go
theorem jf0 : (Rows.queryCheckTreeRow.wf (OpenSpec.ofChange (OpenSpec.ofChange Rows.queryCheckTreeSpec).bare)) = true := by kernel_rfl
theorem jf1 : (laidOutB Tryz.prog) = true := by kernel_rfl
theorem jf2 : (mapsRowed Tryz.prog) = true := by kernel_rfl
theorem jf3 : (Tryz.f5.params.all (Tryz.prog.readableRec ·)) = true := by kernel_rfl
theorem jf4 : (namedTie Tryz.prog Rows.queryCheckTreeRow.named (OpenSpec.ofChange Rows.queryCheckTreeSpec).bare.vars) = true := by kernel_rfl
theorem jf5 : ((Rows.queryCheckTreeRow.stops == [])) = true := by kernel_rfl
theorem jf6 : ((Tryz.prog.stops == [])) = true := by kernel_rfl
theorem jf7 : ((Rows.queryCheckTreeRow.knobs == [])) = true := by kernel_rfl
theorem jf8 : ((Tryz.prog.stopKnobs == [])) = true := by kernel_rfl
theorem jf13 : ((Rows.queryCheckTreeRow.maps == (Tryz.f5.params.toList ++ (OpenSpec.ofChange Rows.queryCheckTreeSpec).bare.plain.varTypes Tryz.prog).any (Tryz.prog.mapsRec ·))) = true := by kernel_rfl
theorem jf14 : ((Rows.queryCheckTreeRow.ifaces == (Tryz.f5.params.toList ++ (OpenSpec.ofChange Rows.queryCheckTreeSpec).bare.plain.varTypes Tryz.prog).any (Tryz.prog.ifacesRec ·))) = true := by kernel_rfl
theorem jf15 : ((Rows.queryCheckTreeRow.mapsOut == Tryz.prog.mapsAmong Tryz.f5.resultTypes.toList)) = true := by kernel_rfl
theorem jf16 : ((Rows.queryCheckTreeRow.loops == (Tryz.f5.params.toList ++ (OpenSpec.ofChange Rows.queryCheckTreeSpec).bare.plain.varTypes Tryz.prog).any (Tryz.prog.loopsFrom ·))) = true := by kernel_rfl
theorem jf17 : ((Rows.queryCheckTreeRow.wideKeys == (Tryz.f5.params.toList ++ (OpenSpec.ofChange Rows.queryCheckTreeSpec).bare.plain.varTypes Tryz.prog ++ Tryz.f5.resultTypes.toList).any (Tryz.prog.wideKeysFrom ·))) = true := by kernel_rfl
theorem jf18 : ((OpenSpec.ofChange Rows.queryCheckTreeSpec).bare.vars.all (Tryz.prog.varReadable ·)) = true := by kernel_rfl
theorem jf19 : (Tryz.f5.resultTypes.all (fun t => Tryz.prog.readableRec t && decide (t < Tryz.prog.types.size))) = true := by kernel_rfl
theorem jf20 : ((Rows.queryCheckTreeRow.ifacesOut == Tryz.f5.resultTypes.toList.any (Tryz.prog.ifacesRec ·))) = true := by kernel_rfl
theorem jf21 : ((Rows.queryCheckTreeRow.loopsOut == Tryz.f5.resultTypes.toList.any (Tryz.prog.loopsFrom ·))) = true := by kernel_rfl
theorem jf22 : ((Rows.queryCheckTreeRow.plainKeys == Tryz.prog.plainKeys)) = true := by kernel_rfl
theorem jf23 : (Rows.queryCheckTreeRow.shortTexts.isNone) = true := by kernel_rfl
theorem jf24 : (Tryz.prog.stopsHeard) = true := by kernel_rfl
theorem jf25 : (Tryz.prog.mayEnter) = true := by kernel_rfl
theorem jf26 : ((Rows.queryCheckTreeRow.lifted == Tryz.prog.liftsFinal)) = true := by kernel_rfl
theorem jf27 : ((Tryz.prog.make == some Rows.queryCheckTreeRow.make)) = true := by kernel_rfl
theorem jf28 : ((Rows.queryCheckTreeRow.kinds == (if Rows.queryCheckTreeRow.domain.isEmpty then [] else Tryz.f5.params.toList.map fun t => match Tryz.prog.underlying t with | some (.int k) => some k | _ => none))) = true := by kernel_rfl
theorem jf29 : ((Rows.queryCheckTreeRow.pinned == Rows.queryCheckTreeRow.pinnedBy)) = true := by kernel_rfl
theorem jf30 : ((Rows.queryCheckTreeRow.veiled == (Tryz.f5.params.toList ++ (OpenSpec.ofChange Rows.queryCheckTreeSpec).bare.plain.varTypes Tryz.prog ++ Tryz.f5.resultTypes.toList).any (Tryz.prog.veiledRec ·))) = true := by kernel_rfl
theorem jf31 : (Rows.queryCheckTreeRow.veiledFits Tryz.prog Tryz.f5.params.toList (Tryz.f5.params.toList ++ (OpenSpec.ofChange Rows.queryCheckTreeSpec).bare.plain.varTypes Tryz.prog ++ Tryz.f5.resultTypes.toList)) = true := by kernel_rfl
theorem jfn : Tryz.prog.funcNamed Rows.queryCheckTreeRow.func = some 5 := by kernel_rfl
theorem jinst : Tryz.f5.isInstance Tryz.prog Rows.queryCheckTreeRow.origin Rows.queryCheckTreeRow.targs := of_decide_eq_true (by kernel_rfl)
theorem jwrap : Tryz.f5.isWrapper Tryz.prog Rows.queryCheckTreeRow.wrapper Rows.queryCheckTreeRow.mainSum := by unfold Func.isWrapper; first | (rw [if_pos (by decide +kernel)]; kernel_rfl) | (rw [if_neg (by decide +kernel)]; exact ⟨rfl, rfl⟩)
theorem jnoinit : Tryz.prog.inits.idxOf? 5 = none := by kernel_rfl
theorem jtext : Rows.queryCheckTreeRow.wfByText (OpenSpec.ofChange Rows.queryCheckTreeSpec) = true := by kernel_rfl
theorem jmain : Tryz.pinned.checked.prog.mainIs = some (true, (Rows.queryCheckTreeCard).stood.harness.2.toList) := by kernel_rfl
theorem gsize : decide (Tryz.prog.funcs.size ≤ 600) = true := by kernel_rfl
theorem gsome : ((List.range 600).all fun i => !((Tryz.prog.funcs[i]?).any Func.goes)) = true := by kernel_rfl
theorem no_goes : Tryz.prog.funcs.any Func.goes = false := by
  cases h : Tryz.prog.funcs.any Func.goes with
  | false => rfl
  | true =>
    obtain ⟨i, hi, hg⟩ := Array.any_eq_true.1 h
    have h1 := of_decide_eq_true gsize
    have h2 := List.all_eq_true.1 gsome i (List.mem_range.2 (by omega))
    rw [Array.getElem?_eq_getElem hi] at h2
    simp only [Option.any_some, hg] at h2
    cases h2
theorem no_goes_at (g : FuncId) : (Tryz.prog.funcs[g]?).any Func.goes = false := by
  cases h : Tryz.prog.funcs[g]? with
  | none => rfl
  | some fn =>
    cases hg : fn.goes with
    | false => simp [hg]
    | true =>
      obtain ⟨hi, rfl⟩ := Array.getElem?_eq_some_iff.1 h
      have := Array.any_eq_true.2 ⟨g, hi, hg⟩
      rw [no_goes] at this; cases this
theorem goes_none (f : FuncId) : Tryz.prog.goes f = false := by
  unfold Program.goes
  rw [no_goes, Bool.and_false, Bool.or_false]
  exact List.any_eq_false.2 fun g _ => by rw [no_goes_at]; simp
theorem jgoes : false = Rows.queryCheckTreeRow.goesBy Tryz.prog := by
  unfold OpenClaim.goesBy Program.goesAt Program.goesFrom
  rw [jfn]
  simp only [Option.any_some, goes_none]
  rfl
theorem jlooks : false = Tryz.pinned.checked.prog.looks [] := by kernel_rfl
theorem jown : ownKnob Tryz.prog.godebug = none := by kernel_rfl
end Go.Proofs.YtdoegkegjaadeaaGreatDoor.queryCheckTree
