/- The examples of chapter 40, run closed; the value machine of the walks is sound. -/
import Derived.Test.YtdoegkegjaadeaaGreatDoorQSj
import Derived.Test.YtdoegkegjaadeaaGreatDoorQSk
namespace Go.VZ
open Go Go.V Go.Proofs Go.RowKit
theorem awake40 : isYes (callR C2 4000 20 [] []) = true := by kernel_rfl
theorem prim_ok (f : FuncId) : PrimOk C.P f (C.prim f) := by
  intro args h r h' hp B A0 σ w vs hr hl ha
  have hp' : prim f args h = some (r, h') := hp
  unfold prim at hp'
  split at hp'
  · rename_i hf; subst hf
    exact yes_prim awake40 (by kernel_rfl) hp' B A0 σ w vs hr hl
  split at hp'
  · rename_i hf; subst hf
    split at hp' <;> first | (cases hp'; done) | skip
    simp only [Option.some.injEq, Prod.mk.injEq] at hp'
    obtain ⟨rfl, rfl⟩ := hp'
    have : vs = #[] := Array.eq_empty_of_size_eq_zero (by simpa using hl)
    subst this
    exact (awake48_calls (glob_of hr)).mono fun e w' ⟨he, hg⟩ => ⟨_, he, σ, hr.grows hg, .grows hr hg, .data (.bool true)⟩
  split at hp'
  · rename_i hf; subst hf
    exact primSort_ok args h r h' hp' B A0 σ w vs hr hl ha
  · exact primClone_ok f args h r h' hp' B A0 σ w vs hr hl ha
theorem ok : Go.V.Ok C.P (Go.V.Call C) := Call_ok good prim_ok
end Go.VZ
