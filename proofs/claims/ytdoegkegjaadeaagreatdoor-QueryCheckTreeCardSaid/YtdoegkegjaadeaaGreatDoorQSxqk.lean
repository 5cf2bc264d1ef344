/- Closed runs of chapter 48: a tree. -/
import Derived.Test.YtdoegkegjaadeaaGreatDoorQSxqg
namespace Go.VZ
open Go Go.V Go.Proofs Go.RowKit
def runOne (C : Cfg) (m : Nat) (f : FuncId) (args : List AV) : Bool := match callR C m f args [] with
  | some (r, h) => match snap (freezeAll h) deep r with
    | some (.tuple [.isl [_] _, .int .i64 0]) => true
    | _ => false
  | none => false
theorem runOne_CallP {C : Cfg} {m : Nat} {f : FuncId} {args : List AV} (h : runOne C m f args = true) : ∃ x e, CallP C f args = some (.tuple [.isl [x] e, .int .i64 0]) := by
  unfold runOne at h
  split at h <;> first | (cases h; done) | skip
  rename_i r h1 hx
  split at h <;> first | (cases h; done) | skip
  rename_i x e hs
  refine ⟨x, e, ?_⟩
  unfold CallP
  rw [Call_of m hx]; exact hs
theorem tree_k : runOne CK 4000 27 [lK, fAtt tK, .int .i64 1] = true := by kernel_rfl
end Go.VZ
