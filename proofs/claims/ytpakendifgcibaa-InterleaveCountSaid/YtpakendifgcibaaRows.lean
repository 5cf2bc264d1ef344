/-
  No cell of these rows narrows 'for every input' (looked for: loops, veiled, ifaces, maps, wideKeys, modest, calm, conditions, laid).
  DERIVED. THE GIVEN ROWS OF THIS SEAT. 4 by the template 'for every input the law returns true; each argument reads behind the call as it read before'; 0 by the template 'total and deterministic' (their statements: YtpakendifgcibaaTotals.lean).
  GIVEN WITH THE SEED: the statements are not yours to turn. If you find one false, say at which input.
  Laid BY PROGRAM, IN A SANDBOX (cutbox-rows.mjs): the forced cells as the released guide's own fill.sh prints them over the translation c274bfbbe195b6dc… (all of the seat's roots in one cut). By AI agents, Wed Nov 11 2026. No macro, syntax, notation, axiom, sorry.
-/
import Derived.Test.YtpakendifgcibaaChecked
import GoSem.Claim
import GoSem.ClaimJoined
import GoSem.ClaimMapViews
import Derived.JoinedTies
import Derived.KernelRfl
namespace Go.Proofs.Ytpakendifgcibaa
/- THE CELL 'sum', in the pinned program and in every row, IS THE sha256 OF THE DUMP (.gsa) THAT YtpakendifgcibaaProg.lean LOADS. Nothing in Lean hashes anything: it is a label: what it is worth is what the hold of that sum in a sandbox is worth. -/
noncomputable def Try.pinned : Pinned := { name := "ytpakendifgcibaa", sum := "c274bfbbe195b6dcbea067d9d5d32353ee5f81fef14f92b6f454f43e8f2382cd", checked := Try.checked }
namespace Rows
def none {H : Type} : Left H := { results := [], args := [] }

/-- 'sealringlaw37.InterleavePlans': WHATEVER THE INPUT: true; the input reads as it did. -/
def interleavePlansSpec : ChangeSpec := { name := "interleavePlans", fn := fun _ => fun
  | [d] => { results := [.lit (.bool true)], args := [d] }
  | _ => none }
def interleavePlansRow : OpenClaim := { program := "ytpakendifgcibaa", sum := "c274bfbbe195b6dcbea067d9d5d32353ee5f81fef14f92b6f454f43e8f2382cd", func := "sealring/sealringlaw37.InterleavePlans", spec := "interleavePlans", unfollowed := true, recurses := true, apart := false }
def InterleavePlansSaid : Prop := interleavePlansRow.holds Try.pinned (OpenSpec.ofChange interleavePlansSpec)

/-- ITS FALSE NEIGHBOUR: 'it returns false'. Refute it at one input. -/
def interleavePlansWrong : ChangeSpec := { name := "interleavePlans", fn := fun _ => fun
  | [d] => { results := [.lit (.bool false)], args := [d] }
  | _ => none }
def InterleavePlansWrongFalsely : Prop := interleavePlansRow.holds Try.pinned (OpenSpec.ofChange interleavePlansWrong)

/-- 'sealringlaw37.InterleaveRank': WHATEVER THE INPUT: true; the input reads as it did. -/
def interleaveRankSpec : ChangeSpec := { name := "interleaveRank", fn := fun _ => fun
  | [d1, d2] => { results := [.lit (.bool true)], args := [d1, d2] }
  | _ => none }
def interleaveRankRow : OpenClaim := { program := "ytpakendifgcibaa", sum := "c274bfbbe195b6dcbea067d9d5d32353ee5f81fef14f92b6f454f43e8f2382cd", func := "sealring/sealringlaw37.InterleaveRank", spec := "interleaveRank", unfollowed := true, recurses := true, apart := false }
def InterleaveRankSaid : Prop := interleaveRankRow.holds Try.pinned (OpenSpec.ofChange interleaveRankSpec)

/-- ITS FALSE NEIGHBOUR: 'it returns false'. Refute it at one input. -/
def interleaveRankWrong : ChangeSpec := { name := "interleaveRank", fn := fun _ => fun
  | [d1, d2] => { results := [.lit (.bool false)], args := [d1, d2] }
  | _ => none }
def InterleaveRankWrongFalsely : Prop := interleaveRankRow.holds Try.pinned (OpenSpec.ofChange interleaveRankWrong)

/-- 'sealringlaw37.InterleaveUnrank': WHATEVER THE INPUT: true; the input reads as it did. -/
def interleaveUnrankSpec : ChangeSpec := { name := "interleaveUnrank", fn := fun _ => fun
  | [d1, d2] => { results := [.lit (.bool true)], args := [d1, d2] }
  | _ => none }
def interleaveUnrankRow : OpenClaim := { program := "ytpakendifgcibaa", sum := "c274bfbbe195b6dcbea067d9d5d32353ee5f81fef14f92b6f454f43e8f2382cd", func := "sealring/sealringlaw37.InterleaveUnrank", spec := "interleaveUnrank", unfollowed := true, recurses := true, apart := false }
def InterleaveUnrankSaid : Prop := interleaveUnrankRow.holds Try.pinned (OpenSpec.ofChange interleaveUnrankSpec)

/-- ITS FALSE NEIGHBOUR: 'it returns false'. Refute it at one input. -/
def interleaveUnrankWrong : ChangeSpec := { name := "interleaveUnrank", fn := fun _ => fun
  | [d1, d2] => { results := [.lit (.bool false)], args := [d1, d2] }
  | _ => none }
def InterleaveUnrankWrongFalsely : Prop := interleaveUnrankRow.holds Try.pinned (OpenSpec.ofChange interleaveUnrankWrong)

/-- 'sealringlaw37.InterleaveCount': WHATEVER THE INPUT: true; the input reads as it did. -/
def interleaveCountSpec : ChangeSpec := { name := "interleaveCount", fn := fun _ => fun
  | [d] => { results := [.lit (.bool true)], args := [d] }
  | _ => none }
def interleaveCountRow : OpenClaim := { program := "ytpakendifgcibaa", sum := "c274bfbbe195b6dcbea067d9d5d32353ee5f81fef14f92b6f454f43e8f2382cd", func := "sealring/sealringlaw37.InterleaveCount", spec := "interleaveCount", unfollowed := true, recurses := true, apart := false }
def InterleaveCountSaid : Prop := interleaveCountRow.holds Try.pinned (OpenSpec.ofChange interleaveCountSpec)

/-- ITS FALSE NEIGHBOUR: 'it returns false'. Refute it at one input. -/
def interleaveCountWrong : ChangeSpec := { name := "interleaveCount", fn := fun _ => fun
  | [d] => { results := [.lit (.bool false)], args := [d] }
  | _ => none }
def InterleaveCountWrongFalsely : Prop := interleaveCountRow.holds Try.pinned (OpenSpec.ofChange interleaveCountWrong)

/- THE SECOND FORM. 'bulk': how many values and letters a reading holds, each counted each time it is reached (what is shared counts as often as it is met; a slice's spare places count too). A statement '..UptoSaid' is the law's where the arguments, and the package variables that the reading takes, are together of bulk at most 1048576: NARROWER than '..Said'. Prove '..Said' where nothing that the law and all that it calls make is longer than what came in: it says more and counts as full. Else prove '..UptoSaid'. A law counts once. -/
mutual
def uptoBulk {H : Type} : DataW H → Nat
  | .lit (.string bytes) => bytes.length + 1
  | .lit _ => 1
  | .nil => 1
  | .ptr d => uptoBulk d + 1
  | .slice elems spare => uptoBulkAll elems + uptoBulkAll spare + 1
  | .agg parts => uptoBulkAll parts + 1
  | .iface _ d => uptoBulk d + 1
  | .map entries => uptoBulkEntries entries + 1
  | .held _ => 1
def uptoBulkAll {H : Type} : List (DataW H) → Nat
  | [] => 0
  | d :: r => uptoBulk d + uptoBulkAll r
def uptoBulkEntries {H : Type} : List (Lit × DataW H) → Nat
  | [] => 0
  | x :: r => uptoBulkEntry x + uptoBulkEntries r
def uptoBulkEntry {H : Type} : Lit × DataW H → Nat
  | (.string bytes, d) => bytes.length + uptoBulk d + 1
  | (_, d) => uptoBulk d + 1
 end
def uptoSmall : (H : Type) → List (DataW H) → Bool := fun _ ds => decide (uptoBulkAll ds ≤ 1048576)
def OpenSpec.upto (s : _root_.Go.ChangeSpec) : _root_.Go.OpenSpec := { _root_.Go.OpenSpec.ofChange s with cond := some uptoSmall }

/-- 'sealringlaw37.InterleavePlans', WHERE WHAT IT READS IS OF BULK AT MOST 1048576: true; the input reads as it did. -/
def interleavePlansUptoRow : OpenClaim := { program := "ytpakendifgcibaa", sum := "c274bfbbe195b6dcbea067d9d5d32353ee5f81fef14f92b6f454f43e8f2382cd", func := "sealring/sealringlaw37.InterleavePlans", spec := "interleavePlans", unfollowed := true, recurses := true, apart := false, narrowed := true }
def InterleavePlansUptoSaid : Prop := interleavePlansUptoRow.holds Try.pinned (OpenSpec.upto interleavePlansSpec)

/-- 'sealringlaw37.InterleaveRank', WHERE WHAT IT READS IS OF BULK AT MOST 1048576: true; the input reads as it did. -/
def interleaveRankUptoRow : OpenClaim := { program := "ytpakendifgcibaa", sum := "c274bfbbe195b6dcbea067d9d5d32353ee5f81fef14f92b6f454f43e8f2382cd", func := "sealring/sealringlaw37.InterleaveRank", spec := "interleaveRank", unfollowed := true, recurses := true, apart := false, narrowed := true }
def InterleaveRankUptoSaid : Prop := interleaveRankUptoRow.holds Try.pinned (OpenSpec.upto interleaveRankSpec)

/-- 'sealringlaw37.InterleaveUnrank', WHERE WHAT IT READS IS OF BULK AT MOST 1048576: true; the input reads as it did. -/
def interleaveUnrankUptoRow : OpenClaim := { program := "ytpakendifgcibaa", sum := "c274bfbbe195b6dcbea067d9d5d32353ee5f81fef14f92b6f454f43e8f2382cd", func := "sealring/sealringlaw37.InterleaveUnrank", spec := "interleaveUnrank", unfollowed := true, recurses := true, apart := false, narrowed := true }
def InterleaveUnrankUptoSaid : Prop := interleaveUnrankUptoRow.holds Try.pinned (OpenSpec.upto interleaveUnrankSpec)

/-- 'sealringlaw37.InterleaveCount', WHERE WHAT IT READS IS OF BULK AT MOST 1048576: true; the input reads as it did. -/
def interleaveCountUptoRow : OpenClaim := { program := "ytpakendifgcibaa", sum := "c274bfbbe195b6dcbea067d9d5d32353ee5f81fef14f92b6f454f43e8f2382cd", func := "sealring/sealringlaw37.InterleaveCount", spec := "interleaveCount", unfollowed := true, recurses := true, apart := false, narrowed := true }
def InterleaveCountUptoSaid : Prop := interleaveCountUptoRow.holds Try.pinned (OpenSpec.upto interleaveCountSpec)

end Rows
end Go.Proofs.Ytpakendifgcibaa
