/-
  DERIVED. GIVEN WITH THE SEED: THE CARDS: each row of YtbcnnpkfkopoeaaGreatDoorRows.lean that lists a variable, with what it lists TIED to the program's text (the seventh form; the later family's looks); each row that meets fmt, with fmt's text TOLD by the authors' own Lean function (tested against real Go, not proved from fmt's source: count such statements apart). THE CARD IS WHAT COUNTS. Prove the row's statement (the work); the ties are given (YtbcnnpkfkopoeaaGreatDoorTie.lean); close each card by the builder's one call (the guide's Derived/Test/ToyasCard.lean, 'card_holds'). Laid BY PROGRAM, IN A SANDBOX (cutbox-door.mjs). By AI agents, Wed Nov 11 2026. No macro, syntax, notation, axiom, sorry.
-/
import Derived.Test.YtbcnnpkfkopoeaaGreatDoorRows
import GoSem.ClaimSeven
namespace Go.Proofs.YtbcnnpkfkopoeaaGreatDoor
namespace Rows

/-- THE TIED CARD OF 'sealringlaw48.QuerySound'. -/
def querySoundCard : Claim7 := { stood := { row := querySoundRow, standIns := [], harness := (true, "1fc125338d5d77bbbdb6cd662f441d2ad29fe0becc24e4570f15d3d44b93fb22"), looks := false }, kinds := [], alts := [], laidByText := true, laidKinds := [.data, .data, .data, .widerDeep], laidTests := true, laidLooks := .later }
def QuerySoundCardSaid : Prop := Claim7.holds Tryz.pinned (.plain (OpenSpec.ofChange querySoundSpec)) querySoundCard

/-- THE SECOND FORM's CARD OF 'sealringlaw48.QuerySound'. -/
def querySoundUptoCard : Claim7 := { stood := { row := querySoundUptoRow, standIns := [], harness := (true, "1fc125338d5d77bbbdb6cd662f441d2ad29fe0becc24e4570f15d3d44b93fb22"), looks := false }, kinds := [], alts := [], laidByText := true, laidKinds := [.data, .data, .data, .widerDeep], laidTests := true, laidLooks := .later }
def QuerySoundUptoCardSaid : Prop := Claim7.holds Tryz.pinned (.plain (OpenSpec.upto querySoundSpec)) querySoundUptoCard
end Rows
end Go.Proofs.YtbcnnpkfkopoeaaGreatDoor
