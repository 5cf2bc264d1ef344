/-
  DERIVED. GIVEN WITH THE SEED: THE CARDS: each row of YtclakfnjdnibeaaGreatDoorRows.lean that lists a variable, with what it lists TIED to the program's text (the seventh form; the later family's looks); each row that meets fmt, with fmt's text TOLD by the authors' own Lean function (tested against real Go, not proved from fmt's source: count such statements apart). THE CARD IS WHAT COUNTS. Prove the row's statement (the work); the ties are given (YtclakfnjdnibeaaGreatDoorTie.lean); close each card by the builder's one call (the guide's Derived/Test/ToyasCard.lean, 'card_holds'). Laid BY PROGRAM, IN A SANDBOX (cutbox-door.mjs). By AI agents, Wed Nov 11 2026. No macro, syntax, notation, axiom, sorry.
-/
import Derived.Test.YtclakfnjdnibeaaGreatDoorRows
import GoSem.ClaimSeven
namespace Go.Proofs.YtclakfnjdnibeaaGreatDoor
namespace Rows

/-- THE TIED CARD OF 'sealringlaw40.ExhaustSound'. -/
def exhaustSoundCard : Claim7 := { stood := { row := exhaustSoundRow, standIns := [], harness := (true, "4f5ffd17580dd6faac0eab8b09d07429ce976919e50ce3c1ad51643087c5f8b8"), looks := false }, kinds := [], alts := [], laidByText := true, laidKinds := [.data, .data, .data, .data, .pinned], laidTests := true, laidLooks := .later }
def ExhaustSoundCardSaid : Prop := Claim7.holds Tryz.pinned (.plain (OpenSpec.ofChange exhaustSoundSpec)) exhaustSoundCard

/-- THE TIED CARD OF 'sealringlaw40.ExhaustForms'. -/
def exhaustFormsCard : Claim7 := { stood := { row := exhaustFormsRow, standIns := [], harness := (true, "4f5ffd17580dd6faac0eab8b09d07429ce976919e50ce3c1ad51643087c5f8b8"), looks := false }, kinds := [], alts := [], laidByText := true, laidKinds := [.data, .data, .data, .data, .pinned], laidTests := true, laidLooks := .later }
def ExhaustFormsCardSaid : Prop := Claim7.holds Tryz.pinned (.plain (OpenSpec.ofChange exhaustFormsSpec)) exhaustFormsCard

/-- THE TIED CARD OF 'sealringlaw40.ExhaustSpoil'. -/
def exhaustSpoilCard : Claim7 := { stood := { row := exhaustSpoilRow, standIns := [], harness := (true, "4f5ffd17580dd6faac0eab8b09d07429ce976919e50ce3c1ad51643087c5f8b8"), looks := false }, kinds := [], alts := [], laidByText := true, laidKinds := [.data, .data, .data, .data, .pinned], laidTests := true, laidLooks := .later }
def ExhaustSpoilCardSaid : Prop := Claim7.holds Tryz.pinned (.plain (OpenSpec.ofChange exhaustSpoilSpec)) exhaustSpoilCard

/-- THE SECOND FORM's CARD OF 'sealringlaw40.ExhaustSound'. -/
def exhaustSoundUptoCard : Claim7 := { stood := { row := exhaustSoundUptoRow, standIns := [], harness := (true, "4f5ffd17580dd6faac0eab8b09d07429ce976919e50ce3c1ad51643087c5f8b8"), looks := false }, kinds := [], alts := [], laidByText := true, laidKinds := [.data, .data, .data, .data, .pinned], laidTests := true, laidLooks := .later }
def ExhaustSoundUptoCardSaid : Prop := Claim7.holds Tryz.pinned (.plain (OpenSpec.upto exhaustSoundSpec)) exhaustSoundUptoCard

/-- THE SECOND FORM's CARD OF 'sealringlaw40.ExhaustForms'. -/
def exhaustFormsUptoCard : Claim7 := { stood := { row := exhaustFormsUptoRow, standIns := [], harness := (true, "4f5ffd17580dd6faac0eab8b09d07429ce976919e50ce3c1ad51643087c5f8b8"), looks := false }, kinds := [], alts := [], laidByText := true, laidKinds := [.data, .data, .data, .data, .pinned], laidTests := true, laidLooks := .later }
def ExhaustFormsUptoCardSaid : Prop := Claim7.holds Tryz.pinned (.plain (OpenSpec.upto exhaustFormsSpec)) exhaustFormsUptoCard

/-- THE SECOND FORM's CARD OF 'sealringlaw40.ExhaustSpoil'. -/
def exhaustSpoilUptoCard : Claim7 := { stood := { row := exhaustSpoilUptoRow, standIns := [], harness := (true, "4f5ffd17580dd6faac0eab8b09d07429ce976919e50ce3c1ad51643087c5f8b8"), looks := false }, kinds := [], alts := [], laidByText := true, laidKinds := [.data, .data, .data, .data, .pinned], laidTests := true, laidLooks := .later }
def ExhaustSpoilUptoCardSaid : Prop := Claim7.holds Tryz.pinned (.plain (OpenSpec.upto exhaustSpoilSpec)) exhaustSpoilUptoCard
end Rows
end Go.Proofs.YtclakfnjdnibeaaGreatDoor
