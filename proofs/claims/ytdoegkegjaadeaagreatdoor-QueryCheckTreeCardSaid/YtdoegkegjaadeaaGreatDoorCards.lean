/-
  DERIVED. GIVEN WITH THE SEED: THE CARDS: each row of YtdoegkegjaadeaaGreatDoorRows.lean that lists a variable, with what it lists TIED to the program's text (the seventh form; the later family's looks); each row that meets fmt, with fmt's text TOLD by the authors' own Lean function (tested against real Go, not proved from fmt's source: count such statements apart). THE CARD IS WHAT COUNTS. Prove the row's statement (the work); the ties are given (YtdoegkegjaadeaaGreatDoorTie.lean); close each card by the builder's one call (the guide's Derived/Test/ToyasCard.lean, 'card_holds'). Laid BY PROGRAM, IN A SANDBOX (cutbox-door.mjs). By AI agents, Wed Nov 11 2026. No macro, syntax, notation, axiom, sorry.
-/
import Derived.Test.YtdoegkegjaadeaaGreatDoorRows
import GoSem.ClaimSeven
namespace Go.Proofs.YtdoegkegjaadeaaGreatDoor
namespace Rows

/-- THE TIED CARD OF 'sealringlaw48.QuerySecret'. -/
def querySecretCard : Claim7 := { stood := { row := querySecretRow, standIns := [], harness := (true, "486c9dd2df4b03e0bebe7d4cfc52d14ec4b11ebb6f1575593c28147e3cdc68c3"), looks := false }, kinds := [], alts := [], laidByText := true, laidKinds := [.data, .data, .data, .widerDeep], laidTests := true, laidLooks := .later }
def QuerySecretCardSaid : Prop := Claim7.holds Tryz.pinned (.plain (OpenSpec.ofChange querySecretSpec)) querySecretCard

/-- THE TIED CARD OF 'sealringlaw48.QueryAgree'. -/
def queryAgreeCard : Claim7 := { stood := { row := queryAgreeRow, standIns := [], harness := (true, "486c9dd2df4b03e0bebe7d4cfc52d14ec4b11ebb6f1575593c28147e3cdc68c3"), looks := false }, kinds := [], alts := [], laidByText := true, laidKinds := [.data, .data, .data, .widerDeep], laidTests := true, laidLooks := .later }
def QueryAgreeCardSaid : Prop := Claim7.holds Tryz.pinned (.plain (OpenSpec.ofChange queryAgreeSpec)) queryAgreeCard

/-- THE TIED CARD OF 'sealringlaw48.QueryCheckTree'. -/
def queryCheckTreeCard : Claim7 := { stood := { row := queryCheckTreeRow, standIns := [], harness := (true, "486c9dd2df4b03e0bebe7d4cfc52d14ec4b11ebb6f1575593c28147e3cdc68c3"), looks := false }, kinds := [], alts := [], laidByText := true, laidKinds := [.data, .data, .data, .widerDeep], laidTests := true, laidLooks := .later }
def QueryCheckTreeCardSaid : Prop := Claim7.holds Tryz.pinned (.plain (OpenSpec.ofChange queryCheckTreeSpec)) queryCheckTreeCard

/-- THE TIED CARD OF 'sealringlaw40.ExhaustCovered'. -/
def exhaustCoveredCard : Claim7 := { stood := { row := exhaustCoveredRow, standIns := [], harness := (true, "486c9dd2df4b03e0bebe7d4cfc52d14ec4b11ebb6f1575593c28147e3cdc68c3"), looks := false }, kinds := [], alts := [], laidByText := true, laidKinds := [.data, .data, .data, .data, .pinned], laidTests := true, laidLooks := .later }
def ExhaustCoveredCardSaid : Prop := Claim7.holds Tryz.pinned (.plain (OpenSpec.ofChange exhaustCoveredSpec)) exhaustCoveredCard

/-- THE SECOND FORM's CARD OF 'sealringlaw48.QuerySecret'. -/
def querySecretUptoCard : Claim7 := { stood := { row := querySecretUptoRow, standIns := [], harness := (true, "486c9dd2df4b03e0bebe7d4cfc52d14ec4b11ebb6f1575593c28147e3cdc68c3"), looks := false }, kinds := [], alts := [], laidByText := true, laidKinds := [.data, .data, .data, .widerDeep], laidTests := true, laidLooks := .later }
def QuerySecretUptoCardSaid : Prop := Claim7.holds Tryz.pinned (.plain (OpenSpec.upto querySecretSpec)) querySecretUptoCard

/-- THE SECOND FORM's CARD OF 'sealringlaw48.QueryAgree'. -/
def queryAgreeUptoCard : Claim7 := { stood := { row := queryAgreeUptoRow, standIns := [], harness := (true, "486c9dd2df4b03e0bebe7d4cfc52d14ec4b11ebb6f1575593c28147e3cdc68c3"), looks := false }, kinds := [], alts := [], laidByText := true, laidKinds := [.data, .data, .data, .widerDeep], laidTests := true, laidLooks := .later }
def QueryAgreeUptoCardSaid : Prop := Claim7.holds Tryz.pinned (.plain (OpenSpec.upto queryAgreeSpec)) queryAgreeUptoCard

/-- THE SECOND FORM's CARD OF 'sealringlaw48.QueryCheckTree'. -/
def queryCheckTreeUptoCard : Claim7 := { stood := { row := queryCheckTreeUptoRow, standIns := [], harness := (true, "486c9dd2df4b03e0bebe7d4cfc52d14ec4b11ebb6f1575593c28147e3cdc68c3"), looks := false }, kinds := [], alts := [], laidByText := true, laidKinds := [.data, .data, .data, .widerDeep], laidTests := true, laidLooks := .later }
def QueryCheckTreeUptoCardSaid : Prop := Claim7.holds Tryz.pinned (.plain (OpenSpec.upto queryCheckTreeSpec)) queryCheckTreeUptoCard

/-- THE SECOND FORM's CARD OF 'sealringlaw40.ExhaustCovered'. -/
def exhaustCoveredUptoCard : Claim7 := { stood := { row := exhaustCoveredUptoRow, standIns := [], harness := (true, "486c9dd2df4b03e0bebe7d4cfc52d14ec4b11ebb6f1575593c28147e3cdc68c3"), looks := false }, kinds := [], alts := [], laidByText := true, laidKinds := [.data, .data, .data, .data, .pinned], laidTests := true, laidLooks := .later }
def ExhaustCoveredUptoCardSaid : Prop := Claim7.holds Tryz.pinned (.plain (OpenSpec.upto exhaustCoveredSpec)) exhaustCoveredUptoCard
end Rows
end Go.Proofs.YtdoegkegjaadeaaGreatDoor
