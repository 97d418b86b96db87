/-
  DERIVED. GIVEN WITH THE SEED: THE CARDS: each row of YtjfkhhfdfebpeaaGreatDoorRows.lean that lists a variable, with what it lists TIED to the program's text (the seventh form; the later family's looks); each row that meets fmt, with fmt's text TOLD by the authors' own Lean function (tested against real Go, not proved from fmt's source: count such statements apart). THE CARD IS WHAT COUNTS. Prove the row's statement (the work); the ties are given (YtjfkhhfdfebpeaaGreatDoorTie.lean); close each card by the builder's one call (the guide's Derived/Test/ToyasCard.lean, 'card_holds'). Laid BY PROGRAM, IN A SANDBOX (cutbox-door.mjs). By AI agents, Wed Nov 11 2026. No macro, syntax, notation, axiom, sorry.
-/
import Derived.Test.YtjfkhhfdfebpeaaGreatDoorRows
import GoSem.ClaimSeven
namespace Go.Proofs.YtjfkhhfdfebpeaaGreatDoor
namespace Rows

/-- THE TIED CARD OF 'proofprogramslaw20.TranslateDoes'. -/
def translateDoesCard : Claim7 := { stood := { row := translateDoesRow, standIns := [], harness := (true, "4a5b0fd9477dc29552b34949e6965fd94b528077639e8fc4f9a5c4fe34292273"), looks := true }, kinds := [], alts := [], laidByText := true, laidKinds := [.data], laidTests := true, laidLooks := .later }
def TranslateDoesCardSaid : Prop := Claim7.holds Tryz.pinned (.plain (OpenSpec.ofChange translateDoesSpec)) translateDoesCard

/-- THE TIED CARD OF 'proofprogramslaw20.TranslatePuts'. -/
def translatePutsCard : Claim7 := { stood := { row := translatePutsRow, standIns := [], harness := (true, "4a5b0fd9477dc29552b34949e6965fd94b528077639e8fc4f9a5c4fe34292273"), looks := true }, kinds := [], alts := [], laidByText := true, laidKinds := [.data], laidTests := true, laidLooks := .later }
def TranslatePutsCardSaid : Prop := Claim7.holds Tryz.pinned (.plain (OpenSpec.ofChange translatePutsSpec)) translatePutsCard

/-- THE TIED CARD OF 'proofprogramslaw20.TranslateWitness'. -/
def translateWitnessCard : Claim7 := { stood := { row := translateWitnessRow, standIns := [], harness := (true, "4a5b0fd9477dc29552b34949e6965fd94b528077639e8fc4f9a5c4fe34292273"), looks := true }, kinds := [], alts := [], laidByText := true, laidKinds := [.data, .data], laidTests := true, laidLooks := .later }
def TranslateWitnessCardSaid : Prop := Claim7.holds Tryz.pinned (.plain (OpenSpec.ofChange translateWitnessSpec)) translateWitnessCard

/-- THE TIED CARD OF 'proofprogramslaw20.TranslateStable'. -/
def translateStableCard : Claim7 := { stood := { row := translateStableRow, standIns := [], harness := (true, "4a5b0fd9477dc29552b34949e6965fd94b528077639e8fc4f9a5c4fe34292273"), looks := true }, kinds := [], alts := [], laidByText := true, laidKinds := [.data, .data], laidTests := true, laidLooks := .later }
def TranslateStableCardSaid : Prop := Claim7.holds Tryz.pinned (.plain (OpenSpec.ofChange translateStableSpec)) translateStableCard

/-- THE SECOND FORM's CARD OF 'proofprogramslaw20.TranslateDoes'. -/
def translateDoesUptoCard : Claim7 := { stood := { row := translateDoesUptoRow, standIns := [], harness := (true, "4a5b0fd9477dc29552b34949e6965fd94b528077639e8fc4f9a5c4fe34292273"), looks := true }, kinds := [], alts := [], laidByText := true, laidKinds := [.data], laidTests := true, laidLooks := .later }
def TranslateDoesUptoCardSaid : Prop := Claim7.holds Tryz.pinned (.plain (OpenSpec.upto translateDoesSpec)) translateDoesUptoCard

/-- THE SECOND FORM's CARD OF 'proofprogramslaw20.TranslatePuts'. -/
def translatePutsUptoCard : Claim7 := { stood := { row := translatePutsUptoRow, standIns := [], harness := (true, "4a5b0fd9477dc29552b34949e6965fd94b528077639e8fc4f9a5c4fe34292273"), looks := true }, kinds := [], alts := [], laidByText := true, laidKinds := [.data], laidTests := true, laidLooks := .later }
def TranslatePutsUptoCardSaid : Prop := Claim7.holds Tryz.pinned (.plain (OpenSpec.upto translatePutsSpec)) translatePutsUptoCard

/-- THE SECOND FORM's CARD OF 'proofprogramslaw20.TranslateWitness'. -/
def translateWitnessUptoCard : Claim7 := { stood := { row := translateWitnessUptoRow, standIns := [], harness := (true, "4a5b0fd9477dc29552b34949e6965fd94b528077639e8fc4f9a5c4fe34292273"), looks := true }, kinds := [], alts := [], laidByText := true, laidKinds := [.data, .data], laidTests := true, laidLooks := .later }
def TranslateWitnessUptoCardSaid : Prop := Claim7.holds Tryz.pinned (.plain (OpenSpec.upto translateWitnessSpec)) translateWitnessUptoCard

/-- THE SECOND FORM's CARD OF 'proofprogramslaw20.TranslateStable'. -/
def translateStableUptoCard : Claim7 := { stood := { row := translateStableUptoRow, standIns := [], harness := (true, "4a5b0fd9477dc29552b34949e6965fd94b528077639e8fc4f9a5c4fe34292273"), looks := true }, kinds := [], alts := [], laidByText := true, laidKinds := [.data, .data], laidTests := true, laidLooks := .later }
def TranslateStableUptoCardSaid : Prop := Claim7.holds Tryz.pinned (.plain (OpenSpec.upto translateStableSpec)) translateStableUptoCard
end Rows
end Go.Proofs.YtjfkhhfdfebpeaaGreatDoor
