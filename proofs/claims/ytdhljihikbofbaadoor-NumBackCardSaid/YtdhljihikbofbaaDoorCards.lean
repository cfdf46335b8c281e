/-
  DERIVED. GIVEN WITH THE SEED: THE CARDS: each row of YtdhljihikbofbaaDoorRows.lean that lists a variable, with what it lists TIED to the program's text (the seventh form; the later family's looks); each row that meets fmt, with fmt's text TOLD by the authors' own Lean function (tested against real Go, not proved from fmt's source: count such statements apart). THE CARD IS WHAT COUNTS. Prove the row's statement (the work); the ties are given (YtdhljihikbofbaaDoorTie.lean); close each card by the builder's one call (the guide's Derived/Test/ToyasCard.lean, 'card_holds'). Laid BY PROGRAM, IN A SANDBOX (cutbox-door.mjs). By AI agents, Wed Nov 11 2026. No macro, syntax, notation, axiom, sorry.
-/
import Derived.Test.YtdhljihikbofbaaDoorRows
import GoSem.ClaimSeven
namespace Go.Proofs.YtdhljihikbofbaaDoor
namespace Rows

/-- THE TIED CARD OF 'prolixlaw01.NumTexts'. -/
def numTextsCard : Claim7 := { stood := { row := numTextsRow, standIns := [], harness := (true, "bda2b3a4552f8f3f1ccdc90c5c72985f16ac5c73bf1317cfaa0b750a3575b5e6"), looks := false }, kinds := [], alts := [], laidByText := true, laidKinds := [.data, .data, .data], laidTests := true, laidLooks := .later }
def NumTextsCardSaid : Prop := Claim7.holds Tryd.pinned (.plain (OpenSpec.ofChange numTextsSpec)) numTextsCard

/-- THE TIED CARD OF 'prolixlaw01.NumDivides'. -/
def numDividesCard : Claim7 := { stood := { row := numDividesRow, standIns := [], harness := (true, "bda2b3a4552f8f3f1ccdc90c5c72985f16ac5c73bf1317cfaa0b750a3575b5e6"), looks := false }, kinds := [], alts := [], laidByText := true, laidKinds := [.data, .data, .data], laidTests := true, laidLooks := .later }
def NumDividesCardSaid : Prop := Claim7.holds Tryd.pinned (.plain (OpenSpec.ofChange numDividesSpec)) numDividesCard

/-- THE TIED CARD OF 'prolixlaw01.NumBack'. -/
def numBackCard : Claim7 := { stood := { row := numBackRow, standIns := [], harness := (true, "bda2b3a4552f8f3f1ccdc90c5c72985f16ac5c73bf1317cfaa0b750a3575b5e6"), looks := false }, kinds := [], alts := [], laidByText := true, laidKinds := [.data, .data, .data], laidTests := true, laidLooks := .later }
def NumBackCardSaid : Prop := Claim7.holds Tryd.pinned (.plain (OpenSpec.ofChange numBackSpec)) numBackCard

/-- THE TIED CARD OF 'prolixlaw01.NumShifts'. -/
def numShiftsCard : Claim7 := { stood := { row := numShiftsRow, standIns := [], harness := (true, "bda2b3a4552f8f3f1ccdc90c5c72985f16ac5c73bf1317cfaa0b750a3575b5e6"), looks := false }, kinds := [], alts := [], laidByText := true, laidKinds := [.data, .data, .data], laidTests := true, laidLooks := .later }
def NumShiftsCardSaid : Prop := Claim7.holds Tryd.pinned (.plain (OpenSpec.ofChange numShiftsSpec)) numShiftsCard

/-- THE TIED CARD OF 'prolixlaw01.NumPowers'. -/
def numPowersCard : Claim7 := { stood := { row := numPowersRow, standIns := [], harness := (true, "bda2b3a4552f8f3f1ccdc90c5c72985f16ac5c73bf1317cfaa0b750a3575b5e6"), looks := false }, kinds := [], alts := [], laidByText := true, laidKinds := [.data, .data, .data], laidTests := true, laidLooks := .later }
def NumPowersCardSaid : Prop := Claim7.holds Tryd.pinned (.plain (OpenSpec.ofChange numPowersSpec)) numPowersCard

/-- THE TIED CARD OF 'prolixlaw01.NumReckons'. -/
def numReckonsCard : Claim7 := { stood := { row := numReckonsRow, standIns := [], harness := (true, "bda2b3a4552f8f3f1ccdc90c5c72985f16ac5c73bf1317cfaa0b750a3575b5e6"), looks := false }, kinds := [], alts := [], laidByText := true, laidKinds := [.data, .data, .data], laidTests := true, laidLooks := .later }
def NumReckonsCardSaid : Prop := Claim7.holds Tryd.pinned (.plain (OpenSpec.ofChange numReckonsSpec)) numReckonsCard

/-- THE TIED CARD OF 'prolixlaw01.NumBits'. -/
def numBitsCard : Claim7 := { stood := { row := numBitsRow, standIns := [], harness := (true, "bda2b3a4552f8f3f1ccdc90c5c72985f16ac5c73bf1317cfaa0b750a3575b5e6"), looks := false }, kinds := [], alts := [], laidByText := true, laidKinds := [.data, .data, .data], laidTests := true, laidLooks := .later }
def NumBitsCardSaid : Prop := Claim7.holds Tryd.pinned (.plain (OpenSpec.ofChange numBitsSpec)) numBitsCard

/-- THE SECOND FORM's CARD OF 'prolixlaw01.NumTexts'. -/
def numTextsUptoCard : Claim7 := { stood := { row := numTextsUptoRow, standIns := [], harness := (true, "bda2b3a4552f8f3f1ccdc90c5c72985f16ac5c73bf1317cfaa0b750a3575b5e6"), looks := false }, kinds := [], alts := [], laidByText := true, laidKinds := [.data, .data, .data], laidTests := true, laidLooks := .later }
def NumTextsUptoCardSaid : Prop := Claim7.holds Tryd.pinned (.plain (OpenSpec.upto numTextsSpec)) numTextsUptoCard

/-- THE SECOND FORM's CARD OF 'prolixlaw01.NumDivides'. -/
def numDividesUptoCard : Claim7 := { stood := { row := numDividesUptoRow, standIns := [], harness := (true, "bda2b3a4552f8f3f1ccdc90c5c72985f16ac5c73bf1317cfaa0b750a3575b5e6"), looks := false }, kinds := [], alts := [], laidByText := true, laidKinds := [.data, .data, .data], laidTests := true, laidLooks := .later }
def NumDividesUptoCardSaid : Prop := Claim7.holds Tryd.pinned (.plain (OpenSpec.upto numDividesSpec)) numDividesUptoCard

/-- THE SECOND FORM's CARD OF 'prolixlaw01.NumBack'. -/
def numBackUptoCard : Claim7 := { stood := { row := numBackUptoRow, standIns := [], harness := (true, "bda2b3a4552f8f3f1ccdc90c5c72985f16ac5c73bf1317cfaa0b750a3575b5e6"), looks := false }, kinds := [], alts := [], laidByText := true, laidKinds := [.data, .data, .data], laidTests := true, laidLooks := .later }
def NumBackUptoCardSaid : Prop := Claim7.holds Tryd.pinned (.plain (OpenSpec.upto numBackSpec)) numBackUptoCard

/-- THE SECOND FORM's CARD OF 'prolixlaw01.NumShifts'. -/
def numShiftsUptoCard : Claim7 := { stood := { row := numShiftsUptoRow, standIns := [], harness := (true, "bda2b3a4552f8f3f1ccdc90c5c72985f16ac5c73bf1317cfaa0b750a3575b5e6"), looks := false }, kinds := [], alts := [], laidByText := true, laidKinds := [.data, .data, .data], laidTests := true, laidLooks := .later }
def NumShiftsUptoCardSaid : Prop := Claim7.holds Tryd.pinned (.plain (OpenSpec.upto numShiftsSpec)) numShiftsUptoCard

/-- THE SECOND FORM's CARD OF 'prolixlaw01.NumPowers'. -/
def numPowersUptoCard : Claim7 := { stood := { row := numPowersUptoRow, standIns := [], harness := (true, "bda2b3a4552f8f3f1ccdc90c5c72985f16ac5c73bf1317cfaa0b750a3575b5e6"), looks := false }, kinds := [], alts := [], laidByText := true, laidKinds := [.data, .data, .data], laidTests := true, laidLooks := .later }
def NumPowersUptoCardSaid : Prop := Claim7.holds Tryd.pinned (.plain (OpenSpec.upto numPowersSpec)) numPowersUptoCard

/-- THE SECOND FORM's CARD OF 'prolixlaw01.NumReckons'. -/
def numReckonsUptoCard : Claim7 := { stood := { row := numReckonsUptoRow, standIns := [], harness := (true, "bda2b3a4552f8f3f1ccdc90c5c72985f16ac5c73bf1317cfaa0b750a3575b5e6"), looks := false }, kinds := [], alts := [], laidByText := true, laidKinds := [.data, .data, .data], laidTests := true, laidLooks := .later }
def NumReckonsUptoCardSaid : Prop := Claim7.holds Tryd.pinned (.plain (OpenSpec.upto numReckonsSpec)) numReckonsUptoCard

/-- THE SECOND FORM's CARD OF 'prolixlaw01.NumBits'. -/
def numBitsUptoCard : Claim7 := { stood := { row := numBitsUptoRow, standIns := [], harness := (true, "bda2b3a4552f8f3f1ccdc90c5c72985f16ac5c73bf1317cfaa0b750a3575b5e6"), looks := false }, kinds := [], alts := [], laidByText := true, laidKinds := [.data, .data, .data], laidTests := true, laidLooks := .later }
def NumBitsUptoCardSaid : Prop := Claim7.holds Tryd.pinned (.plain (OpenSpec.upto numBitsSpec)) numBitsUptoCard
end Rows
end Go.Proofs.YtdhljihikbofbaaDoor
