/-
  DERIVED. GIVEN WITH THE SEED: THE CARDS: each row of YtohfgfmekciekaaDoorRows.lean that lists a variable, with what it lists TIED to the program's text (the seventh form; the later family's looks); each row that meets fmt, with fmt's text TOLD by the authors' own Lean function (tested against real Go, not proved from fmt's source: count such statements apart). THE CARD IS WHAT COUNTS. Prove the row's statement (the work); the ties are given (YtohfgfmekciekaaDoorTie.lean); close each card by the builder's one call (the guide's Derived/Test/ToyasCard.lean, 'card_holds'). Laid BY PROGRAM, IN A SANDBOX (cutbox-door.mjs). By AI agents, Wed Nov 11 2026. No macro, syntax, notation, axiom, sorry.
-/
import Derived.Test.YtohfgfmekciekaaDoorRows
import GoSem.ClaimSeven
namespace Go.Proofs.YtohfgfmekciekaaDoor
namespace Rows

/-- THE TIED CARD OF 'prolixlaw02.NamePuts'. -/
def namePutsCard : Claim7 := { stood := { row := namePutsRow, standIns := [], harness := (true, "376ed0a46431b8d0f319e5b8a992316fe4cc7566d05b0eb88ab8bbaa717f80da"), looks := false }, kinds := [], alts := [], laidByText := true, laidKinds := [.data, .data, .data], laidTests := true, laidLooks := .later }
def NamePutsCardSaid : Prop := Claim7.holds Tryd.pinned (.plain (OpenSpec.ofChange namePutsSpec)) namePutsCard

/-- THE TIED CARD OF 'prolixlaw02.NameGets'. -/
def nameGetsCard : Claim7 := { stood := { row := nameGetsRow, standIns := [], harness := (true, "376ed0a46431b8d0f319e5b8a992316fe4cc7566d05b0eb88ab8bbaa717f80da"), looks := false }, kinds := [], alts := [], laidByText := true, laidKinds := [.data, .data, .data], laidTests := true, laidLooks := .later }
def NameGetsCardSaid : Prop := Claim7.holds Tryd.pinned (.plain (OpenSpec.ofChange nameGetsSpec)) nameGetsCard

/-- THE TIED CARD OF 'prolixlaw02.NameBack'. -/
def nameBackCard : Claim7 := { stood := { row := nameBackRow, standIns := [], harness := (true, "376ed0a46431b8d0f319e5b8a992316fe4cc7566d05b0eb88ab8bbaa717f80da"), looks := false }, kinds := [], alts := [], laidByText := true, laidKinds := [.data, .data, .data], laidTests := true, laidLooks := .later }
def NameBackCardSaid : Prop := Claim7.holds Tryd.pinned (.plain (OpenSpec.ofChange nameBackSpec)) nameBackCard

/-- THE TIED CARD OF 'prolixlaw02.NamePlain'. -/
def namePlainCard : Claim7 := { stood := { row := namePlainRow, standIns := [], harness := (true, "376ed0a46431b8d0f319e5b8a992316fe4cc7566d05b0eb88ab8bbaa717f80da"), looks := false }, kinds := [], alts := [], laidByText := true, laidKinds := [.data, .data, .data], laidTests := true, laidLooks := .later }
def NamePlainCardSaid : Prop := Claim7.holds Tryd.pinned (.plain (OpenSpec.ofChange namePlainSpec)) namePlainCard

/-- THE TIED CARD OF 'prolixlaw02.NameEscapes'. -/
def nameEscapesCard : Claim7 := { stood := { row := nameEscapesRow, standIns := [], harness := (true, "376ed0a46431b8d0f319e5b8a992316fe4cc7566d05b0eb88ab8bbaa717f80da"), looks := false }, kinds := [], alts := [], laidByText := true, laidKinds := [.data, .data, .data], laidTests := true, laidLooks := .later }
def NameEscapesCardSaid : Prop := Claim7.holds Tryd.pinned (.plain (OpenSpec.ofChange nameEscapesSpec)) nameEscapesCard

/-- THE TIED CARD OF 'prolixlaw02.NameBytes'. -/
def nameBytesCard : Claim7 := { stood := { row := nameBytesRow, standIns := [], harness := (true, "376ed0a46431b8d0f319e5b8a992316fe4cc7566d05b0eb88ab8bbaa717f80da"), looks := false }, kinds := [], alts := [], laidByText := true, laidKinds := [.data, .data, .data], laidTests := true, laidLooks := .later }
def NameBytesCardSaid : Prop := Claim7.holds Tryd.pinned (.plain (OpenSpec.ofChange nameBytesSpec)) nameBytesCard

/-- THE SECOND FORM's CARD OF 'prolixlaw02.NamePuts'. -/
def namePutsUptoCard : Claim7 := { stood := { row := namePutsUptoRow, standIns := [], harness := (true, "376ed0a46431b8d0f319e5b8a992316fe4cc7566d05b0eb88ab8bbaa717f80da"), looks := false }, kinds := [], alts := [], laidByText := true, laidKinds := [.data, .data, .data], laidTests := true, laidLooks := .later }
def NamePutsUptoCardSaid : Prop := Claim7.holds Tryd.pinned (.plain (OpenSpec.upto namePutsSpec)) namePutsUptoCard

/-- THE SECOND FORM's CARD OF 'prolixlaw02.NameGets'. -/
def nameGetsUptoCard : Claim7 := { stood := { row := nameGetsUptoRow, standIns := [], harness := (true, "376ed0a46431b8d0f319e5b8a992316fe4cc7566d05b0eb88ab8bbaa717f80da"), looks := false }, kinds := [], alts := [], laidByText := true, laidKinds := [.data, .data, .data], laidTests := true, laidLooks := .later }
def NameGetsUptoCardSaid : Prop := Claim7.holds Tryd.pinned (.plain (OpenSpec.upto nameGetsSpec)) nameGetsUptoCard

/-- THE SECOND FORM's CARD OF 'prolixlaw02.NameBack'. -/
def nameBackUptoCard : Claim7 := { stood := { row := nameBackUptoRow, standIns := [], harness := (true, "376ed0a46431b8d0f319e5b8a992316fe4cc7566d05b0eb88ab8bbaa717f80da"), looks := false }, kinds := [], alts := [], laidByText := true, laidKinds := [.data, .data, .data], laidTests := true, laidLooks := .later }
def NameBackUptoCardSaid : Prop := Claim7.holds Tryd.pinned (.plain (OpenSpec.upto nameBackSpec)) nameBackUptoCard

/-- THE SECOND FORM's CARD OF 'prolixlaw02.NamePlain'. -/
def namePlainUptoCard : Claim7 := { stood := { row := namePlainUptoRow, standIns := [], harness := (true, "376ed0a46431b8d0f319e5b8a992316fe4cc7566d05b0eb88ab8bbaa717f80da"), looks := false }, kinds := [], alts := [], laidByText := true, laidKinds := [.data, .data, .data], laidTests := true, laidLooks := .later }
def NamePlainUptoCardSaid : Prop := Claim7.holds Tryd.pinned (.plain (OpenSpec.upto namePlainSpec)) namePlainUptoCard

/-- THE SECOND FORM's CARD OF 'prolixlaw02.NameEscapes'. -/
def nameEscapesUptoCard : Claim7 := { stood := { row := nameEscapesUptoRow, standIns := [], harness := (true, "376ed0a46431b8d0f319e5b8a992316fe4cc7566d05b0eb88ab8bbaa717f80da"), looks := false }, kinds := [], alts := [], laidByText := true, laidKinds := [.data, .data, .data], laidTests := true, laidLooks := .later }
def NameEscapesUptoCardSaid : Prop := Claim7.holds Tryd.pinned (.plain (OpenSpec.upto nameEscapesSpec)) nameEscapesUptoCard

/-- THE SECOND FORM's CARD OF 'prolixlaw02.NameBytes'. -/
def nameBytesUptoCard : Claim7 := { stood := { row := nameBytesUptoRow, standIns := [], harness := (true, "376ed0a46431b8d0f319e5b8a992316fe4cc7566d05b0eb88ab8bbaa717f80da"), looks := false }, kinds := [], alts := [], laidByText := true, laidKinds := [.data, .data, .data], laidTests := true, laidLooks := .later }
def NameBytesUptoCardSaid : Prop := Claim7.holds Tryd.pinned (.plain (OpenSpec.upto nameBytesSpec)) nameBytesUptoCard
end Rows
end Go.Proofs.YtohfgfmekciekaaDoor
