/-
  DERIVED. GIVEN WITH THE SEED: THE CARDS: each row of YtiamjfckgmnijaaDoorRows.lean that lists a variable, with what it lists TIED to the program's text (the seventh form; the later family's looks); each row that meets fmt, with fmt's text TOLD by the authors' own Lean function (tested against real Go, not proved from fmt's source: count such statements apart). THE CARD IS WHAT COUNTS. Prove the row's statement (the work); the ties are given (YtiamjfckgmnijaaDoorTie.lean); close each card by the builder's one call (the guide's Derived/Test/ToyasCard.lean, 'card_holds'). Laid BY PROGRAM, IN A SANDBOX (cutbox-door.mjs). By AI agents, Wed Nov 11 2026. No macro, syntax, notation, axiom, sorry.
-/
import Derived.Test.YtiamjfckgmnijaaDoorRows
import GoSem.ClaimSeven
namespace Go.Proofs.YtiamjfckgmnijaaDoor
namespace Rows

/-- THE TIED CARD OF 'sibyllaw03.FloatsClasses'. -/
def floatsClassesCard : Claim7 := { stood := { row := floatsClassesRow, standIns := [], harness := (true, "e7cf302a6ba7b599ceeff90b7fc152b468cfc93eecaa7fba973e5b862deb4a22"), looks := true }, kinds := [], alts := [], laidByText := true, laidKinds := [.data, .data, .data, .sentinel, .sentinel], laidTests := true, laidLooks := .later }
def FloatsClassesCardSaid : Prop := Claim7.holds Tryd.pinned (.plain (OpenSpec.ofChange floatsClassesSpec)) floatsClassesCard

/-- THE TIED CARD OF 'sibyllaw03.FloatsParts'. -/
def floatsPartsCard : Claim7 := { stood := { row := floatsPartsRow, standIns := [], harness := (true, "e7cf302a6ba7b599ceeff90b7fc152b468cfc93eecaa7fba973e5b862deb4a22"), looks := true }, kinds := [], alts := [], laidByText := true, laidKinds := [.data, .data, .data, .sentinel, .sentinel], laidTests := true, laidLooks := .later }
def FloatsPartsCardSaid : Prop := Claim7.holds Tryd.pinned (.plain (OpenSpec.ofChange floatsPartsSpec)) floatsPartsCard

/-- THE TIED CARD OF 'sibyllaw03.FloatsJoins'. -/
def floatsJoinsCard : Claim7 := { stood := { row := floatsJoinsRow, standIns := [], harness := (true, "e7cf302a6ba7b599ceeff90b7fc152b468cfc93eecaa7fba973e5b862deb4a22"), looks := true }, kinds := [], alts := [], laidByText := true, laidKinds := [.data, .data, .data, .sentinel, .sentinel], laidTests := true, laidLooks := .later }
def FloatsJoinsCardSaid : Prop := Claim7.holds Tryd.pinned (.plain (OpenSpec.ofChange floatsJoinsSpec)) floatsJoinsCard

/-- THE TIED CARD OF 'sibyllaw03.FloatsNeighbours'. -/
def floatsNeighboursCard : Claim7 := { stood := { row := floatsNeighboursRow, standIns := [], harness := (true, "e7cf302a6ba7b599ceeff90b7fc152b468cfc93eecaa7fba973e5b862deb4a22"), looks := true }, kinds := [], alts := [], laidByText := true, laidKinds := [.data, .data, .data, .sentinel, .sentinel], laidTests := true, laidLooks := .later }
def FloatsNeighboursCardSaid : Prop := Claim7.holds Tryd.pinned (.plain (OpenSpec.ofChange floatsNeighboursSpec)) floatsNeighboursCard

/-- THE TIED CARD OF 'sibyllaw03.FloatsTexts'. -/
def floatsTextsCard : Claim7 := { stood := { row := floatsTextsRow, standIns := [], harness := (true, "e7cf302a6ba7b599ceeff90b7fc152b468cfc93eecaa7fba973e5b862deb4a22"), looks := true }, kinds := [], alts := [], laidByText := true, laidKinds := [.data, .data, .data, .sentinel, .sentinel], laidTests := true, laidLooks := .later }
def FloatsTextsCardSaid : Prop := Claim7.holds Tryd.pinned (.plain (OpenSpec.ofChange floatsTextsSpec)) floatsTextsCard

/-- THE TIED CARD OF 'sibyllaw03.FloatsBack'. -/
def floatsBackCard : Claim7 := { stood := { row := floatsBackRow, standIns := [], harness := (true, "e7cf302a6ba7b599ceeff90b7fc152b468cfc93eecaa7fba973e5b862deb4a22"), looks := true }, kinds := [], alts := [], laidByText := true, laidKinds := [.data, .data, .data, .sentinel, .sentinel], laidTests := true, laidLooks := .later }
def FloatsBackCardSaid : Prop := Claim7.holds Tryd.pinned (.plain (OpenSpec.ofChange floatsBackSpec)) floatsBackCard

/-- THE SECOND FORM's CARD OF 'sibyllaw03.FloatsClasses'. -/
def floatsClassesUptoCard : Claim7 := { stood := { row := floatsClassesUptoRow, standIns := [], harness := (true, "e7cf302a6ba7b599ceeff90b7fc152b468cfc93eecaa7fba973e5b862deb4a22"), looks := true }, kinds := [], alts := [], laidByText := true, laidKinds := [.data, .data, .data, .sentinel, .sentinel], laidTests := true, laidLooks := .later }
def FloatsClassesUptoCardSaid : Prop := Claim7.holds Tryd.pinned (.plain (OpenSpec.upto floatsClassesSpec)) floatsClassesUptoCard

/-- THE SECOND FORM's CARD OF 'sibyllaw03.FloatsParts'. -/
def floatsPartsUptoCard : Claim7 := { stood := { row := floatsPartsUptoRow, standIns := [], harness := (true, "e7cf302a6ba7b599ceeff90b7fc152b468cfc93eecaa7fba973e5b862deb4a22"), looks := true }, kinds := [], alts := [], laidByText := true, laidKinds := [.data, .data, .data, .sentinel, .sentinel], laidTests := true, laidLooks := .later }
def FloatsPartsUptoCardSaid : Prop := Claim7.holds Tryd.pinned (.plain (OpenSpec.upto floatsPartsSpec)) floatsPartsUptoCard

/-- THE SECOND FORM's CARD OF 'sibyllaw03.FloatsJoins'. -/
def floatsJoinsUptoCard : Claim7 := { stood := { row := floatsJoinsUptoRow, standIns := [], harness := (true, "e7cf302a6ba7b599ceeff90b7fc152b468cfc93eecaa7fba973e5b862deb4a22"), looks := true }, kinds := [], alts := [], laidByText := true, laidKinds := [.data, .data, .data, .sentinel, .sentinel], laidTests := true, laidLooks := .later }
def FloatsJoinsUptoCardSaid : Prop := Claim7.holds Tryd.pinned (.plain (OpenSpec.upto floatsJoinsSpec)) floatsJoinsUptoCard

/-- THE SECOND FORM's CARD OF 'sibyllaw03.FloatsNeighbours'. -/
def floatsNeighboursUptoCard : Claim7 := { stood := { row := floatsNeighboursUptoRow, standIns := [], harness := (true, "e7cf302a6ba7b599ceeff90b7fc152b468cfc93eecaa7fba973e5b862deb4a22"), looks := true }, kinds := [], alts := [], laidByText := true, laidKinds := [.data, .data, .data, .sentinel, .sentinel], laidTests := true, laidLooks := .later }
def FloatsNeighboursUptoCardSaid : Prop := Claim7.holds Tryd.pinned (.plain (OpenSpec.upto floatsNeighboursSpec)) floatsNeighboursUptoCard

/-- THE SECOND FORM's CARD OF 'sibyllaw03.FloatsTexts'. -/
def floatsTextsUptoCard : Claim7 := { stood := { row := floatsTextsUptoRow, standIns := [], harness := (true, "e7cf302a6ba7b599ceeff90b7fc152b468cfc93eecaa7fba973e5b862deb4a22"), looks := true }, kinds := [], alts := [], laidByText := true, laidKinds := [.data, .data, .data, .sentinel, .sentinel], laidTests := true, laidLooks := .later }
def FloatsTextsUptoCardSaid : Prop := Claim7.holds Tryd.pinned (.plain (OpenSpec.upto floatsTextsSpec)) floatsTextsUptoCard

/-- THE SECOND FORM's CARD OF 'sibyllaw03.FloatsBack'. -/
def floatsBackUptoCard : Claim7 := { stood := { row := floatsBackUptoRow, standIns := [], harness := (true, "e7cf302a6ba7b599ceeff90b7fc152b468cfc93eecaa7fba973e5b862deb4a22"), looks := true }, kinds := [], alts := [], laidByText := true, laidKinds := [.data, .data, .data, .sentinel, .sentinel], laidTests := true, laidLooks := .later }
def FloatsBackUptoCardSaid : Prop := Claim7.holds Tryd.pinned (.plain (OpenSpec.upto floatsBackSpec)) floatsBackUptoCard
end Rows
end Go.Proofs.YtiamjfckgmnijaaDoor
