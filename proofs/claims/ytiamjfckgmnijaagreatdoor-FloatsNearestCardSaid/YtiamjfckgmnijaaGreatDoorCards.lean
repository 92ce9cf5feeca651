/-
  DERIVED. GIVEN WITH THE SEED: THE CARDS: each row of YtiamjfckgmnijaaGreatDoorRows.lean that lists a variable, with what it lists TIED to the program's text (the seventh form; the later family's looks); each row that meets fmt, with fmt's text TOLD by the authors' own Lean function (tested against real Go, not proved from fmt's source: count such statements apart). THE CARD IS WHAT COUNTS. Prove the row's statement (the work); the ties are given (YtiamjfckgmnijaaGreatDoorTie.lean); close each card by the builder's one call (the guide's Derived/Test/ToyasCard.lean, 'card_holds'). Laid BY PROGRAM, IN A SANDBOX (cutbox-door.mjs). By AI agents, Wed Nov 11 2026. No macro, syntax, notation, axiom, sorry.
-/
import Derived.Test.YtiamjfckgmnijaaGreatDoorRows
import GoSem.ClaimSeven
namespace Go.Proofs.YtiamjfckgmnijaaGreatDoor
namespace Rows

/-- THE TIED CARD OF 'sibyllaw03.FloatsExact'. -/
def floatsExactCard : Claim7 := { stood := { row := floatsExactRow, standIns := [], harness := (true, "34eb6fb83b291a50532ed449f1ea5d18d9a1b120b4f0aab42ac82192b3be2fd5"), looks := true }, kinds := [], alts := [], laidByText := true, laidKinds := [.data, .data, .data, .sentinel, .sentinel], laidTests := true, laidLooks := .later }
def FloatsExactCardSaid : Prop := Claim7.holds Tryz.pinned (.plain (OpenSpec.ofChange floatsExactSpec)) floatsExactCard

/-- THE TIED CARD OF 'sibyllaw03.FloatsNear'. -/
def floatsNearCard : Claim7 := { stood := { row := floatsNearRow, standIns := [], harness := (true, "34eb6fb83b291a50532ed449f1ea5d18d9a1b120b4f0aab42ac82192b3be2fd5"), looks := true }, kinds := [], alts := [], laidByText := true, laidKinds := [.data, .data, .data, .sentinel, .sentinel], laidTests := true, laidLooks := .later }
def FloatsNearCardSaid : Prop := Claim7.holds Tryz.pinned (.plain (OpenSpec.ofChange floatsNearSpec)) floatsNearCard

/-- THE TIED CARD OF 'sibyllaw03.FloatsNearest'. -/
def floatsNearestCard : Claim7 := { stood := { row := floatsNearestRow, standIns := [], harness := (true, "34eb6fb83b291a50532ed449f1ea5d18d9a1b120b4f0aab42ac82192b3be2fd5"), looks := true }, kinds := [], alts := [], laidByText := true, laidKinds := [.data, .data, .data, .sentinel, .sentinel], laidTests := true, laidLooks := .later }
def FloatsNearestCardSaid : Prop := Claim7.holds Tryz.pinned (.plain (OpenSpec.ofChange floatsNearestSpec)) floatsNearestCard

/-- THE SECOND FORM's CARD OF 'sibyllaw03.FloatsExact'. -/
def floatsExactUptoCard : Claim7 := { stood := { row := floatsExactUptoRow, standIns := [], harness := (true, "34eb6fb83b291a50532ed449f1ea5d18d9a1b120b4f0aab42ac82192b3be2fd5"), looks := true }, kinds := [], alts := [], laidByText := true, laidKinds := [.data, .data, .data, .sentinel, .sentinel], laidTests := true, laidLooks := .later }
def FloatsExactUptoCardSaid : Prop := Claim7.holds Tryz.pinned (.plain (OpenSpec.upto floatsExactSpec)) floatsExactUptoCard

/-- THE SECOND FORM's CARD OF 'sibyllaw03.FloatsNear'. -/
def floatsNearUptoCard : Claim7 := { stood := { row := floatsNearUptoRow, standIns := [], harness := (true, "34eb6fb83b291a50532ed449f1ea5d18d9a1b120b4f0aab42ac82192b3be2fd5"), looks := true }, kinds := [], alts := [], laidByText := true, laidKinds := [.data, .data, .data, .sentinel, .sentinel], laidTests := true, laidLooks := .later }
def FloatsNearUptoCardSaid : Prop := Claim7.holds Tryz.pinned (.plain (OpenSpec.upto floatsNearSpec)) floatsNearUptoCard

/-- THE SECOND FORM's CARD OF 'sibyllaw03.FloatsNearest'. -/
def floatsNearestUptoCard : Claim7 := { stood := { row := floatsNearestUptoRow, standIns := [], harness := (true, "34eb6fb83b291a50532ed449f1ea5d18d9a1b120b4f0aab42ac82192b3be2fd5"), looks := true }, kinds := [], alts := [], laidByText := true, laidKinds := [.data, .data, .data, .sentinel, .sentinel], laidTests := true, laidLooks := .later }
def FloatsNearestUptoCardSaid : Prop := Claim7.holds Tryz.pinned (.plain (OpenSpec.upto floatsNearestSpec)) floatsNearestUptoCard
end Rows
end Go.Proofs.YtiamjfckgmnijaaGreatDoor
