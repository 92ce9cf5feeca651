/-
  No cell of these rows narrows 'for every input' (looked for: loops, veiled, ifaces, maps, wideKeys, modest, calm, conditions, laid).
  DERIVED. THE GIVEN ROWS OF THIS SEAT. 17 by the template 'for every input the law returns true; each argument reads behind the call as it read before'; 0 by the template 'total and deterministic' (their statements: YtgffficaoioljaaTotals.lean).
  GIVEN WITH THE SEED: the statements are not yours to turn. If you find one false, say at which input.
  Laid BY PROGRAM, IN A SANDBOX (cutbox-rows.mjs): the forced cells as the released guide's own fill.sh prints them over the translation 81aade4798faa68c… (all of the seat's roots in one cut). By AI agents, Wed Nov 11 2026. No macro, syntax, notation, axiom, sorry.
-/
import Derived.Test.YtgffficaoioljaaChecked
import GoSem.Claim
import GoSem.ClaimJoined
import GoSem.ClaimMapViews
import Derived.JoinedTies
import Derived.KernelRfl
namespace Go.Proofs.Ytgffficaoioljaa
/- THE CELL 'sum', in the pinned program and in every row, IS THE sha256 OF THE DUMP (.gsa) THAT YtgffficaoioljaaProg.lean LOADS. Nothing in Lean hashes anything: it is a label: what it is worth is what the hold of that sum in a sandbox is worth. -/
noncomputable def Try.pinned : Pinned := { name := "ytgffficaoioljaa", sum := "81aade4798faa68caf8feb3b02b875f8877242255e01720bda53e8f8ac570272", checked := Try.checked }
namespace Rows
def none {H : Type} : Left H := { results := [], args := [] }

/-- 'sibyllaw01.LimbProducts': WHATEVER THE INPUT: true; the input reads as it did. -/
def limbProductsSpec : ChangeSpec := { name := "limbProducts", fn := fun _ => fun
  | [d1, d2] => { results := [.lit (.bool true)], args := [d1, d2] }
  | _ => none }
def limbProductsRow : OpenClaim := { program := "ytgffficaoioljaa", sum := "81aade4798faa68caf8feb3b02b875f8877242255e01720bda53e8f8ac570272", func := "sibyl/sibyllaw01.LimbProducts", spec := "limbProducts", apart := false }
def LimbProductsSaid : Prop := limbProductsRow.holds Try.pinned (OpenSpec.ofChange limbProductsSpec)

/-- ITS FALSE NEIGHBOUR: 'it returns false'. Refute it at one input. -/
def limbProductsWrong : ChangeSpec := { name := "limbProducts", fn := fun _ => fun
  | [d1, d2] => { results := [.lit (.bool false)], args := [d1, d2] }
  | _ => none }
def LimbProductsWrongFalsely : Prop := limbProductsRow.holds Try.pinned (OpenSpec.ofChange limbProductsWrong)

/-- 'sibyllaw01.LimbDivides': WHATEVER THE INPUT: true; the input reads as it did. -/
def limbDividesSpec : ChangeSpec := { name := "limbDivides", fn := fun _ => fun
  | [d1, d2] => { results := [.lit (.bool true)], args := [d1, d2] }
  | _ => none }
def limbDividesRow : OpenClaim := { program := "ytgffficaoioljaa", sum := "81aade4798faa68caf8feb3b02b875f8877242255e01720bda53e8f8ac570272", func := "sibyl/sibyllaw01.LimbDivides", spec := "limbDivides", apart := false }
def LimbDividesSaid : Prop := limbDividesRow.holds Try.pinned (OpenSpec.ofChange limbDividesSpec)

/-- ITS FALSE NEIGHBOUR: 'it returns false'. Refute it at one input. -/
def limbDividesWrong : ChangeSpec := { name := "limbDivides", fn := fun _ => fun
  | [d1, d2] => { results := [.lit (.bool false)], args := [d1, d2] }
  | _ => none }
def LimbDividesWrongFalsely : Prop := limbDividesRow.holds Try.pinned (OpenSpec.ofChange limbDividesWrong)

/-- 'sibyllaw01.LimbTexts': WHATEVER THE INPUT: true; the input reads as it did. -/
def limbTextsSpec : ChangeSpec := { name := "limbTexts", fn := fun _ => fun
  | [d1, d2] => { results := [.lit (.bool true)], args := [d1, d2] }
  | _ => none }
def limbTextsRow : OpenClaim := { program := "ytgffficaoioljaa", sum := "81aade4798faa68caf8feb3b02b875f8877242255e01720bda53e8f8ac570272", func := "sibyl/sibyllaw01.LimbTexts", spec := "limbTexts", apart := false }
def LimbTextsSaid : Prop := limbTextsRow.holds Try.pinned (OpenSpec.ofChange limbTextsSpec)

/-- ITS FALSE NEIGHBOUR: 'it returns false'. Refute it at one input. -/
def limbTextsWrong : ChangeSpec := { name := "limbTexts", fn := fun _ => fun
  | [d1, d2] => { results := [.lit (.bool false)], args := [d1, d2] }
  | _ => none }
def LimbTextsWrongFalsely : Prop := limbTextsRow.holds Try.pinned (OpenSpec.ofChange limbTextsWrong)

/-- 'sibyllaw01.LimbDivided': WHATEVER THE INPUT: true; the input reads as it did. -/
def limbDividedSpec : ChangeSpec := { name := "limbDivided", fn := fun _ => fun
  | [d1, d2] => { results := [.lit (.bool true)], args := [d1, d2] }
  | _ => none }
def limbDividedRow : OpenClaim := { program := "ytgffficaoioljaa", sum := "81aade4798faa68caf8feb3b02b875f8877242255e01720bda53e8f8ac570272", func := "sibyl/sibyllaw01.LimbDivided", spec := "limbDivided", apart := false }
def LimbDividedSaid : Prop := limbDividedRow.holds Try.pinned (OpenSpec.ofChange limbDividedSpec)

/-- ITS FALSE NEIGHBOUR: 'it returns false'. Refute it at one input. -/
def limbDividedWrong : ChangeSpec := { name := "limbDivided", fn := fun _ => fun
  | [d1, d2] => { results := [.lit (.bool false)], args := [d1, d2] }
  | _ => none }
def LimbDividedWrongFalsely : Prop := limbDividedRow.holds Try.pinned (OpenSpec.ofChange limbDividedWrong)

/-- 'sibyllaw01.LimbForms': WHATEVER THE INPUT: true; the input reads as it did. -/
def limbFormsSpec : ChangeSpec := { name := "limbForms", fn := fun _ => fun
  | [d1, d2] => { results := [.lit (.bool true)], args := [d1, d2] }
  | _ => none }
def limbFormsRow : OpenClaim := { program := "ytgffficaoioljaa", sum := "81aade4798faa68caf8feb3b02b875f8877242255e01720bda53e8f8ac570272", func := "sibyl/sibyllaw01.LimbForms", spec := "limbForms", apart := false }
def LimbFormsSaid : Prop := limbFormsRow.holds Try.pinned (OpenSpec.ofChange limbFormsSpec)

/-- ITS FALSE NEIGHBOUR: 'it returns false'. Refute it at one input. -/
def limbFormsWrong : ChangeSpec := { name := "limbForms", fn := fun _ => fun
  | [d1, d2] => { results := [.lit (.bool false)], args := [d1, d2] }
  | _ => none }
def LimbFormsWrongFalsely : Prop := limbFormsRow.holds Try.pinned (OpenSpec.ofChange limbFormsWrong)

/-- 'sibyllaw01.LimbGcds': WHATEVER THE INPUT: true; the input reads as it did. -/
def limbGcdsSpec : ChangeSpec := { name := "limbGcds", fn := fun _ => fun
  | [d1, d2] => { results := [.lit (.bool true)], args := [d1, d2] }
  | _ => none }
def limbGcdsRow : OpenClaim := { program := "ytgffficaoioljaa", sum := "81aade4798faa68caf8feb3b02b875f8877242255e01720bda53e8f8ac570272", func := "sibyl/sibyllaw01.LimbGcds", spec := "limbGcds", apart := false }
def LimbGcdsSaid : Prop := limbGcdsRow.holds Try.pinned (OpenSpec.ofChange limbGcdsSpec)

/-- ITS FALSE NEIGHBOUR: 'it returns false'. Refute it at one input. -/
def limbGcdsWrong : ChangeSpec := { name := "limbGcds", fn := fun _ => fun
  | [d1, d2] => { results := [.lit (.bool false)], args := [d1, d2] }
  | _ => none }
def LimbGcdsWrongFalsely : Prop := limbGcdsRow.holds Try.pinned (OpenSpec.ofChange limbGcdsWrong)

/-- 'sibyllaw01.LimbOwn': WHATEVER THE INPUT: true; the input reads as it did. -/
def limbOwnSpec : ChangeSpec := { name := "limbOwn", fn := fun _ => fun
  | [d1, d2] => { results := [.lit (.bool true)], args := [d1, d2] }
  | _ => none }
def limbOwnRow : OpenClaim := { program := "ytgffficaoioljaa", sum := "81aade4798faa68caf8feb3b02b875f8877242255e01720bda53e8f8ac570272", func := "sibyl/sibyllaw01.LimbOwn", spec := "limbOwn", apart := false }
def LimbOwnSaid : Prop := limbOwnRow.holds Try.pinned (OpenSpec.ofChange limbOwnSpec)

/-- ITS FALSE NEIGHBOUR: 'it returns false'. Refute it at one input. -/
def limbOwnWrong : ChangeSpec := { name := "limbOwn", fn := fun _ => fun
  | [d1, d2] => { results := [.lit (.bool false)], args := [d1, d2] }
  | _ => none }
def LimbOwnWrongFalsely : Prop := limbOwnRow.holds Try.pinned (OpenSpec.ofChange limbOwnWrong)

/-- 'sibyllaw01.LimbSums': WHATEVER THE INPUT: true; the input reads as it did. -/
def limbSumsSpec : ChangeSpec := { name := "limbSums", fn := fun _ => fun
  | [d1, d2] => { results := [.lit (.bool true)], args := [d1, d2] }
  | _ => none }
def limbSumsRow : OpenClaim := { program := "ytgffficaoioljaa", sum := "81aade4798faa68caf8feb3b02b875f8877242255e01720bda53e8f8ac570272", func := "sibyl/sibyllaw01.LimbSums", spec := "limbSums", apart := false }
def LimbSumsSaid : Prop := limbSumsRow.holds Try.pinned (OpenSpec.ofChange limbSumsSpec)

/-- ITS FALSE NEIGHBOUR: 'it returns false'. Refute it at one input. -/
def limbSumsWrong : ChangeSpec := { name := "limbSums", fn := fun _ => fun
  | [d1, d2] => { results := [.lit (.bool false)], args := [d1, d2] }
  | _ => none }
def LimbSumsWrongFalsely : Prop := limbSumsRow.holds Try.pinned (OpenSpec.ofChange limbSumsWrong)

/-- 'sibyllaw01.LimbBack': WHATEVER THE INPUT: true; the input reads as it did. -/
def limbBackSpec : ChangeSpec := { name := "limbBack", fn := fun _ => fun
  | [d1, d2] => { results := [.lit (.bool true)], args := [d1, d2] }
  | _ => none }
def limbBackRow : OpenClaim := { program := "ytgffficaoioljaa", sum := "81aade4798faa68caf8feb3b02b875f8877242255e01720bda53e8f8ac570272", func := "sibyl/sibyllaw01.LimbBack", spec := "limbBack", apart := false }
def LimbBackSaid : Prop := limbBackRow.holds Try.pinned (OpenSpec.ofChange limbBackSpec)

/-- ITS FALSE NEIGHBOUR: 'it returns false'. Refute it at one input. -/
def limbBackWrong : ChangeSpec := { name := "limbBack", fn := fun _ => fun
  | [d1, d2] => { results := [.lit (.bool false)], args := [d1, d2] }
  | _ => none }
def LimbBackWrongFalsely : Prop := limbBackRow.holds Try.pinned (OpenSpec.ofChange limbBackWrong)

/-- 'sibyllaw02.RatioMakes': WHATEVER THE INPUT: true; the input reads as it did. -/
def ratioMakesSpec : ChangeSpec := { name := "ratioMakes", fn := fun _ => fun
  | [d1, d2, d3] => { results := [.lit (.bool true)], args := [d1, d2, d3] }
  | _ => none }
def ratioMakesRow : OpenClaim := { program := "ytgffficaoioljaa", sum := "81aade4798faa68caf8feb3b02b875f8877242255e01720bda53e8f8ac570272", func := "sibyl/sibyllaw02.RatioMakes", spec := "ratioMakes", apart := false }
def RatioMakesSaid : Prop := ratioMakesRow.holds Try.pinned (OpenSpec.ofChange ratioMakesSpec)

/-- ITS FALSE NEIGHBOUR: 'it returns false'. Refute it at one input. -/
def ratioMakesWrong : ChangeSpec := { name := "ratioMakes", fn := fun _ => fun
  | [d1, d2, d3] => { results := [.lit (.bool false)], args := [d1, d2, d3] }
  | _ => none }
def RatioMakesWrongFalsely : Prop := ratioMakesRow.holds Try.pinned (OpenSpec.ofChange ratioMakesWrong)

/-- 'sibyllaw02.RatioTexts': WHATEVER THE INPUT: true; the input reads as it did. -/
def ratioTextsSpec : ChangeSpec := { name := "ratioTexts", fn := fun _ => fun
  | [d1, d2] => { results := [.lit (.bool true)], args := [d1, d2] }
  | _ => none }
def ratioTextsRow : OpenClaim := { program := "ytgffficaoioljaa", sum := "81aade4798faa68caf8feb3b02b875f8877242255e01720bda53e8f8ac570272", func := "sibyl/sibyllaw02.RatioTexts", spec := "ratioTexts", apart := false }
def RatioTextsSaid : Prop := ratioTextsRow.holds Try.pinned (OpenSpec.ofChange ratioTextsSpec)

/-- ITS FALSE NEIGHBOUR: 'it returns false'. Refute it at one input. -/
def ratioTextsWrong : ChangeSpec := { name := "ratioTexts", fn := fun _ => fun
  | [d1, d2] => { results := [.lit (.bool false)], args := [d1, d2] }
  | _ => none }
def RatioTextsWrongFalsely : Prop := ratioTextsRow.holds Try.pinned (OpenSpec.ofChange ratioTextsWrong)

/-- 'sibyllaw02.RatioBack': WHATEVER THE INPUT: true; the input reads as it did. -/
def ratioBackSpec : ChangeSpec := { name := "ratioBack", fn := fun _ => fun
  | [d1, d2] => { results := [.lit (.bool true)], args := [d1, d2] }
  | _ => none }
def ratioBackRow : OpenClaim := { program := "ytgffficaoioljaa", sum := "81aade4798faa68caf8feb3b02b875f8877242255e01720bda53e8f8ac570272", func := "sibyl/sibyllaw02.RatioBack", spec := "ratioBack", apart := false }
def RatioBackSaid : Prop := ratioBackRow.holds Try.pinned (OpenSpec.ofChange ratioBackSpec)

/-- ITS FALSE NEIGHBOUR: 'it returns false'. Refute it at one input. -/
def ratioBackWrong : ChangeSpec := { name := "ratioBack", fn := fun _ => fun
  | [d1, d2] => { results := [.lit (.bool false)], args := [d1, d2] }
  | _ => none }
def RatioBackWrongFalsely : Prop := ratioBackRow.holds Try.pinned (OpenSpec.ofChange ratioBackWrong)

/-- 'sibyllaw02.RatioProducts': WHATEVER THE INPUT: true; the input reads as it did. -/
def ratioProductsSpec : ChangeSpec := { name := "ratioProducts", fn := fun _ => fun
  | [d1, d2] => { results := [.lit (.bool true)], args := [d1, d2] }
  | _ => none }
def ratioProductsRow : OpenClaim := { program := "ytgffficaoioljaa", sum := "81aade4798faa68caf8feb3b02b875f8877242255e01720bda53e8f8ac570272", func := "sibyl/sibyllaw02.RatioProducts", spec := "ratioProducts", apart := false }
def RatioProductsSaid : Prop := ratioProductsRow.holds Try.pinned (OpenSpec.ofChange ratioProductsSpec)

/-- ITS FALSE NEIGHBOUR: 'it returns false'. Refute it at one input. -/
def ratioProductsWrong : ChangeSpec := { name := "ratioProducts", fn := fun _ => fun
  | [d1, d2] => { results := [.lit (.bool false)], args := [d1, d2] }
  | _ => none }
def RatioProductsWrongFalsely : Prop := ratioProductsRow.holds Try.pinned (OpenSpec.ofChange ratioProductsWrong)

/-- 'sibyllaw02.RatioFolds': WHATEVER THE INPUT: true; the input reads as it did. -/
def ratioFoldsSpec : ChangeSpec := { name := "ratioFolds", fn := fun _ => fun
  | [d] => { results := [.lit (.bool true)], args := [d] }
  | _ => none }
def ratioFoldsRow : OpenClaim := { program := "ytgffficaoioljaa", sum := "81aade4798faa68caf8feb3b02b875f8877242255e01720bda53e8f8ac570272", func := "sibyl/sibyllaw02.RatioFolds", spec := "ratioFolds", apart := false }
def RatioFoldsSaid : Prop := ratioFoldsRow.holds Try.pinned (OpenSpec.ofChange ratioFoldsSpec)

/-- ITS FALSE NEIGHBOUR: 'it returns false'. Refute it at one input. -/
def ratioFoldsWrong : ChangeSpec := { name := "ratioFolds", fn := fun _ => fun
  | [d] => { results := [.lit (.bool false)], args := [d] }
  | _ => none }
def RatioFoldsWrongFalsely : Prop := ratioFoldsRow.holds Try.pinned (OpenSpec.ofChange ratioFoldsWrong)

/-- 'sibyllaw02.RatioOwn': WHATEVER THE INPUT: true; the input reads as it did. -/
def ratioOwnSpec : ChangeSpec := { name := "ratioOwn", fn := fun _ => fun
  | [d1, d2] => { results := [.lit (.bool true)], args := [d1, d2] }
  | _ => none }
def ratioOwnRow : OpenClaim := { program := "ytgffficaoioljaa", sum := "81aade4798faa68caf8feb3b02b875f8877242255e01720bda53e8f8ac570272", func := "sibyl/sibyllaw02.RatioOwn", spec := "ratioOwn", apart := false }
def RatioOwnSaid : Prop := ratioOwnRow.holds Try.pinned (OpenSpec.ofChange ratioOwnSpec)

/-- ITS FALSE NEIGHBOUR: 'it returns false'. Refute it at one input. -/
def ratioOwnWrong : ChangeSpec := { name := "ratioOwn", fn := fun _ => fun
  | [d1, d2] => { results := [.lit (.bool false)], args := [d1, d2] }
  | _ => none }
def RatioOwnWrongFalsely : Prop := ratioOwnRow.holds Try.pinned (OpenSpec.ofChange ratioOwnWrong)

/-- 'sibyllaw02.RatioSums': WHATEVER THE INPUT: true; the input reads as it did. -/
def ratioSumsSpec : ChangeSpec := { name := "ratioSums", fn := fun _ => fun
  | [d1, d2] => { results := [.lit (.bool true)], args := [d1, d2] }
  | _ => none }
def ratioSumsRow : OpenClaim := { program := "ytgffficaoioljaa", sum := "81aade4798faa68caf8feb3b02b875f8877242255e01720bda53e8f8ac570272", func := "sibyl/sibyllaw02.RatioSums", spec := "ratioSums", apart := false }
def RatioSumsSaid : Prop := ratioSumsRow.holds Try.pinned (OpenSpec.ofChange ratioSumsSpec)

/-- ITS FALSE NEIGHBOUR: 'it returns false'. Refute it at one input. -/
def ratioSumsWrong : ChangeSpec := { name := "ratioSums", fn := fun _ => fun
  | [d1, d2] => { results := [.lit (.bool false)], args := [d1, d2] }
  | _ => none }
def RatioSumsWrongFalsely : Prop := ratioSumsRow.holds Try.pinned (OpenSpec.ofChange ratioSumsWrong)

/-- 'sibyllaw02.RatioField': WHATEVER THE INPUT: true; the input reads as it did. -/
def ratioFieldSpec : ChangeSpec := { name := "ratioField", fn := fun _ => fun
  | [d1, d2, d3] => { results := [.lit (.bool true)], args := [d1, d2, d3] }
  | _ => none }
def ratioFieldRow : OpenClaim := { program := "ytgffficaoioljaa", sum := "81aade4798faa68caf8feb3b02b875f8877242255e01720bda53e8f8ac570272", func := "sibyl/sibyllaw02.RatioField", spec := "ratioField", apart := false }
def RatioFieldSaid : Prop := ratioFieldRow.holds Try.pinned (OpenSpec.ofChange ratioFieldSpec)

/-- ITS FALSE NEIGHBOUR: 'it returns false'. Refute it at one input. -/
def ratioFieldWrong : ChangeSpec := { name := "ratioField", fn := fun _ => fun
  | [d1, d2, d3] => { results := [.lit (.bool false)], args := [d1, d2, d3] }
  | _ => none }
def RatioFieldWrongFalsely : Prop := ratioFieldRow.holds Try.pinned (OpenSpec.ofChange ratioFieldWrong)

/- THE SECOND FORM. 'bulk': how many values and letters a reading holds, each counted each time it is reached (what is shared counts as often as it is met; a slice's spare places count too). A statement '..UptoSaid' is the law's where the arguments, and the package variables that the reading takes, are together of bulk at most 1048576: NARROWER than '..Said'. Prove '..Said' where nothing that the law and all that it calls make is longer than what came in: it says more and counts as full. Else prove '..UptoSaid'. A law counts once. -/
mutual
def uptoBulk {H : Type} : DataW H → Nat
  | .lit (.string bytes) => bytes.length + 1
  | .lit _ => 1
  | .nil => 1
  | .ptr d => uptoBulk d + 1
  | .slice elems spare => uptoBulkAll elems + uptoBulkAll spare + 1
  | .agg parts => uptoBulkAll parts + 1
  | .iface _ d => uptoBulk d + 1
  | .map entries => uptoBulkEntries entries + 1
  | .held _ => 1
def uptoBulkAll {H : Type} : List (DataW H) → Nat
  | [] => 0
  | d :: r => uptoBulk d + uptoBulkAll r
def uptoBulkEntries {H : Type} : List (Lit × DataW H) → Nat
  | [] => 0
  | x :: r => uptoBulkEntry x + uptoBulkEntries r
def uptoBulkEntry {H : Type} : Lit × DataW H → Nat
  | (.string bytes, d) => bytes.length + uptoBulk d + 1
  | (_, d) => uptoBulk d + 1
 end
def uptoSmall : (H : Type) → List (DataW H) → Bool := fun _ ds => decide (uptoBulkAll ds ≤ 1048576)
def OpenSpec.upto (s : _root_.Go.ChangeSpec) : _root_.Go.OpenSpec := { _root_.Go.OpenSpec.ofChange s with cond := some uptoSmall }

/-- 'sibyllaw01.LimbProducts', WHERE WHAT IT READS IS OF BULK AT MOST 1048576: true; the input reads as it did. -/
def limbProductsUptoRow : OpenClaim := { program := "ytgffficaoioljaa", sum := "81aade4798faa68caf8feb3b02b875f8877242255e01720bda53e8f8ac570272", func := "sibyl/sibyllaw01.LimbProducts", spec := "limbProducts", apart := false, narrowed := true }
def LimbProductsUptoSaid : Prop := limbProductsUptoRow.holds Try.pinned (OpenSpec.upto limbProductsSpec)

/-- 'sibyllaw01.LimbDivides', WHERE WHAT IT READS IS OF BULK AT MOST 1048576: true; the input reads as it did. -/
def limbDividesUptoRow : OpenClaim := { program := "ytgffficaoioljaa", sum := "81aade4798faa68caf8feb3b02b875f8877242255e01720bda53e8f8ac570272", func := "sibyl/sibyllaw01.LimbDivides", spec := "limbDivides", apart := false, narrowed := true }
def LimbDividesUptoSaid : Prop := limbDividesUptoRow.holds Try.pinned (OpenSpec.upto limbDividesSpec)

/-- 'sibyllaw01.LimbTexts', WHERE WHAT IT READS IS OF BULK AT MOST 1048576: true; the input reads as it did. -/
def limbTextsUptoRow : OpenClaim := { program := "ytgffficaoioljaa", sum := "81aade4798faa68caf8feb3b02b875f8877242255e01720bda53e8f8ac570272", func := "sibyl/sibyllaw01.LimbTexts", spec := "limbTexts", apart := false, narrowed := true }
def LimbTextsUptoSaid : Prop := limbTextsUptoRow.holds Try.pinned (OpenSpec.upto limbTextsSpec)

/-- 'sibyllaw01.LimbDivided', WHERE WHAT IT READS IS OF BULK AT MOST 1048576: true; the input reads as it did. -/
def limbDividedUptoRow : OpenClaim := { program := "ytgffficaoioljaa", sum := "81aade4798faa68caf8feb3b02b875f8877242255e01720bda53e8f8ac570272", func := "sibyl/sibyllaw01.LimbDivided", spec := "limbDivided", apart := false, narrowed := true }
def LimbDividedUptoSaid : Prop := limbDividedUptoRow.holds Try.pinned (OpenSpec.upto limbDividedSpec)

/-- 'sibyllaw01.LimbForms', WHERE WHAT IT READS IS OF BULK AT MOST 1048576: true; the input reads as it did. -/
def limbFormsUptoRow : OpenClaim := { program := "ytgffficaoioljaa", sum := "81aade4798faa68caf8feb3b02b875f8877242255e01720bda53e8f8ac570272", func := "sibyl/sibyllaw01.LimbForms", spec := "limbForms", apart := false, narrowed := true }
def LimbFormsUptoSaid : Prop := limbFormsUptoRow.holds Try.pinned (OpenSpec.upto limbFormsSpec)

/-- 'sibyllaw01.LimbGcds', WHERE WHAT IT READS IS OF BULK AT MOST 1048576: true; the input reads as it did. -/
def limbGcdsUptoRow : OpenClaim := { program := "ytgffficaoioljaa", sum := "81aade4798faa68caf8feb3b02b875f8877242255e01720bda53e8f8ac570272", func := "sibyl/sibyllaw01.LimbGcds", spec := "limbGcds", apart := false, narrowed := true }
def LimbGcdsUptoSaid : Prop := limbGcdsUptoRow.holds Try.pinned (OpenSpec.upto limbGcdsSpec)

/-- 'sibyllaw01.LimbOwn', WHERE WHAT IT READS IS OF BULK AT MOST 1048576: true; the input reads as it did. -/
def limbOwnUptoRow : OpenClaim := { program := "ytgffficaoioljaa", sum := "81aade4798faa68caf8feb3b02b875f8877242255e01720bda53e8f8ac570272", func := "sibyl/sibyllaw01.LimbOwn", spec := "limbOwn", apart := false, narrowed := true }
def LimbOwnUptoSaid : Prop := limbOwnUptoRow.holds Try.pinned (OpenSpec.upto limbOwnSpec)

/-- 'sibyllaw01.LimbSums', WHERE WHAT IT READS IS OF BULK AT MOST 1048576: true; the input reads as it did. -/
def limbSumsUptoRow : OpenClaim := { program := "ytgffficaoioljaa", sum := "81aade4798faa68caf8feb3b02b875f8877242255e01720bda53e8f8ac570272", func := "sibyl/sibyllaw01.LimbSums", spec := "limbSums", apart := false, narrowed := true }
def LimbSumsUptoSaid : Prop := limbSumsUptoRow.holds Try.pinned (OpenSpec.upto limbSumsSpec)

/-- 'sibyllaw01.LimbBack', WHERE WHAT IT READS IS OF BULK AT MOST 1048576: true; the input reads as it did. -/
def limbBackUptoRow : OpenClaim := { program := "ytgffficaoioljaa", sum := "81aade4798faa68caf8feb3b02b875f8877242255e01720bda53e8f8ac570272", func := "sibyl/sibyllaw01.LimbBack", spec := "limbBack", apart := false, narrowed := true }
def LimbBackUptoSaid : Prop := limbBackUptoRow.holds Try.pinned (OpenSpec.upto limbBackSpec)

/-- 'sibyllaw02.RatioMakes', WHERE WHAT IT READS IS OF BULK AT MOST 1048576: true; the input reads as it did. -/
def ratioMakesUptoRow : OpenClaim := { program := "ytgffficaoioljaa", sum := "81aade4798faa68caf8feb3b02b875f8877242255e01720bda53e8f8ac570272", func := "sibyl/sibyllaw02.RatioMakes", spec := "ratioMakes", apart := false, narrowed := true }
def RatioMakesUptoSaid : Prop := ratioMakesUptoRow.holds Try.pinned (OpenSpec.upto ratioMakesSpec)

/-- 'sibyllaw02.RatioTexts', WHERE WHAT IT READS IS OF BULK AT MOST 1048576: true; the input reads as it did. -/
def ratioTextsUptoRow : OpenClaim := { program := "ytgffficaoioljaa", sum := "81aade4798faa68caf8feb3b02b875f8877242255e01720bda53e8f8ac570272", func := "sibyl/sibyllaw02.RatioTexts", spec := "ratioTexts", apart := false, narrowed := true }
def RatioTextsUptoSaid : Prop := ratioTextsUptoRow.holds Try.pinned (OpenSpec.upto ratioTextsSpec)

/-- 'sibyllaw02.RatioBack', WHERE WHAT IT READS IS OF BULK AT MOST 1048576: true; the input reads as it did. -/
def ratioBackUptoRow : OpenClaim := { program := "ytgffficaoioljaa", sum := "81aade4798faa68caf8feb3b02b875f8877242255e01720bda53e8f8ac570272", func := "sibyl/sibyllaw02.RatioBack", spec := "ratioBack", apart := false, narrowed := true }
def RatioBackUptoSaid : Prop := ratioBackUptoRow.holds Try.pinned (OpenSpec.upto ratioBackSpec)

/-- 'sibyllaw02.RatioProducts', WHERE WHAT IT READS IS OF BULK AT MOST 1048576: true; the input reads as it did. -/
def ratioProductsUptoRow : OpenClaim := { program := "ytgffficaoioljaa", sum := "81aade4798faa68caf8feb3b02b875f8877242255e01720bda53e8f8ac570272", func := "sibyl/sibyllaw02.RatioProducts", spec := "ratioProducts", apart := false, narrowed := true }
def RatioProductsUptoSaid : Prop := ratioProductsUptoRow.holds Try.pinned (OpenSpec.upto ratioProductsSpec)

/-- 'sibyllaw02.RatioFolds', WHERE WHAT IT READS IS OF BULK AT MOST 1048576: true; the input reads as it did. -/
def ratioFoldsUptoRow : OpenClaim := { program := "ytgffficaoioljaa", sum := "81aade4798faa68caf8feb3b02b875f8877242255e01720bda53e8f8ac570272", func := "sibyl/sibyllaw02.RatioFolds", spec := "ratioFolds", apart := false, narrowed := true }
def RatioFoldsUptoSaid : Prop := ratioFoldsUptoRow.holds Try.pinned (OpenSpec.upto ratioFoldsSpec)

/-- 'sibyllaw02.RatioOwn', WHERE WHAT IT READS IS OF BULK AT MOST 1048576: true; the input reads as it did. -/
def ratioOwnUptoRow : OpenClaim := { program := "ytgffficaoioljaa", sum := "81aade4798faa68caf8feb3b02b875f8877242255e01720bda53e8f8ac570272", func := "sibyl/sibyllaw02.RatioOwn", spec := "ratioOwn", apart := false, narrowed := true }
def RatioOwnUptoSaid : Prop := ratioOwnUptoRow.holds Try.pinned (OpenSpec.upto ratioOwnSpec)

/-- 'sibyllaw02.RatioSums', WHERE WHAT IT READS IS OF BULK AT MOST 1048576: true; the input reads as it did. -/
def ratioSumsUptoRow : OpenClaim := { program := "ytgffficaoioljaa", sum := "81aade4798faa68caf8feb3b02b875f8877242255e01720bda53e8f8ac570272", func := "sibyl/sibyllaw02.RatioSums", spec := "ratioSums", apart := false, narrowed := true }
def RatioSumsUptoSaid : Prop := ratioSumsUptoRow.holds Try.pinned (OpenSpec.upto ratioSumsSpec)

/-- 'sibyllaw02.RatioField', WHERE WHAT IT READS IS OF BULK AT MOST 1048576: true; the input reads as it did. -/
def ratioFieldUptoRow : OpenClaim := { program := "ytgffficaoioljaa", sum := "81aade4798faa68caf8feb3b02b875f8877242255e01720bda53e8f8ac570272", func := "sibyl/sibyllaw02.RatioField", spec := "ratioField", apart := false, narrowed := true }
def RatioFieldUptoSaid : Prop := ratioFieldUptoRow.holds Try.pinned (OpenSpec.upto ratioFieldSpec)

end Rows
end Go.Proofs.Ytgffficaoioljaa
