import Derived.Test.YtgffficaoioljaaRj11
import Derived.Laws.RangeAny
import Derived.Laws.Closers25b
section
namespace Go.Proofs.Ytgffficaoioljaa.P
open Go.RowKit Go.Proofs.YtgffficaoioljaaW.PrintWords Go.Proofs.YtgffficaoioljaaW.PrintLast Go.Proofs.YtgffficaoioljaaW.PrintMore
set_option linter.unusedVariables false
set_option linter.unusedSimpArgs false
def setIter (W : World) (b : Nat) (s : ByteArray) (pos : Nat) : World := { W with heap := W.heap.setIfInBounds b (.stringIter s pos) }
def limb_Read.l0 : Nat → ByteArray → Nat → List Int → Bool → Option (List Int × Int)
 | 0, _, _, _, _ => none
 | k + 1, s, pos, X, bg => if pos < s.size then (if 48 ≤ bt s pos ∧ bt s pos ≤ 57 then (if bg = true then limb_Read.l0 k s (pos + 1) X true else (nats_Push.f k X (bt s pos - 48)).bind fun Y => limb_Read.l0 k s (pos + 1) Y (decide ((Y.length : Int) > 16))) else some ([], 12)) else (if bg = true then some ([], 4) else some (X, 0))
def limb_Read.f (k : Nat) (s : ByteArray) : Option (List Int × Int) := if (s.size : Int) > 4096 then some ([], 3) else if s.size = 0 then some ([], 12) else limb_Read.l0 k s 0 [] false
theorem empty_of_size {s : ByteArray} (h : s.size = 0) : s = ByteArray.empty := by
 cases s with
 | mk d =>
  have : d = #[] := Array.eq_empty_of_size_eq_zero h
  subst this
  rfl
end Go.Proofs.Ytgffficaoioljaa.P
end
