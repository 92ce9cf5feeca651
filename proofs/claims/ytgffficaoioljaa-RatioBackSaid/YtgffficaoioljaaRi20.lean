import Derived.Test.YtgffficaoioljaaRi15
import Derived.Test.YtgffficaoioljaaRi13
import Derived.Test.YtgffficaoioljaaRi12
import Derived.Lib.ItoaNum
section
namespace Go.Proofs.Ytgffficaoioljaa.PlN
open Go.RowKit Go.Proofs.Ytgffficaoioljaa.P Go.Proofs.Ytgffficaoioljaa.Pl Go.Proofs.Ytgffficaoioljaa.PlA Go.Proofs.YtgffficaoioljaaW.PrintWords Go.Proofs.YtgffficaoioljaaW.PrintLast Go.Proofs.YtgffficaoioljaaW.PrintMore
set_option linter.unusedVariables false
theorem top_nonzero {l : List Int} (hw : Wf l) (h : trim l = l) (hl : l.length ≠ 0) : 1 ≤ rd l ((l.length - 1 : Nat) : Int) := by
  obtain ⟨m, x, rfl⟩ := snoc_of_ne (l := l) (by intro e; rw [e] at hl; simp at hl)
  have := last_pos h hw
  rw [rd_of (by simp)]
  simpa using this
theorem bitLen_bd {x : Int} (h : 0 ≤ x ∧ x < 4294967296) : Lib.bitLen x.toNat ≤ 32 := Lib.bitLen_le x.toNat 32 (by omega) (by omega)
theorem top_wf {l : List Int} (hw : Wf l) : 0 ≤ rd l ((l.length - 1 : Nat) : Int) ∧ rd l ((l.length - 1 : Nat) : Int) < 4294967296 := rd_wf' hw _
end Go.Proofs.Ytgffficaoioljaa.PlN
end
