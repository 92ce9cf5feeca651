import Derived.Test.YtgffficaoioljaaRk11
import Derived.Test.YtgffficaoioljaaRk2
section
namespace Go.Proofs.Ytgffficaoioljaa.P
open Go.RowKit Go.Proofs.YtgffficaoioljaaW.PrintWords Go.Proofs.YtgffficaoioljaaW.PrintLast Go.Proofs.YtgffficaoioljaaW.PrintMore
def bits_Len32.f (a0 : Int) : Option Int := if 0 ≤ a0 ∧ a0 ≤ 4294967295 then some (Lib.bitLen a0.toNat : Int) else none
def bits_LeadingZeros32.f (a0 : Int) : Option Int := if 0 ≤ a0 ∧ a0 ≤ 4294967295 then some (32 - (Lib.bitLen a0.toNat : Int)) else none
theorem bits_LeadingZeros32.calls (a0 : Int) (r : Int) (w : World) (h : bits_LeadingZeros32.f a0 = some r) :
  Calls Try.prog 111 #[.int .u32 a0] w fun e w' => e = .returned (.int .i64 r) ∧ Drawn0 w w' := by
 unfold bits_LeadingZeros32.f at h
 by_cases c : 0 ≤ a0 ∧ a0 ≤ 4294967295
 ·rw [if_pos c] at h
  obtain rfl := Option.some.inj h
  exact (Try.bits_LeadingZeros32 a0 w c.1 c.2).mono fun e w' ⟨he, hw⟩ => ⟨he, by rw [hw]; exact Drawn0.refl w⟩
 ·rw [if_neg c] at h
  cases h
end Go.Proofs.Ytgffficaoioljaa.P
end
section
namespace Go.Proofs.Ytgffficaoioljaa.P
open Go.RowKit Go.Proofs.YtgffficaoioljaaW.PrintWords Go.Proofs.YtgffficaoioljaaW.PrintLast Go.Proofs.YtgffficaoioljaaW.PrintMore
attribute [local go_sem] max2_int min2_int max_two min_two max_three min_three max_four min_four
set_option linter.unusedVariables false
set_option linter.unusedSimpArgs false
set_option linter.unusedSimpArgs false
end Go.Proofs.Ytgffficaoioljaa.P
end
