import Derived.Test.YtiamjfckgmnijaaDoorFbFl2
set_option linter.all false
section
namespace Go.Ab
open Go Go.Proofs
set_option maxRecDepth 100000
set_option maxHeartbeats 4000000
theorem l_FloatsClasses (hw : Spec Tryd.prog 9 [] (.sc (.bool true))) (x : Nat) (hx : x < 18446744073709551616) : Spec Tryd.prog 3 [u64 x] (.sc (.bool true)) := by
  refine spec_of_awp mixed Tryd.func3 rfl Tryd.call3 (by kernel_rfl) (by simp) rfl ?_
  have c1 := s_Class x hx
  have c2 := q_Class x hx
  generalize clsL x = c at *
  obtain ⟨u, v⟩ := c
  refine T (call_by hw ?_)
  refine T (call_by (s_of x) ?_)
  refine T (call_by c1 ?_)
  refine T (call_by c2 ?_)
  cases v <;> exact TR rfl
end Go.Ab
end
