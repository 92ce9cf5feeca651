import Derived.Test.YtiamjfckgmnijaaDoorFtFt12
import Derived.Test.YtiamjfckgmnijaaDoorFtFl4
set_option linter.all false
section
namespace Go.Ab
open Go Go.Proofs Go.RowKit Go.Sort Go.Lib
set_option maxRecDepth 100000
set_option maxHeartbeats 4000000
theorem tx_inf (x : Nat) (hx : x < 18446744073709551616) (h1 : rg x = 9218868437227405312) : TX x ⟨#[sgB (sgx x), 105, 110, 102]⟩ := by
  have cC := s_Class x hx
  rw [show clsL x = (2, sgx x) by unfold clsL; rw [if_neg (by omega), if_pos h1]] at cC
  have qN := q_IsNaN x
  rw [decide_eq_false (by omega)] at qN
  have qS := q_Size x
  rw [h1] at qS
  rw [sgx_eq hx] at *
  constructor
  · refine spec_of_awp mixed Tryd.func24 rfl Tryd.call24 (by kernel_rfl) (by simp) rfl ?_
    by_cases hs : 9223372036854775808 ≤ x
    · rw [decide_eq_true hs] at *
      refine T (call_by cC ?_)
      refine T ?_
      rw [sb_add _ _ (by decide), Option.map_some]
      refine T (r_ret ?_)
      rw [Tryd.results24]
      refine R ?_
      exact Wk.refl _
    · rw [decide_eq_false hs] at *
      refine T (call_by cC ?_)
      refine T ?_
      rw [sb_add _ _ (by decide), Option.map_some]
      refine T (r_ret ?_)
      rw [Tryd.results24]
      refine R ?_
      exact Wk.refl _
  · refine spec_of_awp mixed Tryd.func25 rfl Tryd.call25 (by kernel_rfl) (by simp) rfl ?_
    by_cases hs : 9223372036854775808 ≤ x
    · rw [decide_eq_true hs] at *
      refine T (call_by qN ?_)
      refine T (call_by qS ?_)
      refine T ?_
      rw [sb_add _ _ (by decide), Option.map_some]
      refine T (r_ret ?_)
      rw [Tryd.results25]
      refine R ?_
      exact Wk.refl _
    · rw [decide_eq_false hs] at *
      refine T (call_by qN ?_)
      refine T (call_by qS ?_)
      refine T ?_
      rw [sb_add _ _ (by decide), Option.map_some]
      refine T (r_ret ?_)
      rw [Tryd.results25]
      refine R ?_
      exact Wk.refl _
theorem text_all (x : Nat) (hx : x < 18446744073709551616) : ∃ t, TX x t := by
  rcases Nat.lt_trichotomy (rg x) 9218868437227405312 with h | h | h
  · obtain ⟨m, e, c, _⟩ := tx_fin x hx h
    exact ⟨_, c⟩
  · exact ⟨_, tx_inf x hx h⟩
  · exact ⟨_, tx_nan x hx h⟩
end Go.Ab
end
