import Derived.Test.YtiamjfckgmnijaaGreatDoorFbFl4
import Derived.Test.YtiamjfckgmnijaaGreatDoorFbAbN
import Derived.Test.YtiamjfckgmnijaaGreatDoorFbAbTz
set_option linter.all false
section
namespace Go.Ab
open Go Go.Proofs
set_option maxRecDepth 100000
set_option maxHeartbeats 4000000
theorem pr_mul {P : Program} {t : TypeId} {x y : Operand} {a b r : Nat} (h : Ieee.double.mul a b = some r) : pureRun P (do eqGuard .mul t x y (.float .f64 a) (.float .f64 b); binOp .mul t (.float .f64 a) (.float .f64 b)) = some (.float .f64 r) := by
  show pureRun P (do let result ← (pure (Ieee.double.mul a b) : Sem (Option Nat)); match result with | some r => pure (Value.float .f64 r) | none => pure (.float .f64 (← choose (.nanBits .f64 a b)))) = _
  rw [h]
  rfl
theorem s_AbsP (y : Nat) (h : y < 9223372036854775808) : Spec Tryz.prog 47 [f64 y] (f64 y) := by
  have := s_Abs y (by omega)
  rwa [rg_of h] at this
theorem s_IsInf0 (y : Nat) (h : y < 9218868437227405312) : Spec Tryz.prog 99 [f64 y, .sc (.int .i64 0)] (.sc (.bool false)) := by
  refine spec_of_awp mixed Tryz.func99 rfl Tryz.call99 (by kernel_rfl) (by simp) rfl ?_
  refine T (call_by (s_AbsP y (by omega)) ?_)
  refine T ?_
  rw [pr_gt, Option.map_some, gt_pos (by omega) (by omega), decide_eq_false (by omega)]
  refine T (r_ret ?_)
  rw [Tryz.results99]
  refine R ?_
  exact Wk.refl _
theorem s_IsNaN0 (y : Nat) (h : y < 9218868437227405312) : Spec Tryz.prog 100 [f64 y] (.sc (.bool false)) := by
  refine spec_of_awp mixed Tryz.func100 rfl Tryz.call100 (by kernel_rfl) (by simp) rfl ?_
  refine T ?_
  rw [pr_ne, Option.map_some, ne_self, rg_of (by omega), decide_eq_false (by omega)]
  refine T (r_ret ?_)
  rw [Tryz.results100]
  refine R ?_
  exact Wk.refl _
def up52 (y : Nat) : Nat := y.log2 * 4503599627370496 + y * 2 ^ (52 - y.log2)
theorem up52_fact {y : Nat} (h0 : 0 < y) (h : y < 4503599627370496) : y.log2 < 52 ∧ 4503599627370496 ≤ y * 2 ^ (52 - y.log2) ∧ y * 2 ^ (52 - y.log2) < 9007199254740992 := by
  have hl : y.log2 < 52 := (Nat.log2_lt (by omega)).2 h
  have l1 := Nat.log2_self_le (n := y) (by omega)
  have l2 : y < 2 ^ (y.log2 + 1) := Nat.lt_log2_self
  have p := Nat.two_pow_pos (52 - y.log2)
  have e1 : 2 ^ y.log2 * 2 ^ (52 - y.log2) = 4503599627370496 := by rw [← Nat.pow_add, show y.log2 + (52 - y.log2) = 52 by omega]
  have e2 : 2 ^ (y.log2 + 1) * 2 ^ (52 - y.log2) = 9007199254740992 := by rw [← Nat.pow_add, show y.log2 + 1 + (52 - y.log2) = 53 by omega]
  refine ⟨hl, ?_, ?_⟩
  · rw [← e1]; exact Nat.mul_le_mul_right _ l1
  · rw [← e2]; exact Nat.mul_lt_mul_of_pos_right l2 p
theorem up52_div {y : Nat} (h0 : 0 < y) (h : y < 4503599627370496) : up52 y / 4503599627370496 = y.log2 + 1 ∧ up52 y % 4503599627370496 = y * 2 ^ (52 - y.log2) - 4503599627370496 := by
  obtain ⟨a, b, c⟩ := up52_fact h0 h
  unfold up52
  generalize y * 2 ^ (52 - y.log2) = M at *
  omega
theorem up52_mg {y : Nat} (h0 : 0 < y) (h : y < 4503599627370496) : mg (up52 y) = y * 4503599627370496 := by
  obtain ⟨a, b, c⟩ := up52_fact h0 h
  obtain ⟨d1, d2⟩ := up52_div h0 h
  have hge : 4503599627370496 ≤ up52 y := by unfold up52; omega
  rw [mg_nrm hge, d1, d2, show 4503599627370496 + (y * 2 ^ (52 - y.log2) - 4503599627370496) = y * 2 ^ (52 - y.log2) by omega, show y.log2 + 1 - 1 = y.log2 by omega, Nat.mul_assoc, ← Nat.pow_add, show 52 - y.log2 + y.log2 = 52 by omega]
theorem up52_lt {y : Nat} (h0 : 0 < y) (h : y < 4503599627370496) : 4503599627370496 ≤ up52 y ∧ up52 y < 9218868437227405312 := by
  obtain ⟨a, b, c⟩ := up52_fact h0 h
  unfold up52
  omega
theorem mul52 {y : Nat} (h0 : 0 < y) (h : y < 4503599627370496) : Ieee.double.mul y 4841369599423283200 = some (up52 y) := by
  obtain ⟨u1, u2⟩ := up52_lt h0 h
  have hm := mul_exact (r := up52 y) (read_subn h) (read_pos (x := 4841369599423283200) (by decide) (by decide)) u2 (by
    rw [up52_mg h0 h, show (-1074 + (((4841369599423283200 / 4503599627370496 - 1 : Nat) : Int) - 1074) + 1074 : Int) = 0 by decide, show 4841369599423283200 % 4503599627370496 = 0 by decide]
    simp)
  rw [hm]
  rfl
theorem s_norm1 (y : Nat) (h : 4503599627370496 ≤ y) (h1 : y < 9218868437227405312) : Spec Tryz.prog 101 [f64 y] (.tup [f64 y, .sc (.int .i64 0)]) := by
  refine spec_of_awp mixed Tryz.func101 rfl Tryz.call101 (by kernel_rfl) (by simp) rfl ?_
  refine T (call_by (s_AbsP y (by omega)) ?_)
  refine T ?_
  rw [pr_lt, Option.map_some, lt_pos (by omega) (by omega), decide_eq_false (by omega)]
  refine T (r_ret ?_)
  rw [Tryz.results101]
  refine R ?_
  exact Wk.refl _
theorem s_norm2 (y : Nat) (h0 : 0 < y) (h : y < 4503599627370496) : Spec Tryz.prog 101 [f64 y] (.tup [f64 (up52 y), .sc (.int .i64 (-52))]) := by
  refine spec_of_awp mixed Tryz.func101 rfl Tryz.call101 (by kernel_rfl) (by simp) rfl ?_
  refine T (call_by (s_AbsP y (by omega)) ?_)
  refine T ?_
  rw [pr_lt, Option.map_some, lt_pos (by omega) (by omega), decide_eq_true (by omega)]
  refine T ?_
  rw [pr_mul (mul52 h0 h), Option.map_some]
  refine T (r_ret ?_)
  rw [Tryz.results101]
  refine R ?_
  exact Wk.refl _
end Go.Ab
end
