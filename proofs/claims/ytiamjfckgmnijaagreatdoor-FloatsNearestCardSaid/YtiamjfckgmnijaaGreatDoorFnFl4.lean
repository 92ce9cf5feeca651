import Derived.Test.YtiamjfckgmnijaaGreatDoorFnNc
set_option linter.all false
section
namespace Go.Ab
open Go Go.Proofs
set_option maxRecDepth 100000
set_option maxHeartbeats 4000000
def nextW (b : Nat) : Nat := if 9218868437227405312 < rg b then 9221120237041090561 else if b = 9218868437227405312 then b else if b = 9223372036854775808 then 0 else if 9223372036854775808 < b then b - 1 else b + 1
def prevW (b : Nat) : Nat := if 9218868437227405312 < rg b then 9221120237041090561 else if b = 18442240474082181120 then b else if b = 0 then 9223372036854775808 else if 9223372036854775808 ≤ b then b + 1 else b - 1
theorem key_hi {x : Nat} (hx : x < 18446744073709551616) (h : 9223372036854775808 ≤ x) : key x = -((x - 9223372036854775808 : Nat) : Int) := by
  unfold key
  rw [sgx_eq hx, decide_eq_true h, if_pos rfl]
  unfold rg
  omega
theorem key_lo {x : Nat} (h : x < 9223372036854775808) : key x = x := key_of h
theorem gt_max {x : Nat} (hx : x < 18446744073709551616) (h : rg x ≤ 9218868437227405312) : (Ieee.double.order x 9218868437227405311 == some .gt) = decide (x = 9218868437227405312) := by
  rw [key_cmp h (by decide), key_of (y := 9218868437227405311) (by decide)]
  have hr : rg x = x % 9223372036854775808 := rfl
  rcases Nat.lt_or_ge x 9223372036854775808 with h1 | h1
  · rw [key_lo h1]
    by_cases h2 : x = 9218868437227405312
    · rw [decide_eq_true h2, cmp_gt (by omega)]; rfl
    · rw [decide_eq_false h2]
      by_cases h3 : x = 9218868437227405311
      · subst h3; rw [cmp_eq]; rfl
      · rw [cmp_lt (by omega)]; rfl
  · rw [key_hi hx h1, decide_eq_false (by omega), cmp_lt (by omega)]; rfl
theorem lt_min {x : Nat} (hx : x < 18446744073709551616) (h : rg x ≤ 9218868437227405312) : (Ieee.double.order x 18442240474082181119 == some .lt) = decide (x = 18442240474082181120) := by
  rw [key_cmp h (by decide), key_hi (x := 18442240474082181119) (by decide) (by decide)]
  have hr : rg x = x % 9223372036854775808 := rfl
  rcases Nat.lt_or_ge x 9223372036854775808 with h1 | h1
  · rw [key_lo h1, decide_eq_false (by omega), cmp_gt (by omega)]; rfl
  · rw [key_hi hx h1]
    by_cases h2 : x = 18442240474082181120
    · rw [decide_eq_true h2, cmp_lt (by omega)]; rfl
    · rw [decide_eq_false h2]
      by_cases h3 : x = 18442240474082181119
      · subst h3; rw [cmp_eq]; rfl
      · rw [cmp_gt (by omega)]; rfl
theorem ft_eq : (false == true) = false := rfl
theorem tf_eq : (true == false) = false := rfl
theorem s_NaN : Spec Tryz.prog 51 [] (f64 9221120237041090561) := by
  refine spec_of_awp mixed Tryz.func51 rfl Tryz.call51 (by kernel_rfl) (by simp) rfl ?_
  refine T ?_
  refine call_x [.int .u64 9221120237041090561] (x_frombits 9221120237041090561) rfl ?_
  refine T (r_ret ?_)
  rw [Tryz.results51]
  refine R ?_
  exact Wk.refl _
theorem s_bits (x : Nat) : Spec Tryz.prog 14 [f64 x] (u64 x) := by
  refine spec_of_awp mixed Tryz.func14 rfl Tryz.call14 (by kernel_rfl) (by simp) rfl ?_
  refine T ?_
  refine call_x [.float .f64 x] (x_bits x) rfl ?_
  exact TR rfl
theorem s_stepT (x : Nat) (hx : x < 18446744073709551616) : Spec Tryz.prog 43 [f64 x, .sc (.bool true)] (f64 (nextW x)) := by
  refine spec_of_awp mixed Tryz.func43 rfl Tryz.call43 (by kernel_rfl) (by simp) rfl ?_
  refine T ?_
  refine call_x [.float .f64 x] (x_bits x) rfl ?_
  refine T ?_
  rw [pr_ne, Option.map_some, ne_self]
  unfold nextW
  by_cases h1 : 9218868437227405312 < rg x
  · rw [decide_eq_true h1, if_pos h1]
    refine T (call_by s_NaN ?_)
    exact TR rfl
  rw [decide_eq_false h1, if_neg h1]
  refine T ?_
  rw [pr_gt, Option.map_some, gt_max hx (by omega)]
  by_cases h2 : x = 9218868437227405312
  · rw [decide_eq_true h2, if_pos h2]
    exact TR rfl
  rw [decide_eq_false h2, if_neg h2]
  refine T ?_
  rw [pr_lt, Option.map_some, lt_min hx (by omega)]
  by_cases h4 : x = 9223372036854775808
  · rw [if_pos h4, decide_eq_false (show ¬ x = 18442240474082181120 by omega)]
    exact TR rfl
  rw [if_neg h4]
  by_cases h6 : 9223372036854775808 < x
  · rw [if_pos h6]
    by_cases h3 : x = 18442240474082181120
    · rw [decide_eq_true h3]
      refine T ?_
      refine call_x [.int .u64 ((x - 1 : Nat) : Int)] (x_frombits (x - 1)) ?_ ?_
      · exact congrArg (fun z => [AV.sc (Value.int .u64 z)]) (by omega)
      exact TR rfl
    · rw [decide_eq_false h3]
      refine T ?_
      refine call_x [.int .u64 ((x - 1 : Nat) : Int)] (x_frombits (x - 1)) ?_ ?_
      · exact congrArg (fun z => [AV.sc (Value.int .u64 z)]) (by omega)
      exact TR rfl
  · rw [if_neg h6, decide_eq_false (show ¬ x = 18442240474082181120 by omega)]
    by_cases h7 : x = 0
    · refine T ?_
      rw [ft_eq]
      refine T ?_
      refine call_x [.int .u64 ((x + 1 : Nat) : Int)] (x_frombits (x + 1)) ?_ ?_
      · exact congrArg (fun z => [AV.sc (Value.int .u64 z)]) (by omega)
      exact TR rfl
    · refine T ?_
      rw [ft_eq]
      refine T ?_
      refine call_x [.int .u64 ((x + 1 : Nat) : Int)] (x_frombits (x + 1)) ?_ ?_
      · exact congrArg (fun z => [AV.sc (Value.int .u64 z)]) (by omega)
      exact TR rfl
theorem s_stepF (x : Nat) (hx : x < 18446744073709551616) : Spec Tryz.prog 43 [f64 x, .sc (.bool false)] (f64 (prevW x)) := by
  refine spec_of_awp mixed Tryz.func43 rfl Tryz.call43 (by kernel_rfl) (by simp) rfl ?_
  refine T ?_
  refine call_x [.float .f64 x] (x_bits x) rfl ?_
  refine T ?_
  rw [pr_ne, Option.map_some, ne_self]
  unfold prevW
  by_cases h1 : 9218868437227405312 < rg x
  · rw [decide_eq_true h1, if_pos h1]
    refine T (call_by s_NaN ?_)
    exact TR rfl
  rw [decide_eq_false h1, if_neg h1]
  have h1' : rg x = x % 9223372036854775808 := rfl
  refine T ?_
  rw [pr_gt, Option.map_some, gt_max hx (by omega)]
  by_cases h3 : x = 18442240474082181120
  · rw [if_pos h3, decide_eq_false (show ¬ x = 9218868437227405312 by omega)]
    refine T ?_
    rw [pr_lt, Option.map_some, lt_min hx (by omega), decide_eq_true h3]
    exact TR rfl
  rw [if_neg h3]
  by_cases h7 : x = 0
  · rw [if_pos h7, decide_eq_false (show ¬ x = 9218868437227405312 by omega)]
    refine T ?_
    rw [pr_lt, Option.map_some, lt_min hx (by omega), decide_eq_false h3]
    refine T ?_
    refine call_x [.int .u64 (9223372036854775808 : Nat)] (x_frombits 9223372036854775808) rfl ?_
    exact TR rfl
  rw [if_neg h7]
  by_cases h6 : 9223372036854775808 ≤ x
  · rw [if_pos h6, decide_eq_false (show ¬ x = 9218868437227405312 by omega)]
    refine T ?_
    rw [pr_lt, Option.map_some, lt_min hx (by omega), decide_eq_false h3]
    by_cases h4 : x = 9223372036854775808
    · refine T ?_
      rw [tf_eq]
      refine T ?_
      refine call_x [.int .u64 ((x + 1) : Nat)] (x_frombits (x + 1)) ?_ ?_
      · exact congrArg (fun z => [AV.sc (Value.int .u64 z)]) (by omega)
      exact TR rfl
    · refine T ?_
      rw [tf_eq]
      refine T ?_
      refine call_x [.int .u64 ((x + 1) : Nat)] (x_frombits (x + 1)) ?_ ?_
      · exact congrArg (fun z => [AV.sc (Value.int .u64 z)]) (by omega)
      exact TR rfl
  · rw [if_neg h6]
    by_cases h2 : x = 9218868437227405312
    · rw [decide_eq_true h2]
      refine T ?_
      rw [pr_lt, Option.map_some, lt_min hx (by omega), decide_eq_false h3]
      refine T ?_
      refine call_x [.int .u64 ((x - 1) : Nat)] (x_frombits (x - 1)) ?_ ?_
      · exact congrArg (fun z => [AV.sc (Value.int .u64 z)]) (by omega)
      exact TR rfl
    · rw [decide_eq_false h2]
      refine T ?_
      rw [pr_lt, Option.map_some, lt_min hx (by omega), decide_eq_false h3]
      refine T ?_
      refine call_x [.int .u64 ((x - 1) : Nat)] (x_frombits (x - 1)) ?_ ?_
      · exact congrArg (fun z => [AV.sc (Value.int .u64 z)]) (by omega)
      exact TR rfl
theorem s_Next (x : Nat) (hx : x < 18446744073709551616) : Spec Tryz.prog 17 [f64 x] (f64 (nextW x)) := by
  refine spec_of_awp mixed Tryz.func17 rfl Tryz.call17 (by kernel_rfl) (by simp) rfl ?_
  refine T (call_by (s_stepT x hx) ?_)
  exact TR rfl
theorem s_Prev (x : Nat) (hx : x < 18446744073709551616) : Spec Tryz.prog 18 [f64 x] (f64 (prevW x)) := by
  refine spec_of_awp mixed Tryz.func18 rfl Tryz.call18 (by kernel_rfl) (by simp) rfl ?_
  refine T (call_by (s_stepF x hx) ?_)
  exact TR rfl
end Go.Ab
end
