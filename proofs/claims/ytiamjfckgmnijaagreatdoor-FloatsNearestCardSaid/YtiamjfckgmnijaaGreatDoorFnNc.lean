import Derived.Test.YtiamjfckgmnijaaGreatDoorFnG
import Derived.Test.YtiamjfckgmnijaaGreatDoorFnNa
set_option linter.all false
section
namespace Go.Ab
open Go Go.Proofs
set_option maxRecDepth 100000
set_option maxHeartbeats 4000000
abbrev f64 (x : Nat) : AV := .sc (.float .f64 x)
abbrev u64 (x : Nat) : AV := .sc (.int .u64 x)
theorem x_frombits (x : Nat) (w : World) : (callFunc 27 #[.int .u64 x]).run Tryz.prog w = .ok (.value (.float .f64 x)) w :=
  pureRun_ok (by kernel_rfl) w
theorem x_bits (x : Nat) (w : World) : (callFunc 38 #[.float .f64 x]).run Tryz.prog w = .ok (.value (.int .u64 x)) w :=
  pureRun_ok (by kernel_rfl) w
theorem s_of (x : Nat) : Spec Tryz.prog 8 [u64 x] (f64 x) := by
  refine spec_of_awp mixed Tryz.func8 rfl Tryz.call8 (by kernel_rfl) (by simp) rfl ?_
  refine T ?_
  refine call_x [.int .u64 x] (x_frombits x) rfl ?_
  exact TR rfl
theorem bin_lt (P : Program) (t : TypeId) (x y : Operand) (a b : Nat) : abin P .lss t x y (.sc (.float .f64 a)) (.sc (.float .f64 b)) = some (.sc (.bool (Ieee.double.order a b == some .lt))) := rfl
theorem bin_gt (P : Program) (t : TypeId) (x y : Operand) (a b : Nat) : abin P .gtr t x y (.sc (.float .f64 a)) (.sc (.float .f64 b)) = some (.sc (.bool (Ieee.double.order a b == some .gt))) := rfl
theorem bin_eq (P : Program) (t : TypeId) (x y : Operand) (a b : Nat) : abin P .eql t x y (.sc (.float .f64 a)) (.sc (.float .f64 b)) = some (.sc (.bool (Ieee.double.order a b == some .eq))) := rfl
theorem bin_ne (P : Program) (t : TypeId) (x y : Operand) (a b : Nat) : abin P .neq t x y (.sc (.float .f64 a)) (.sc (.float .f64 b)) = some (.sc (.bool (Ieee.double.order a b != some .eq))) := rfl
theorem wrap_neg {x : Nat} (hx : x < 18446744073709551616) : decide (IntKind.i64.wrap (x : Int) < 0) = sgx x := by
  have e : sgx x = decide (9223372036854775808 ≤ x) := by
    unfold sgx
    rcases Nat.lt_or_ge x 9223372036854775808 with h | h
    · rw [decide_eq_false (by omega), Nat.div_eq_of_lt h]
      rfl
    · rw [decide_eq_true h, show x / 9223372036854775808 = 1 by omega]
      rfl
  rw [e]
  refine decide_eq_decide.2 ?_
  simp only [IntKind.wrap, IntKind.bits, IntKind.signed]
  simp
  omega
theorem s_Signbit (x : Nat) (hx : x < 18446744073709551616) : Spec Tryz.prog 46 [f64 x] (.sc (.bool (sgx x))) := by
  refine spec_of_awp mixed Tryz.func46 rfl Tryz.call46 (by kernel_rfl) (by simp) rfl ?_
  refine T ?_
  refine call_x [.float .f64 x] (x_bits x) rfl ?_
  refine T (r_ret ?_)
  rw [Tryz.results46]
  refine R ?_
  rw [wrap_neg hx]
  exact Wk.refl _
theorem andnot_sign {x : Nat} (hx : x < 18446744073709551616) : ((BitVec.ofInt 64 (x : Int) &&& ~~~BitVec.ofInt 64 9223372036854775808).toNat : Int) = (rg x : Int) := by
  have e : (~~~BitVec.ofInt 64 9223372036854775808) = BitVec.ofNat 64 (2 ^ 63 - 1) := by decide
  rw [e, BitVec.toNat_and, BitVec.ofInt_natCast, BitVec.toNat_ofNat, BitVec.toNat_ofNat, Nat.mod_eq_of_lt hx, show (2 ^ 63 - 1) % 2 ^ 64 = 2 ^ 63 - 1 by decide, Nat.and_two_pow_sub_one_eq_mod]
  rfl
theorem s_Abs (x : Nat) (hx : x < 18446744073709551616) : Spec Tryz.prog 47 [f64 x] (f64 (rg x)) := by
  refine spec_of_awp mixed Tryz.func47 rfl Tryz.call47 (by kernel_rfl) (by simp) rfl ?_
  refine T ?_
  refine call_x [.float .f64 x] (x_bits x) rfl ?_
  refine T ?_
  refine call_x [.int .u64 (rg x)] (x_frombits (rg x)) (congrArg (fun z => [AV.sc (Value.int .u64 z)]) (andnot_sign hx)) ?_
  refine T (r_ret ?_)
  rw [Tryz.results47]
  refine R ?_
  exact Wk.refl _
theorem q_Size (x : Nat) : Spec Tryz.prog 63 [u64 x] (u64 (rg x)) := by
  refine spec_of_awp mixed Tryz.func63 rfl Tryz.call63 (by kernel_rfl) (by simp) rfl ?_
  refine T (r_ret ?_)
  rw [Tryz.results63]
  refine R ?_
  exact Wk.refl _
theorem sgx_eq {x : Nat} (hx : x < 18446744073709551616) : sgx x = decide (9223372036854775808 ≤ x) := by
  unfold sgx
  rcases Nat.lt_or_ge x 9223372036854775808 with h | h
  · rw [decide_eq_false (by omega), Nat.div_eq_of_lt h]
    rfl
  · rw [decide_eq_true h, show x / 9223372036854775808 = 1 by omega]
    rfl
def clsL (x : Nat) : Int × Bool :=
  if 9218868437227405312 < rg x then (1, false) else if rg x = 9218868437227405312 then (2, sgx x) else if 4503599627370496 ≤ rg x then (3, sgx x) else if 0 < rg x then (4, sgx x) else (5, sgx x)
end Go.Ab
end
section
namespace Go.Ab
open Go Go.Proofs
set_option maxRecDepth 100000
set_option maxHeartbeats 4000000
theorem pr_ne (P : Program) (t : TypeId) (x y : Operand) (a b : Nat) : pureRun P (do eqGuard .neq t x y (.float .f64 a) (.float .f64 b); binOp .neq t (.float .f64 a) (.float .f64 b)) = some (.bool (Ieee.double.order a b != some .eq)) := rfl
theorem pr_eq (P : Program) (t : TypeId) (x y : Operand) (a b : Nat) : pureRun P (do eqGuard .eql t x y (.float .f64 a) (.float .f64 b); binOp .eql t (.float .f64 a) (.float .f64 b)) = some (.bool (Ieee.double.order a b == some .eq)) := rfl
theorem pr_lt (P : Program) (t : TypeId) (x y : Operand) (a b : Nat) : pureRun P (do eqGuard .lss t x y (.float .f64 a) (.float .f64 b); binOp .lss t (.float .f64 a) (.float .f64 b)) = some (.bool (Ieee.double.order a b == some .lt)) := rfl
theorem pr_gt (P : Program) (t : TypeId) (x y : Operand) (a b : Nat) : pureRun P (do eqGuard .gtr t x y (.float .f64 a) (.float .f64 b); binOp .gtr t (.float .f64 a) (.float .f64 b)) = some (.bool (Ieee.double.order a b == some .gt)) := rfl
theorem ne_self (x : Nat) : (Ieee.double.order x x != some .eq) = decide (9218868437227405312 < rg x) := by
  by_cases h : 9218868437227405312 < rg x
  · rw [nan_cmp (.inl h), decide_eq_true h]
    rfl
  · rw [key_cmp (by omega) (by omega), cmp_eq, decide_eq_false h]
    rfl
theorem rg_lt (x : Nat) : rg x < 9223372036854775808 := Nat.mod_lt _ (by decide)
theorem rg_of {y : Nat} (h : y < 9223372036854775808) : rg y = y := Nat.mod_eq_of_lt h
theorem key_of {y : Nat} (h : y < 9223372036854775808) : key y = y := by
  unfold key sgx
  rw [Nat.div_eq_of_lt h, rg_of h]
  rfl
theorem ord_pos {y c : Nat} (hy : y ≤ 9218868437227405312) (hc : c ≤ 9218868437227405312) : Ieee.double.order y c = some (compare (y : Int) (c : Int)) := by
  rw [key_cmp (by rw [rg_of (by omega)]; exact hy) (by rw [rg_of (by omega)]; exact hc), key_of (by omega), key_of (by omega)]
theorem gt_pos {y c : Nat} (hy : y ≤ 9218868437227405312) (hc : c ≤ 9218868437227405312) : (Ieee.double.order y c == some .gt) = decide (c < y) := by
  rw [ord_pos hy hc]
  rcases Nat.lt_trichotomy y c with h | h | h
  · rw [cmp_lt (by omega), decide_eq_false (by omega)]; rfl
  · rw [h, cmp_eq, decide_eq_false (by omega)]; rfl
  · rw [cmp_gt (by omega), decide_eq_true h]; rfl
theorem lt_pos {y c : Nat} (hy : y ≤ 9218868437227405312) (hc : c ≤ 9218868437227405312) : (Ieee.double.order y c == some .lt) = decide (y < c) := by
  rw [ord_pos hy hc]
  rcases Nat.lt_trichotomy y c with h | h | h
  · rw [cmp_lt (by omega), decide_eq_true h]; rfl
  · rw [h, cmp_eq, decide_eq_false (by omega)]; rfl
  · rw [cmp_gt (by omega), decide_eq_false (by omega)]; rfl
theorem eq_pos {y c : Nat} (hy : y ≤ 9218868437227405312) (hc : c ≤ 9218868437227405312) : (Ieee.double.order y c == some .eq) = decide (y = c) := by
  rw [ord_pos hy hc]
  rcases Nat.lt_trichotomy y c with h | h | h
  · rw [cmp_lt (by omega), decide_eq_false (by omega)]; rfl
  · rw [h, cmp_eq, decide_eq_true rfl]; rfl
  · rw [cmp_gt (by omega), decide_eq_false (by omega)]; rfl
theorem s_Class (x : Nat) (hx : x < 18446744073709551616) : Spec Tryz.prog 20 [f64 x] (.tup [.sc (.int .i64 (clsL x).1), .sc (.bool (clsL x).2)]) := by
  refine spec_of_awp mixed Tryz.func20 rfl Tryz.call20 (by kernel_rfl) (by simp) rfl ?_
  refine T (call_by (s_Signbit x hx) ?_)
  refine T (call_by (s_Abs x hx) ?_)
  refine T ?_
  rw [pr_ne, Option.map_some, ne_self]
  unfold clsL
  by_cases h1 : 9218868437227405312 < rg x
  · rw [decide_eq_true h1, if_pos h1]
    exact TR rfl
  rw [decide_eq_false h1, if_neg h1]
  generalize rg x = y at *
  refine T ?_
  rw [pr_gt, Option.map_some, gt_pos (by omega) (by omega)]
  by_cases h2 : y = 9218868437227405312
  · rw [decide_eq_true (by omega), if_pos h2]
    exact TR rfl
  rw [decide_eq_false (by omega), if_neg h2]
  refine T ?_
  rw [pr_eq, Option.map_some, eq_pos (by omega) (by omega)]
  by_cases h4 : y = 0
  · rw [decide_eq_true h4, if_neg (by omega), if_neg (by omega)]
    exact TR rfl
  rw [decide_eq_false h4]
  refine T ?_
  rw [pr_lt, Option.map_some, lt_pos (by omega) (by omega)]
  by_cases h3 : 4503599627370496 ≤ y
  · rw [decide_eq_false (by omega), if_pos h3]
    exact TR rfl
  · rw [decide_eq_true (by omega), if_neg h3]
    exact TR rfl
end Go.Ab
end
