import Derived.Test.YtiamjfckgmnijaaGreatDoorFbG
import Derived.Test.YtiamjfckgmnijaaGreatDoorFbAbF
set_option linter.all false
section
namespace Go.Ab
open Go Go.Proofs
set_option maxRecDepth 100000
set_option maxHeartbeats 4000000
abbrev f64 (x : Nat) : AV := .sc (.float .f64 x)
abbrev u64 (x : Nat) : AV := .sc (.int .u64 x)
theorem x_frombits (x : Nat) (w : World) : (callFunc 27 #[.int .u64 x]).run Tryz.prog w = .ok (.value (.float .f64 x)) w :=
  pureRun_ok (by kernel_rfl) w
theorem x_bits (x : Nat) (w : World) : (callFunc 38 #[.float .f64 x]).run Tryz.prog w = .ok (.value (.int .u64 x)) w :=
  pureRun_ok (by kernel_rfl) w
theorem s_of (x : Nat) : Spec Tryz.prog 8 [u64 x] (f64 x) := by
  refine spec_of_awp mixed Tryz.func8 rfl Tryz.call8 (by kernel_rfl) (by simp) rfl ?_
  refine T ?_
  refine call_x [.int .u64 x] (x_frombits x) rfl ?_
  exact TR rfl
theorem bin_lt (P : Program) (t : TypeId) (x y : Operand) (a b : Nat) : abin P .lss t x y (.sc (.float .f64 a)) (.sc (.float .f64 b)) = some (.sc (.bool (Ieee.double.order a b == some .lt))) := rfl
theorem bin_gt (P : Program) (t : TypeId) (x y : Operand) (a b : Nat) : abin P .gtr t x y (.sc (.float .f64 a)) (.sc (.float .f64 b)) = some (.sc (.bool (Ieee.double.order a b == some .gt))) := rfl
theorem bin_eq (P : Program) (t : TypeId) (x y : Operand) (a b : Nat) : abin P .eql t x y (.sc (.float .f64 a)) (.sc (.float .f64 b)) = some (.sc (.bool (Ieee.double.order a b == some .eq))) := rfl
theorem bin_ne (P : Program) (t : TypeId) (x y : Operand) (a b : Nat) : abin P .neq t x y (.sc (.float .f64 a)) (.sc (.float .f64 b)) = some (.sc (.bool (Ieee.double.order a b != some .eq))) := rfl
theorem wrap_neg {x : Nat} (hx : x < 18446744073709551616) : decide (IntKind.i64.wrap (x : Int) < 0) = sgx x := by
  have e : sgx x = decide (9223372036854775808 ≤ x) := by
    unfold sgx
    rcases Nat.lt_or_ge x 9223372036854775808 with h | h
    · rw [decide_eq_false (by omega), Nat.div_eq_of_lt h]
      rfl
    · rw [decide_eq_true h, show x / 9223372036854775808 = 1 by omega]
      rfl
  rw [e]
  refine decide_eq_decide.2 ?_
  simp only [IntKind.wrap, IntKind.bits, IntKind.signed]
  simp
  omega
theorem s_Signbit (x : Nat) (hx : x < 18446744073709551616) : Spec Tryz.prog 46 [f64 x] (.sc (.bool (sgx x))) := by
  refine spec_of_awp mixed Tryz.func46 rfl Tryz.call46 (by kernel_rfl) (by simp) rfl ?_
  refine T ?_
  refine call_x [.float .f64 x] (x_bits x) rfl ?_
  refine T (r_ret ?_)
  rw [Tryz.results46]
  refine R ?_
  rw [wrap_neg hx]
  exact Wk.refl _
theorem andnot_sign {x : Nat} (hx : x < 18446744073709551616) : ((BitVec.ofInt 64 (x : Int) &&& ~~~BitVec.ofInt 64 9223372036854775808).toNat : Int) = (rg x : Int) := by
  have e : (~~~BitVec.ofInt 64 9223372036854775808) = BitVec.ofNat 64 (2 ^ 63 - 1) := by decide
  rw [e, BitVec.toNat_and, BitVec.ofInt_natCast, BitVec.toNat_ofNat, BitVec.toNat_ofNat, Nat.mod_eq_of_lt hx, show (2 ^ 63 - 1) % 2 ^ 64 = 2 ^ 63 - 1 by decide, Nat.and_two_pow_sub_one_eq_mod]
  rfl
theorem s_Abs (x : Nat) (hx : x < 18446744073709551616) : Spec Tryz.prog 47 [f64 x] (f64 (rg x)) := by
  refine spec_of_awp mixed Tryz.func47 rfl Tryz.call47 (by kernel_rfl) (by simp) rfl ?_
  refine T ?_
  refine call_x [.float .f64 x] (x_bits x) rfl ?_
  refine T ?_
  refine call_x [.int .u64 (rg x)] (x_frombits (rg x)) (congrArg (fun z => [AV.sc (Value.int .u64 z)]) (andnot_sign hx)) ?_
  refine T (r_ret ?_)
  rw [Tryz.results47]
  refine R ?_
  exact Wk.refl _
theorem q_Size (x : Nat) : Spec Tryz.prog 63 [u64 x] (u64 (rg x)) := by
  refine spec_of_awp mixed Tryz.func63 rfl Tryz.call63 (by kernel_rfl) (by simp) rfl ?_
  refine T (r_ret ?_)
  rw [Tryz.results63]
  refine R ?_
  exact Wk.refl _
theorem sgx_eq {x : Nat} (hx : x < 18446744073709551616) : sgx x = decide (9223372036854775808 ≤ x) := by
  unfold sgx
  rcases Nat.lt_or_ge x 9223372036854775808 with h | h
  · rw [decide_eq_false (by omega), Nat.div_eq_of_lt h]
    rfl
  · rw [decide_eq_true h, show x / 9223372036854775808 = 1 by omega]
    rfl
def clsL (x : Nat) : Int × Bool :=
  if 9218868437227405312 < rg x then (1, false) else if rg x = 9218868437227405312 then (2, sgx x) else if 4503599627370496 ≤ rg x then (3, sgx x) else if 0 < rg x then (4, sgx x) else (5, sgx x)
end Go.Ab
end
