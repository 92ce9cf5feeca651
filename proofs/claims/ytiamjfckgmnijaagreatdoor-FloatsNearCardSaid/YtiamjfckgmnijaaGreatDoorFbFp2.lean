import Derived.Test.YtiamjfckgmnijaaGreatDoorFbFp1
import Derived.Test.YtiamjfckgmnijaaGreatDoorFbAbBw
set_option linter.all false
section
namespace Go.Ab
open Go Go.Proofs
set_option maxRecDepth 100000
set_option exponentiation.threshold 5000
set_option maxHeartbeats 4000000
theorem or_half {f : Nat} (hf : f < 4503599627370496) : bOr .u64 (f : Int) 4602678819172646912 = ((4602678819172646912 + f : Nat) : Int) := or_exp (E := 1022) hf (by decide)
theorem frexp_e {y1 : Nat} {e0 : Int} (h : y1 < 9218868437227405312) (he : -52 ≤ e0 ∧ e0 ≤ 0) :
    IntKind.i64.wrap (e0 + IntKind.i64.wrap (IntKind.i64.wrap (IntKind.i64.wrap (bAnd IntKind.u64 ((y1 : Int) / 4503599627370496) 2047) - 1023) + 1)) = e0 + ((y1 / 4503599627370496 : Nat) : Int) - 1022 := by
  rw [and2047 (by omega)]
  have hq : y1 / 4503599627370496 < 2048 := by omega
  generalize y1 / 4503599627370496 = q at *
  rw [wrap64 (x := (q : Int)) (by omega) (by omega), wrap64 (x := (q : Int) - 1023) (by omega) (by omega), wrap64 (x := (q : Int) - 1023 + 1) (by omega) (by omega), wrap64 (by omega) (by omega)]
  omega
theorem half_bits {x : Nat} (hx : x < 9223372036854775808) : bOr .u64 ((BitVec.ofInt 64 (x : Int) &&& ~~~BitVec.ofInt 64 9218868437227405312).toNat : Int) 4602678819172646912 = ((4602678819172646912 + x % 4503599627370496 : Nat) : Int) := by
  rw [andnot_exp hx]
  exact or_half (Nat.mod_lt _ (by decide))
theorem exp_bits {y k : Nat} {z : Int} (hy : y < 9223372036854775808) (hz : z = k) (hk : k < 2048) : bOr .u64 ((BitVec.ofInt 64 (y : Int) &&& ~~~BitVec.ofInt 64 9218868437227405312).toNat : Int) (z * 4503599627370496) = ((k * 4503599627370496 + y % 4503599627370496 : Nat) : Int) := by
  rw [andnot_exp hy, hz]
  exact or_exp (E := k) (Nat.mod_lt _ (by decide)) hk
theorem ldexp_e {y : Nat} {e : Int} (h : y < 9218868437227405312) (he : -100000 ≤ e ∧ e ≤ 100000) :
    IntKind.i64.wrap (e + 0 + IntKind.i64.wrap (bAnd IntKind.i64 ((y : Int) / 4503599627370496) 2047 - 1023)) = e + ((y / 4503599627370496 : Nat) : Int) - 1023 := by
  rw [and2047i (by omega)]
  have hq : y / 4503599627370496 < 2048 := by omega
  generalize y / 4503599627370496 = q at *
  rw [wrap64 (x := (q : Int) - 1023) (by omega) (by omega), wrap64 (by omega) (by omega)]
  omega
theorem s_frexp0 (y y1 : Nat) (e0 : Int) (h0 : 0 < y) (h1 : y < 9218868437227405312) (hn : Spec Tryz.prog 101 [f64 y] (.tup [f64 y1, .sc (.int .i64 e0)])) (g2 : y1 < 9218868437227405312) (he : -52 ≤ e0 ∧ e0 ≤ 0) :
    Spec Tryz.prog 85 [f64 y] (.tup [f64 (4602678819172646912 + y1 % 4503599627370496), .sc (.int .i64 (e0 + ((y1 / 4503599627370496 : Nat) : Int) - 1022))]) := by
  refine spec_of_awp mixed Tryz.func85 rfl Tryz.call85 (by kernel_rfl) (by simp) rfl ?_
  refine T ?_
  rw [pr_eq, Option.map_some, eq_pos (by omega) (by omega), decide_eq_false (by omega)]
  refine T (call_by (s_IsInf0 y h1) ?_)
  refine T (call_by (s_IsNaN0 y h1) ?_)
  refine T (call_by hn ?_)
  refine T ?_
  refine call_x [.float .f64 y1] (x_bits y1) rfl ?_
  refine T ?_
  rw [frexp_e g2 he]
  refine call_x [.int .u64 ((4602678819172646912 + y1 % 4503599627370496 : Nat) : Int)] (x_frombits _) (congrArg (fun z => [AV.sc (Value.int .u64 z)]) (half_bits (by omega))) ?_
  refine T (r_ret ?_)
  rw [Tryz.results85]
  refine R ?_
  exact Wk.refl _
theorem s_Frexp0 (y y1 : Nat) (e0 : Int) (h0 : 0 < y) (h1 : y < 9218868437227405312) (hn : Spec Tryz.prog 101 [f64 y] (.tup [f64 y1, .sc (.int .i64 e0)])) (g2 : y1 < 9218868437227405312) (he : -52 ≤ e0 ∧ e0 ≤ 0) :
    Spec Tryz.prog 48 [f64 y] (.tup [f64 (4602678819172646912 + y1 % 4503599627370496), .sc (.int .i64 (e0 + ((y1 / 4503599627370496 : Nat) : Int) - 1022))]) := by
  refine spec_of_awp mixed Tryz.func48 rfl Tryz.call48 (by kernel_rfl) (by simp) rfl ?_
  have h := s_frexp0 y y1 e0 h0 h1 hn g2 he
  generalize 4602678819172646912 + y1 % 4503599627370496 = a at *
  generalize e0 + ((y1 / 4503599627370496 : Nat) : Int) - 1022 = b at *
  refine T (call_by h ?_)
  refine T (r_ret ?_)
  rw [Tryz.results48]
  refine R ?_
  exact Wk.refl _
theorem mul_two {Ex z r : Nat} (hE : 1 ≤ Ex) (hE' : Ex < 2047) (hz : 4503599627370496 ≤ z) (hz' : z < 9218868437227405312) (hr : r < 9218868437227405312) (h : mg z * 2 ^ Ex = mg r * 2 ^ 1023) : Ieee.double.mul (Ex * 4503599627370496) z = some r := by
  have e1 : Ex * 4503599627370496 / 4503599627370496 = Ex := by omega
  have e2 : Ex * 4503599627370496 % 4503599627370496 = 0 := by omega
  have r1 := read_pos (x := Ex * 4503599627370496) (by omega) (by omega)
  rw [e1, e2] at r1
  rw [mg_nrm hz] at h
  have r2 := read_pos hz' hz
  have hEz : 1 ≤ z / 4503599627370496 := by omega
  generalize z / 4503599627370496 = Ez at *
  generalize 4503599627370496 + z % 4503599627370496 = M at *
  generalize ha : (((Ex - 1 : Nat) : Int) - 1074 + (((Ez - 1 : Nat) : Int) - 1074) + 1074) = a
  have hm := mul_exact r1 r2 hr (by
    rw [ha]
    refine Nat.eq_of_mul_eq_mul_right (Nat.two_pow_pos (Ez - 1 + Ex)) ?_
    have q : (4503599627370496 + 0) * M * 2 ^ a.toNat * 2 ^ (Ez - 1 + Ex) = M * 2 ^ (Ez - 1) * 2 ^ Ex * (2 ^ 52 * 2 ^ a.toNat) := by
      rw [Nat.pow_add]
      generalize 2 ^ (Ez - 1) = A
      generalize 2 ^ Ex = B
      generalize 2 ^ a.toNat = C
      rw [Nat.add_zero, show (2 : Nat) ^ 52 = 4503599627370496 by decide]
      simp only [Nat.mul_assoc, Nat.mul_comm, Nat.mul_left_comm]
    rw [q, h, Nat.mul_assoc, Nat.mul_assoc, ← Nat.pow_add, ← Nat.pow_add, ← Nat.pow_add, show 1023 + (52 + a.toNat) = (-a).toNat + (Ez - 1 + Ex) by omega])
  rw [hm]
  rfl
theorem mul_one64 {z : Nat} (hz : 4503599627370496 ≤ z) (hz' : z < 9218868437227405312) : Ieee.double.mul 4607182418800017408 z = some z := mul_two (Ex := 1023) (by decide) (by decide) hz hz' hz' rfl
theorem mul_m53 {z r : Nat} (hz : 4503599627370496 ≤ z) (hz' : z < 9218868437227405312) (hr : r < 9218868437227405312) (h : mg z = mg r * 2 ^ 53) : Ieee.double.mul 4368491638549381120 z = some r :=
  mul_two (Ex := 970) (by decide) (by decide) hz hz' hr (by rw [h, Nat.mul_assoc, ← Nat.pow_add])
theorem s_Inf1 : Spec Tryz.prog 52 [.sc (.int .i64 1)] (f64 9218868437227405312) := by
  refine spec_of_awp mixed Tryz.func52 rfl Tryz.call52 (by kernel_rfl) (by simp) rfl ?_
  refine T ?_
  refine call_x [.int .u64 (9218868437227405312 : Nat)] (x_frombits 9218868437227405312) rfl ?_
  refine T (r_ret ?_)
  rw [Tryz.results52]
  refine R ?_
  exact Wk.refl _
theorem s_ldexpA (y : Nat) (e : Int) (hy : 4503599627370496 ≤ y) (hy' : y < 9218868437227405312) (he : e ≤ 100000) (hk : 2047 ≤ e + ((y / 4503599627370496 : Nat) : Int)) :
    Spec Tryz.prog 87 [f64 y, .sc (.int .i64 e)] (f64 9218868437227405312) := by
  refine spec_of_awp mixed Tryz.func87 rfl Tryz.call87 (by kernel_rfl) (by simp) rfl ?_
  refine T ?_
  rw [pr_eq, Option.map_some, eq_pos (by omega) (by omega), decide_eq_false (by omega)]
  refine T (call_by (s_IsInf0 y hy') ?_)
  refine T (call_by (s_IsNaN0 y hy') ?_)
  refine T (call_by (s_norm1 y hy hy') ?_)
  refine T ?_
  refine call_x [.float .f64 y] (x_bits y) rfl ?_
  refine T ?_
  rw [ldexp_e hy' (by omega)]
  refine T ?_
  rw [pr_lt, Option.map_some, lt_pos (by omega) (by omega), decide_eq_false (by omega)]
  refine T (call_by s_Inf1 ?_)
  refine T (r_ret ?_)
  rw [Tryz.results87]
  refine R ?_
  exact Wk.refl _
theorem s_ldexpB (y k : Nat) (e : Int) (hy : 4503599627370496 ≤ y) (hy' : y < 9218868437227405312) (hk : e + ((y / 4503599627370496 : Nat) : Int) = k) (k1 : 1 ≤ k) (k2 : k ≤ 2046) :
    Spec Tryz.prog 87 [f64 y, .sc (.int .i64 e)] (f64 (k * 4503599627370496 + y % 4503599627370496)) := by
  refine spec_of_awp mixed Tryz.func87 rfl Tryz.call87 (by kernel_rfl) (by simp) rfl ?_
  refine T ?_
  rw [pr_eq, Option.map_some, eq_pos (by omega) (by omega), decide_eq_false (by omega)]
  refine T (call_by (s_IsInf0 y hy') ?_)
  refine T (call_by (s_IsNaN0 y hy') ?_)
  refine T (call_by (s_norm1 y hy hy') ?_)
  refine T ?_
  refine call_x [.float .f64 y] (x_bits y) rfl ?_
  refine T ?_
  rw [ldexp_e hy' (by omega)]
  refine T ?_
  refine call_x [.int .u64 ((k * 4503599627370496 + y % 4503599627370496 : Nat) : Int)] (x_frombits _) (congrArg (fun z => [AV.sc (Value.int .u64 z)]) (exp_bits (k := k) (by omega) (by omega) (by omega))) ?_
  refine T ?_
  rw [pr_mul (mul_one64 (by omega) (by omega)), Option.map_some]
  refine T (r_ret ?_)
  rw [Tryz.results87]
  refine R ?_
  exact Wk.refl _
theorem s_ldexpC (y k r : Nat) (e : Int) (hy : 4503599627370496 ≤ y) (hy' : y < 9218868437227405312) (hk : e + ((y / 4503599627370496 : Nat) : Int) + 53 = k) (k1 : 1 ≤ k) (k2 : k ≤ 53) (hr : r < 9218868437227405312) (h : mg (k * 4503599627370496 + y % 4503599627370496) = mg r * 2 ^ 53) :
    Spec Tryz.prog 87 [f64 y, .sc (.int .i64 e)] (f64 r) := by
  refine spec_of_awp mixed Tryz.func87 rfl Tryz.call87 (by kernel_rfl) (by simp) rfl ?_
  refine T ?_
  rw [pr_eq, Option.map_some, eq_pos (by omega) (by omega), decide_eq_false (by omega)]
  refine T (call_by (s_IsInf0 y hy') ?_)
  refine T (call_by (s_IsNaN0 y hy') ?_)
  refine T (call_by (s_norm1 y hy hy') ?_)
  refine T ?_
  refine call_x [.float .f64 y] (x_bits y) rfl ?_
  refine T ?_
  rw [ldexp_e hy' (by omega)]
  refine T ?_
  refine call_x [.int .u64 ((k * 4503599627370496 + y % 4503599627370496 : Nat) : Int)] (x_frombits _) (congrArg (fun z => [AV.sc (Value.int .u64 z)]) (exp_bits (k := k) (by omega) (by omega) (by omega))) ?_
  refine T ?_
  rw [pr_mul (mul_m53 (by omega) (by omega) hr h), Option.map_some]
  refine T (r_ret ?_)
  rw [Tryz.results87]
  refine R ?_
  exact Wk.refl _
theorem s_Ldexp (y r : Nat) (e : Int) (h : Spec Tryz.prog 87 [f64 y, .sc (.int .i64 e)] (f64 r)) : Spec Tryz.prog 49 [f64 y, .sc (.int .i64 e)] (f64 r) := by
  refine spec_of_awp mixed Tryz.func49 rfl Tryz.call49 (by kernel_rfl) (by simp) rfl ?_
  refine T (call_by h ?_)
  refine T (r_ret ?_)
  rw [Tryz.results49]
  refine R ?_
  exact Wk.refl _
end Go.Ab
end
