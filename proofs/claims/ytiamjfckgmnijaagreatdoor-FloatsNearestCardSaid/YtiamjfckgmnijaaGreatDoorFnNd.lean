import Derived.Test.YtiamjfckgmnijaaGreatDoorFnFl4
import Derived.Test.YtiamjfckgmnijaaGreatDoorFnNa
import Derived.Test.YtiamjfckgmnijaaGreatDoorFnNb
set_option linter.all false
section
namespace Go.Ab
open Go Go.Proofs
set_option maxRecDepth 100000
set_option maxHeartbeats 4000000
theorem pr_mul {P : Program} {t : TypeId} {x y : Operand} {a b r : Nat} (h : Ieee.double.mul a b = some r) : pureRun P (do eqGuard .mul t x y (.float .f64 a) (.float .f64 b); binOp .mul t (.float .f64 a) (.float .f64 b)) = some (.float .f64 r) := by
  show pureRun P (do let result ← (pure (Ieee.double.mul a b) : Sem (Option Nat)); match result with | some r => pure (Value.float .f64 r) | none => pure (.float .f64 (← choose (.nanBits .f64 a b)))) = _
  rw [h]
  rfl
theorem s_AbsP (y : Nat) (h : y < 9223372036854775808) : Spec Tryz.prog 47 [f64 y] (f64 y) := by
  have := s_Abs y (by omega)
  rwa [rg_of h] at this
theorem s_IsInf0 (y : Nat) (h : y < 9218868437227405312) : Spec Tryz.prog 99 [f64 y, .sc (.int .i64 0)] (.sc (.bool false)) := by
  refine spec_of_awp mixed Tryz.func99 rfl Tryz.call99 (by kernel_rfl) (by simp) rfl ?_
  refine T (call_by (s_AbsP y (by omega)) ?_)
  refine T ?_
  rw [pr_gt, Option.map_some, gt_pos (by omega) (by omega), decide_eq_false (by omega)]
  refine T (r_ret ?_)
  rw [Tryz.results99]
  refine R ?_
  exact Wk.refl _
theorem s_IsNaN0 (y : Nat) (h : y < 9218868437227405312) : Spec Tryz.prog 100 [f64 y] (.sc (.bool false)) := by
  refine spec_of_awp mixed Tryz.func100 rfl Tryz.call100 (by kernel_rfl) (by simp) rfl ?_
  refine T ?_
  rw [pr_ne, Option.map_some, ne_self, rg_of (by omega), decide_eq_false (by omega)]
  refine T (r_ret ?_)
  rw [Tryz.results100]
  refine R ?_
  exact Wk.refl _
def up52 (y : Nat) : Nat := y.log2 * 4503599627370496 + y * 2 ^ (52 - y.log2)
theorem up52_fact {y : Nat} (h0 : 0 < y) (h : y < 4503599627370496) : y.log2 < 52 ∧ 4503599627370496 ≤ y * 2 ^ (52 - y.log2) ∧ y * 2 ^ (52 - y.log2) < 9007199254740992 := by
  have hl : y.log2 < 52 := (Nat.log2_lt (by omega)).2 h
  have l1 := Nat.log2_self_le (n := y) (by omega)
  have l2 : y < 2 ^ (y.log2 + 1) := Nat.lt_log2_self
  have p := Nat.two_pow_pos (52 - y.log2)
  have e1 : 2 ^ y.log2 * 2 ^ (52 - y.log2) = 4503599627370496 := by rw [← Nat.pow_add, show y.log2 + (52 - y.log2) = 52 by omega]
  have e2 : 2 ^ (y.log2 + 1) * 2 ^ (52 - y.log2) = 9007199254740992 := by rw [← Nat.pow_add, show y.log2 + 1 + (52 - y.log2) = 53 by omega]
  refine ⟨hl, ?_, ?_⟩
  · rw [← e1]; exact Nat.mul_le_mul_right _ l1
  · rw [← e2]; exact Nat.mul_lt_mul_of_pos_right l2 p
theorem up52_div {y : Nat} (h0 : 0 < y) (h : y < 4503599627370496) : up52 y / 4503599627370496 = y.log2 + 1 ∧ up52 y % 4503599627370496 = y * 2 ^ (52 - y.log2) - 4503599627370496 := by
  obtain ⟨a, b, c⟩ := up52_fact h0 h
  unfold up52
  generalize y * 2 ^ (52 - y.log2) = M at *
  omega
theorem up52_mg {y : Nat} (h0 : 0 < y) (h : y < 4503599627370496) : mg (up52 y) = y * 4503599627370496 := by
  obtain ⟨a, b, c⟩ := up52_fact h0 h
  obtain ⟨d1, d2⟩ := up52_div h0 h
  have hge : 4503599627370496 ≤ up52 y := by unfold up52; omega
  rw [mg_nrm hge, d1, d2, show 4503599627370496 + (y * 2 ^ (52 - y.log2) - 4503599627370496) = y * 2 ^ (52 - y.log2) by omega, show y.log2 + 1 - 1 = y.log2 by omega, Nat.mul_assoc, ← Nat.pow_add, show 52 - y.log2 + y.log2 = 52 by omega]
theorem up52_lt {y : Nat} (h0 : 0 < y) (h : y < 4503599627370496) : 4503599627370496 ≤ up52 y ∧ up52 y < 9218868437227405312 := by
  obtain ⟨a, b, c⟩ := up52_fact h0 h
  unfold up52
  omega
theorem mul52 {y : Nat} (h0 : 0 < y) (h : y < 4503599627370496) : Ieee.double.mul y 4841369599423283200 = some (up52 y) := by
  obtain ⟨u1, u2⟩ := up52_lt h0 h
  have hm := mul_exact (r := up52 y) (read_subn h) (read_pos (x := 4841369599423283200) (by decide) (by decide)) u2 (by
    rw [up52_mg h0 h, show (-1074 + (((4841369599423283200 / 4503599627370496 - 1 : Nat) : Int) - 1074) + 1074 : Int) = 0 by decide, show 4841369599423283200 % 4503599627370496 = 0 by decide]
    simp)
  rw [hm]
  rfl
theorem s_norm1 (y : Nat) (h : 4503599627370496 ≤ y) (h1 : y < 9218868437227405312) : Spec Tryz.prog 101 [f64 y] (.tup [f64 y, .sc (.int .i64 0)]) := by
  refine spec_of_awp mixed Tryz.func101 rfl Tryz.call101 (by kernel_rfl) (by simp) rfl ?_
  refine T (call_by (s_AbsP y (by omega)) ?_)
  refine T ?_
  rw [pr_lt, Option.map_some, lt_pos (by omega) (by omega), decide_eq_false (by omega)]
  refine T (r_ret ?_)
  rw [Tryz.results101]
  refine R ?_
  exact Wk.refl _
theorem s_norm2 (y : Nat) (h0 : 0 < y) (h : y < 4503599627370496) : Spec Tryz.prog 101 [f64 y] (.tup [f64 (up52 y), .sc (.int .i64 (-52))]) := by
  refine spec_of_awp mixed Tryz.func101 rfl Tryz.call101 (by kernel_rfl) (by simp) rfl ?_
  refine T (call_by (s_AbsP y (by omega)) ?_)
  refine T ?_
  rw [pr_lt, Option.map_some, lt_pos (by omega) (by omega), decide_eq_true (by omega)]
  refine T ?_
  rw [pr_mul (mul52 h0 h), Option.map_some]
  refine T (r_ret ?_)
  rw [Tryz.results101]
  refine R ?_
  exact Wk.refl _
end Go.Ab
end
section
namespace Go.Ab
open Go Go.Proofs
set_option maxRecDepth 100000
set_option exponentiation.threshold 5000
set_option maxHeartbeats 4000000
theorem or_half {f : Nat} (hf : f < 4503599627370496) : bOr .u64 (f : Int) 4602678819172646912 = ((4602678819172646912 + f : Nat) : Int) := or_exp (E := 1022) hf (by decide)
theorem frexp_e {y1 : Nat} {e0 : Int} (h : y1 < 9218868437227405312) (he : -52 ≤ e0 ∧ e0 ≤ 0) :
    IntKind.i64.wrap (e0 + IntKind.i64.wrap (IntKind.i64.wrap (IntKind.i64.wrap (bAnd IntKind.u64 ((y1 : Int) / 4503599627370496) 2047) - 1023) + 1)) = e0 + ((y1 / 4503599627370496 : Nat) : Int) - 1022 := by
  rw [and2047 (by omega)]
  have hq : y1 / 4503599627370496 < 2048 := by omega
  generalize y1 / 4503599627370496 = q at *
  rw [wrap64 (x := (q : Int)) (by omega) (by omega), wrap64 (x := (q : Int) - 1023) (by omega) (by omega), wrap64 (x := (q : Int) - 1023 + 1) (by omega) (by omega), wrap64 (by omega) (by omega)]
  omega
theorem half_bits {x : Nat} (hx : x < 9223372036854775808) : bOr .u64 ((BitVec.ofInt 64 (x : Int) &&& ~~~BitVec.ofInt 64 9218868437227405312).toNat : Int) 4602678819172646912 = ((4602678819172646912 + x % 4503599627370496 : Nat) : Int) := by
  rw [andnot_exp hx]
  exact or_half (Nat.mod_lt _ (by decide))
theorem exp_bits {y k : Nat} {z : Int} (hy : y < 9223372036854775808) (hz : z = k) (hk : k < 2048) : bOr .u64 ((BitVec.ofInt 64 (y : Int) &&& ~~~BitVec.ofInt 64 9218868437227405312).toNat : Int) (z * 4503599627370496) = ((k * 4503599627370496 + y % 4503599627370496 : Nat) : Int) := by
  rw [andnot_exp hy, hz]
  exact or_exp (E := k) (Nat.mod_lt _ (by decide)) hk
theorem ldexp_e {y : Nat} {e : Int} (h : y < 9218868437227405312) (he : -100000 ≤ e ∧ e ≤ 100000) :
    IntKind.i64.wrap (e + 0 + IntKind.i64.wrap (bAnd IntKind.i64 ((y : Int) / 4503599627370496) 2047 - 1023)) = e + ((y / 4503599627370496 : Nat) : Int) - 1023 := by
  rw [and2047i (by omega)]
  have hq : y / 4503599627370496 < 2048 := by omega
  generalize y / 4503599627370496 = q at *
  rw [wrap64 (x := (q : Int) - 1023) (by omega) (by omega), wrap64 (by omega) (by omega)]
  omega
theorem s_frexp0 (y y1 : Nat) (e0 : Int) (h0 : 0 < y) (h1 : y < 9218868437227405312) (hn : Spec Tryz.prog 101 [f64 y] (.tup [f64 y1, .sc (.int .i64 e0)])) (g2 : y1 < 9218868437227405312) (he : -52 ≤ e0 ∧ e0 ≤ 0) :
    Spec Tryz.prog 85 [f64 y] (.tup [f64 (4602678819172646912 + y1 % 4503599627370496), .sc (.int .i64 (e0 + ((y1 / 4503599627370496 : Nat) : Int) - 1022))]) := by
  refine spec_of_awp mixed Tryz.func85 rfl Tryz.call85 (by kernel_rfl) (by simp) rfl ?_
  refine T ?_
  rw [pr_eq, Option.map_some, eq_pos (by omega) (by omega), decide_eq_false (by omega)]
  refine T (call_by (s_IsInf0 y h1) ?_)
  refine T (call_by (s_IsNaN0 y h1) ?_)
  refine T (call_by hn ?_)
  refine T ?_
  refine call_x [.float .f64 y1] (x_bits y1) rfl ?_
  refine T ?_
  rw [frexp_e g2 he]
  refine call_x [.int .u64 ((4602678819172646912 + y1 % 4503599627370496 : Nat) : Int)] (x_frombits _) (congrArg (fun z => [AV.sc (Value.int .u64 z)]) (half_bits (by omega))) ?_
  refine T (r_ret ?_)
  rw [Tryz.results85]
  refine R ?_
  exact Wk.refl _
theorem s_Frexp0 (y y1 : Nat) (e0 : Int) (h0 : 0 < y) (h1 : y < 9218868437227405312) (hn : Spec Tryz.prog 101 [f64 y] (.tup [f64 y1, .sc (.int .i64 e0)])) (g2 : y1 < 9218868437227405312) (he : -52 ≤ e0 ∧ e0 ≤ 0) :
    Spec Tryz.prog 48 [f64 y] (.tup [f64 (4602678819172646912 + y1 % 4503599627370496), .sc (.int .i64 (e0 + ((y1 / 4503599627370496 : Nat) : Int) - 1022))]) := by
  refine spec_of_awp mixed Tryz.func48 rfl Tryz.call48 (by kernel_rfl) (by simp) rfl ?_
  have h := s_frexp0 y y1 e0 h0 h1 hn g2 he
  generalize 4602678819172646912 + y1 % 4503599627370496 = a at *
  generalize e0 + ((y1 / 4503599627370496 : Nat) : Int) - 1022 = b at *
  refine T (call_by h ?_)
  refine T (r_ret ?_)
  rw [Tryz.results48]
  refine R ?_
  exact Wk.refl _
theorem mul_two {Ex z r : Nat} (hE : 1 ≤ Ex) (hE' : Ex < 2047) (hz : 4503599627370496 ≤ z) (hz' : z < 9218868437227405312) (hr : r < 9218868437227405312) (h : mg z * 2 ^ Ex = mg r * 2 ^ 1023) : Ieee.double.mul (Ex * 4503599627370496) z = some r := by
  have e1 : Ex * 4503599627370496 / 4503599627370496 = Ex := by omega
  have e2 : Ex * 4503599627370496 % 4503599627370496 = 0 := by omega
  have r1 := read_pos (x := Ex * 4503599627370496) (by omega) (by omega)
  rw [e1, e2] at r1
  rw [mg_nrm hz] at h
  have r2 := read_pos hz' hz
  have hEz : 1 ≤ z / 4503599627370496 := by omega
  generalize z / 4503599627370496 = Ez at *
  generalize 4503599627370496 + z % 4503599627370496 = M at *
  generalize ha : (((Ex - 1 : Nat) : Int) - 1074 + (((Ez - 1 : Nat) : Int) - 1074) + 1074) = a
  have hm := mul_exact r1 r2 hr (by
    rw [ha]
    refine Nat.eq_of_mul_eq_mul_right (Nat.two_pow_pos (Ez - 1 + Ex)) ?_
    have q : (4503599627370496 + 0) * M * 2 ^ a.toNat * 2 ^ (Ez - 1 + Ex) = M * 2 ^ (Ez - 1) * 2 ^ Ex * (2 ^ 52 * 2 ^ a.toNat) := by
      rw [Nat.pow_add]
      generalize 2 ^ (Ez - 1) = A
      generalize 2 ^ Ex = B
      generalize 2 ^ a.toNat = C
      rw [Nat.add_zero, show (2 : Nat) ^ 52 = 4503599627370496 by decide]
      simp only [Nat.mul_assoc, Nat.mul_comm, Nat.mul_left_comm]
    rw [q, h, Nat.mul_assoc, Nat.mul_assoc, ← Nat.pow_add, ← Nat.pow_add, ← Nat.pow_add, show 1023 + (52 + a.toNat) = (-a).toNat + (Ez - 1 + Ex) by omega])
  rw [hm]
  rfl
theorem mul_one64 {z : Nat} (hz : 4503599627370496 ≤ z) (hz' : z < 9218868437227405312) : Ieee.double.mul 4607182418800017408 z = some z := mul_two (Ex := 1023) (by decide) (by decide) hz hz' hz' rfl
theorem mul_m53 {z r : Nat} (hz : 4503599627370496 ≤ z) (hz' : z < 9218868437227405312) (hr : r < 9218868437227405312) (h : mg z = mg r * 2 ^ 53) : Ieee.double.mul 4368491638549381120 z = some r :=
  mul_two (Ex := 970) (by decide) (by decide) hz hz' hr (by rw [h, Nat.mul_assoc, ← Nat.pow_add])
theorem s_Inf1 : Spec Tryz.prog 52 [.sc (.int .i64 1)] (f64 9218868437227405312) := by
  refine spec_of_awp mixed Tryz.func52 rfl Tryz.call52 (by kernel_rfl) (by simp) rfl ?_
  refine T ?_
  refine call_x [.int .u64 (9218868437227405312 : Nat)] (x_frombits 9218868437227405312) rfl ?_
  refine T (r_ret ?_)
  rw [Tryz.results52]
  refine R ?_
  exact Wk.refl _
theorem s_ldexpA (y : Nat) (e : Int) (hy : 4503599627370496 ≤ y) (hy' : y < 9218868437227405312) (he : e ≤ 100000) (hk : 2047 ≤ e + ((y / 4503599627370496 : Nat) : Int)) :
    Spec Tryz.prog 87 [f64 y, .sc (.int .i64 e)] (f64 9218868437227405312) := by
  refine spec_of_awp mixed Tryz.func87 rfl Tryz.call87 (by kernel_rfl) (by simp) rfl ?_
  refine T ?_
  rw [pr_eq, Option.map_some, eq_pos (by omega) (by omega), decide_eq_false (by omega)]
  refine T (call_by (s_IsInf0 y hy') ?_)
  refine T (call_by (s_IsNaN0 y hy') ?_)
  refine T (call_by (s_norm1 y hy hy') ?_)
  refine T ?_
  refine call_x [.float .f64 y] (x_bits y) rfl ?_
  refine T ?_
  rw [ldexp_e hy' (by omega)]
  refine T ?_
  rw [pr_lt, Option.map_some, lt_pos (by omega) (by omega), decide_eq_false (by omega)]
  refine T (call_by s_Inf1 ?_)
  refine T (r_ret ?_)
  rw [Tryz.results87]
  refine R ?_
  exact Wk.refl _
theorem s_ldexpB (y k : Nat) (e : Int) (hy : 4503599627370496 ≤ y) (hy' : y < 9218868437227405312) (hk : e + ((y / 4503599627370496 : Nat) : Int) = k) (k1 : 1 ≤ k) (k2 : k ≤ 2046) :
    Spec Tryz.prog 87 [f64 y, .sc (.int .i64 e)] (f64 (k * 4503599627370496 + y % 4503599627370496)) := by
  refine spec_of_awp mixed Tryz.func87 rfl Tryz.call87 (by kernel_rfl) (by simp) rfl ?_
  refine T ?_
  rw [pr_eq, Option.map_some, eq_pos (by omega) (by omega), decide_eq_false (by omega)]
  refine T (call_by (s_IsInf0 y hy') ?_)
  refine T (call_by (s_IsNaN0 y hy') ?_)
  refine T (call_by (s_norm1 y hy hy') ?_)
  refine T ?_
  refine call_x [.float .f64 y] (x_bits y) rfl ?_
  refine T ?_
  rw [ldexp_e hy' (by omega)]
  refine T ?_
  refine call_x [.int .u64 ((k * 4503599627370496 + y % 4503599627370496 : Nat) : Int)] (x_frombits _) (congrArg (fun z => [AV.sc (Value.int .u64 z)]) (exp_bits (k := k) (by omega) (by omega) (by omega))) ?_
  refine T ?_
  rw [pr_mul (mul_one64 (by omega) (by omega)), Option.map_some]
  refine T (r_ret ?_)
  rw [Tryz.results87]
  refine R ?_
  exact Wk.refl _
theorem s_ldexpC (y k r : Nat) (e : Int) (hy : 4503599627370496 ≤ y) (hy' : y < 9218868437227405312) (hk : e + ((y / 4503599627370496 : Nat) : Int) + 53 = k) (k1 : 1 ≤ k) (k2 : k ≤ 53) (hr : r < 9218868437227405312) (h : mg (k * 4503599627370496 + y % 4503599627370496) = mg r * 2 ^ 53) :
    Spec Tryz.prog 87 [f64 y, .sc (.int .i64 e)] (f64 r) := by
  refine spec_of_awp mixed Tryz.func87 rfl Tryz.call87 (by kernel_rfl) (by simp) rfl ?_
  refine T ?_
  rw [pr_eq, Option.map_some, eq_pos (by omega) (by omega), decide_eq_false (by omega)]
  refine T (call_by (s_IsInf0 y hy') ?_)
  refine T (call_by (s_IsNaN0 y hy') ?_)
  refine T (call_by (s_norm1 y hy hy') ?_)
  refine T ?_
  refine call_x [.float .f64 y] (x_bits y) rfl ?_
  refine T ?_
  rw [ldexp_e hy' (by omega)]
  refine T ?_
  refine call_x [.int .u64 ((k * 4503599627370496 + y % 4503599627370496 : Nat) : Int)] (x_frombits _) (congrArg (fun z => [AV.sc (Value.int .u64 z)]) (exp_bits (k := k) (by omega) (by omega) (by omega))) ?_
  refine T ?_
  rw [pr_mul (mul_m53 (by omega) (by omega) hr h), Option.map_some]
  refine T (r_ret ?_)
  rw [Tryz.results87]
  refine R ?_
  exact Wk.refl _
theorem s_Ldexp (y r : Nat) (e : Int) (h : Spec Tryz.prog 87 [f64 y, .sc (.int .i64 e)] (f64 r)) : Spec Tryz.prog 49 [f64 y, .sc (.int .i64 e)] (f64 r) := by
  refine spec_of_awp mixed Tryz.func49 rfl Tryz.call49 (by kernel_rfl) (by simp) rfl ?_
  refine T (call_by h ?_)
  refine T (r_ret ?_)
  rw [Tryz.results49]
  refine R ?_
  exact Wk.refl _
end Go.Ab
end
section
namespace Go.Ab
open Go Go.Proofs
set_option maxRecDepth 100000
set_option maxHeartbeats 4000000
def tzi (z : Nat) : Nat := 2 ^ z * 285870213051353865 % 18446744073709551616 / 288230376151711744
def tzV : List AV := match tabAV 1 with | .vp l => l | _ => []
theorem tz_ok : ((List.range 64).all fun z => match tzV.drop (tzi z) with | .sc (.int .u8 n) :: _ => n == (z : Int) | _ => false) = true := by decide +kernel
theorem tz_at {z : Nat} (h : z < 64) : ∃ tl, tzV.drop (tzi z) = .sc (.int .u8 z) :: tl := by
  have h1 := List.all_eq_true.1 tz_ok z (List.mem_range.2 h)
  split at h1
  · rename_i n tl e
    exact ⟨tl, by rw [e, eq_of_beq h1]⟩
  · cases h1
theorem tz_len : tzV.length = 64 := by decide +kernel
theorem ixTab (xs : List AV) (k : IntKind) (i : Int) : aindexAddr Tryz.prog 106 (.vp xs) (.sc (.int k i)) = (if 0 ≤ i ∧ i < (64 : Nat) ∧ i.toNat * 1 < xs.length then some (.vp (xs.drop (i.toNat * 1))) else none) := by kernel_rfl
theorem tz_addr {z : Nat} (h : z < 64) : ∃ tl, aindexAddr Tryz.prog 106 (tabAV 1) (.sc (.int .u64 (tzi z : Nat))) = some (.vp (.sc (.int .u8 z) :: tl)) := by
  obtain ⟨tl, e⟩ := tz_at h
  have hi : tzi z < 64 := by unfold tzi; omega
  refine ⟨tl, ?_⟩
  show aindexAddr Tryz.prog 106 (.vp tzV) _ = _
  rw [ixTab, if_pos ⟨by omega, by omega, by rw [tz_len]; omega⟩, Nat.mul_one, Int.toNat_natCast, e]
theorem and_negI {M k z : Nat} (hM : (2 * k + 1) * 2 ^ z = M) (h : M < 18446744073709551616) (h0 : 0 < M) : bAnd .u64 (M : Int) ((0 - (M : Int)) % 18446744073709551616) = ((2 ^ z : Nat) : Int) := by
  have e1 : (0 - (M : Int)) % 18446744073709551616 = ((18446744073709551616 - M : Nat) : Int) := by omega
  have e2 := and_neg (k := k) (z := z) (N := 64) (by rw [hM]; exact h)
  rw [hM] at e2
  have hz : 2 ^ z ≤ M := by rw [← hM]; exact Nat.le_mul_of_pos_left _ (by omega)
  have e3 : (BitVec.ofInt 64 (M : Int) &&& BitVec.ofInt 64 ((18446744073709551616 - M : Nat) : Int)).toNat = 2 ^ z := by
    rw [ofInt_nat, ofInt_nat, BitVec.toNat_and, BitVec.toNat_ofNat, BitVec.toNat_ofNat, Nat.mod_eq_of_lt (by omega), Nat.mod_eq_of_lt (by omega)]
    exact e2
  rw [e1]
  show IntKind.u64.wrap ((BitVec.ofInt 64 (M : Int) &&& BitVec.ofInt 64 ((18446744073709551616 - M : Nat) : Int)).toNat : Int) = _
  rw [e3]
  generalize 2 ^ z = A at *
  rw [wrapu64 (by omega) (by omega)]
theorem s_tz (k z M : Nat) (hM : (2 * k + 1) * 2 ^ z = M) (h : M < 18446744073709551616) : Spec Tryz.prog 50 [u64 M] (.sc (.int .i64 z)) := by
  refine spec_of_awp mixed Tryz.func50 rfl Tryz.call50 (by kernel_rfl) (by simp) rfl ?_
  have h0 : 0 < M := by rw [← hM]; exact Nat.mul_pos (by omega) (Nat.two_pow_pos z)
  have hz : z < 64 := by
    have : 2 ^ z < 2 ^ 64 := Nat.lt_of_le_of_lt (by rw [← hM]; exact Nat.le_mul_of_pos_left _ (by omega)) h
    exact (Nat.pow_lt_pow_iff_right (by decide)).1 this
  obtain ⟨tl, ta⟩ := tz_addr hz
  refine T ?_
  rw [and_negI hM h h0, show ((2 ^ z : Nat) : Int) * 285870213051353865 % 18446744073709551616 / 288230376151711744 = ((tzi z : Nat) : Int) by unfold tzi; generalize 2 ^ z = A; omega, ta]
  refine T (r_ret ?_)
  rw [Tryz.results50]
  refine R ?_
  exact Wk.refl _
end Go.Ab
end
section
namespace Go.Ab
open Go Go.Proofs
set_option maxRecDepth 100000
set_option maxHeartbeats 4000000
theorem eq_zero {x : Nat} (h : rg x ≤ 9218868437227405312) : (Ieee.double.order x 0 == some .eq) = decide (rg x = 0) := by
  rw [key_cmp h (by decide), show key 0 = 0 by decide]
  have hk : key x = 0 ↔ rg x = 0 := by unfold key; split <;> omega
  by_cases h0 : rg x = 0
  · rw [decide_eq_true h0, hk.2 h0]; rfl
  · rw [decide_eq_false h0]
    rcases Int.lt_trichotomy (key x) 0 with h1 | h1 | h1
    · rw [cmp_lt h1]; rfl
    · exact (h0 (hk.1 h1)).elim
    · rw [cmp_gt h1]; rfl
theorem dcall_by0p {P : Program} {B : Nat} {ops : Array Oper} {K : List Ent → S → Prop} {rest : List Oper} {L : List Ent} {rd : List Loc} {s : S} {d : Option Tmp} {f : FuncId} {h0 : Nat → AV} {raw ws : List AV} {v : AV} (h : Spec P f ws v) (hK : AOps P B ops K rest (L ++ [(rd, wr d [])]) (put s d v)) : DCall P B ops K rest L rd s d f h0 raw (some (ws, [])) :=
  dcall_by h hK
theorem cv_fu (w : Nat) : pureRun Tryz.prog (convert 30 22 (.float .f64 w)) = pureRun Tryz.prog (Conv.floatToInt .f64 w .u64) := by kernel_rfl
theorem to_int {m : Nat} : (Ieee.Datum.number false m 0).toInt .zero = some (m : Int) := by
  simp [Ieee.Datum.toInt, Ieee.Datum.integral, Ieee.Toward.cut, Ieee.signed]
theorem f2u {w m : Nat} (hr : Ieee.double.read w = .number false m 0) (hm : m < 18446744073709551616) : pureRun Tryz.prog (convert 30 22 (.float .f64 w)) = some (.int .u64 m) := by
  rw [cv_fu]
  unfold Conv.floatToInt
  rw [show FloatKind.f64.decode w = Ieee.double.read w from rfl, hr, to_int]
  have h1 : IntKind.u64.min ≤ (m : Int) := by show (0 : Int) ≤ m; omega
  have h2 : (m : Int) ≤ IntKind.u64.max := by show (m : Int) ≤ 18446744073709551615; omega
  simp only [h1, h2, and_self, if_true]
  rfl
theorem acv_fu {B : Nat} {d : Option Tmp} {h : Nat → AV} {w m : Nat} (hr : Ieee.double.read w = .number false m 0) (hm : m < 18446744073709551616) : aconv Tryz.prog B d h 30 22 (f64 w) = some (u64 m, []) := by
  have e : aconv Tryz.prog B d h 30 22 (f64 w) = (pureRun Tryz.prog (convert 30 22 (.float .f64 w))).map fun v => (AV.sc v, []) := by kernel_rfl
  rw [e, f2u hr hm]
  rfl
theorem s_Parts0 (x y1 k z : Nat) (e0 : Int) (hx : x < 18446744073709551616) (h0 : 0 < rg x) (h1 : rg x < 9218868437227405312) (hn : Spec Tryz.prog 101 [f64 (rg x)] (.tup [f64 y1, .sc (.int .i64 e0)])) (g2 : y1 < 9218868437227405312) (he : -52 ≤ e0 ∧ e0 ≤ 0)
    (hM : (2 * k + 1) * 2 ^ z = 4503599627370496 + y1 % 4503599627370496) :
    Spec Tryz.prog 21 [f64 x] (.tup [.sc (.bool (sgx x)), u64 (2 * k + 1), .sc (.int .i64 (e0 + ((y1 / 4503599627370496 : Nat) : Int) - 1022 - 53 + z)), .sc (.int .i64 0)]) := by
  refine spec_of_awp mixed Tryz.func21 rfl Tryz.call21 (by kernel_rfl) (by simp) rfl ?_
  have cC := s_Class x hx
  have hc : 2 < (clsL x).1 := by
    unfold clsL
    rw [if_neg (by omega), if_neg (by omega)]
    split
    · exact (by decide : (2 : Int) < 3)
    · exact (by decide : (2 : Int) < 4)
  generalize clsL x = c at *
  obtain ⟨c1, c2⟩ := c
  have hf : y1 % 4503599627370496 < 4503599627370496 := Nat.mod_lt _ (by decide)
  have cF := s_Frexp0 (rg x) y1 e0 h0 h1 hn g2 he
  have cL := s_Ldexp (4602678819172646912 + y1 % 4503599627370496) _ 53 (s_ldexpB (4602678819172646912 + y1 % 4503599627370496) 1075 53 (by omega) (by omega) (by omega) (by decide) (by decide))
  rw [show 1075 * 4503599627370496 + (4602678819172646912 + y1 % 4503599627370496) % 4503599627370496 = 4841369599423283200 + y1 % 4503599627370496 by omega] at cL
  have hE : y1 / 4503599627370496 < 2047 := by omega
  have cT := s_tz k z _ hM (by omega)
  generalize y1 % 4503599627370496 = f at *
  generalize y1 / 4503599627370496 = E at *
  refine T (call_by cC ?_)
  refine T ?_
  rw [pr_eq, Option.map_some, eq_zero (by omega), decide_eq_false (by omega)]
  refine T (call_by (s_Abs x hx) ?_)
  refine T (call_by cF ?_)
  refine T (call_by cL ?_)
  refine T ?_
  have hr : Ieee.double.read (4841369599423283200 + f) = .number false (4503599627370496 + f) 0 := by
    have h := read_pos (x := 4841369599423283200 + f) (by omega) (by omega)
    rw [show (4841369599423283200 + f) % 4503599627370496 = f by omega, show (4841369599423283200 + f) / 4503599627370496 = 1075 by omega] at h
    exact h
  rw [acv_fu hr (by omega)]
  refine T (call_by cT ?_)
  refine T (dcall_by0p (s_Signbit x hx) ?_)
  have hz : z < 53 := by
    have : 2 ^ z < 2 ^ 53 := Nat.lt_of_le_of_lt (Nat.le_mul_of_pos_left (2 ^ z) (show 0 < 2 * k + 1 by omega)) (by rw [hM]; omega)
    exact (Nat.pow_lt_pow_iff_right (by decide)).1 this
  have hs : ((4503599627370496 + f : Nat) : Int).fdiv (2 ^ z) = ((2 * k + 1 : Nat) : Int) := by
    have e : ((2 : Int) ^ z) = ((2 ^ z : Nat) : Int) := by rw [Int.natCast_pow]; rfl
    rw [← hM, e, Int.fdiv_eq_ediv_of_nonneg _ (Int.natCast_nonneg _), ← Int.natCast_ediv, Nat.mul_div_cancel _ (Nat.two_pow_pos z)]
  refine T (r_ret ?_)
  rw [Tryz.results21]
  refine R ?_
  rw [hs]
  exact Wk.refl _
end Go.Ab
end
section
namespace Go.Ab
open Go Go.Proofs
set_option maxRecDepth 100000
set_option maxHeartbeats 4000000
theorem Hk {s : S} {l : Loc} {v : AV} {t : List (Loc × AV)} (h : s l = v) (k : Has t s) : Has ((l, v) :: t) s := ⟨h, k⟩
theorem odd_eq {a b i j : Nat} (h : (2 * a + 1) * 2 ^ i = (2 * b + 1) * 2 ^ j) : a = b ∧ i = j := by
  rcases Nat.lt_trichotomy i j with h1 | h1 | h1
  · obtain ⟨d, rfl⟩ : ∃ d, j = i + 1 + d := ⟨j - (i + 1), by omega⟩
    rw [Nat.pow_add, Nat.pow_succ] at h
    have : (2 * a + 1) * 2 ^ i = (2 * ((2 * b + 1) * 2 ^ d)) * 2 ^ i := by rw [h]; simp only [Nat.mul_assoc, Nat.mul_comm, Nat.mul_left_comm]
    have := Nat.eq_of_mul_eq_mul_right (Nat.two_pow_pos i) this
    omega
  · subst h1
    have := Nat.eq_of_mul_eq_mul_right (Nat.two_pow_pos i) h
    omega
  · obtain ⟨d, rfl⟩ : ∃ d, i = j + 1 + d := ⟨i - (j + 1), by omega⟩
    rw [Nat.pow_add, Nat.pow_succ] at h
    have : (2 * b + 1) * 2 ^ j = (2 * ((2 * a + 1) * 2 ^ d)) * 2 ^ j := by rw [← h]; simp only [Nat.mul_assoc, Nat.mul_comm, Nat.mul_left_comm]
    have := Nat.eq_of_mul_eq_mul_right (Nat.two_pow_pos j) this
    omega
theorem s_Parts1 (x k w : Nat) (hx : x < 18446744073709551616) (h0 : 0 < rg x) (h1 : rg x < 9218868437227405312) (hm : mg (rg x) = (2 * k + 1) * 2 ^ w) :
    Spec Tryz.prog 21 [f64 x] (.tup [.sc (.bool (sgx x)), u64 (2 * k + 1), .sc (.int .i64 ((w : Int) - 1074)), .sc (.int .i64 0)]) := by
  rcases Nat.lt_or_ge (rg x) 4503599627370496 with h2 | h2
  · obtain ⟨a1, a2, a3⟩ := up52_fact h0 h2
    obtain ⟨d1, d2⟩ := up52_div h0 h2
    obtain ⟨u1, u2⟩ := up52_lt h0 h2
    rw [mg_sub h2] at hm
    have h := s_Parts0 x (up52 (rg x)) k (w + (52 - (rg x).log2)) (-52) hx h0 h1 (s_norm2 (rg x) h0 h2) u2 ⟨by omega, by omega⟩ (by rw [Nat.pow_add, ← Nat.mul_assoc, ← hm, d2]; omega)
    rw [d1, show (-52 : Int) + (((rg x).log2 + 1 : Nat) : Int) - 1022 - 53 + ((w + (52 - (rg x).log2) : Nat) : Int) = (w : Int) - 1074 by omega] at h
    exact h
  · rw [mg_nrm h2] at hm
    obtain ⟨k', z, hz⟩ := odd_part _ (4503599627370496 + rg x % 4503599627370496) (Nat.le_refl _) (by omega)
    rw [hz, Nat.mul_assoc, ← Nat.pow_add] at hm
    obtain ⟨e1, e2⟩ := odd_eq hm
    subst e1
    have h := s_Parts0 x (rg x) k' z 0 hx h0 h1 (s_norm1 (rg x) h2 h1) h1 ⟨by omega, by omega⟩ hz.symm
    rw [show (0 : Int) + ((rg x / 4503599627370496 : Nat) : Int) - 1022 - 53 + (z : Int) = (w : Int) - 1074 by omega] at h
    exact h
theorem s_PartsA (x : Nat) (hx : x < 18446744073709551616) (h1 : 9218868437227405312 ≤ rg x) :
    Spec Tryz.prog 21 [f64 x] (.tup [.sc (.bool false), u64 0, .sc (.int .i64 0), .sc (.int .i64 30)]) := by
  refine spec_of_awp mixed Tryz.func21 rfl Tryz.call21 (by kernel_rfl) (by simp) rfl ?_
  have cC := s_Class x hx
  have hc : (clsL x).1 ≤ 2 := by
    unfold clsL
    split
    · exact (by decide : (1 : Int) ≤ 2)
    · rw [if_pos (by omega)]
      exact (by decide : (2 : Int) ≤ 2)
  generalize clsL x = c at *
  obtain ⟨c1, c2⟩ := c
  refine T (call_by cC ?_)
  exact TR rfl
theorem s_PartsB (x : Nat) (hx : x < 18446744073709551616) (h1 : rg x = 0) :
    Spec Tryz.prog 21 [f64 x] (.tup [.sc (.bool (sgx x)), u64 0, .sc (.int .i64 0), .sc (.int .i64 0)]) := by
  refine spec_of_awp mixed Tryz.func21 rfl Tryz.call21 (by kernel_rfl) (by simp) rfl ?_
  have cC := s_Class x hx
  have hc : 2 < (clsL x).1 := by
    unfold clsL
    rw [if_neg (by omega), if_neg (by omega), if_neg (by omega), if_neg (by omega)]
    exact (by decide : (2 : Int) < 5)
  generalize clsL x = c at *
  obtain ⟨c1, c2⟩ := c
  refine T (call_by cC ?_)
  refine T ?_
  rw [pr_eq, Option.map_some, eq_zero (by omega), decide_eq_true h1]
  refine T (call_by (s_Signbit x hx) ?_)
  exact TR rfl
theorem q_PartsA (x : Nat) (h1 : 9218868437227405312 ≤ rg x) :
    Spec Tryz.prog 28 [u64 x] (.tup [.sc (.bool false), u64 0, .sc (.int .i64 0), .sc (.int .i64 30)]) := by
  refine spec_of_awp mixed Tryz.func28 rfl Tryz.call28 (by kernel_rfl) (by simp) rfl ?_
  refine T (call_by (q_Size x) ?_)
  exact TR rfl
theorem q_PartsB (x : Nat) (hx : x < 18446744073709551616) (h1 : rg x = 0) :
    Spec Tryz.prog 28 [u64 x] (.tup [.sc (.bool (sgx x)), u64 0, .sc (.int .i64 0), .sc (.int .i64 0)]) := by
  refine spec_of_awp mixed Tryz.func28 rfl Tryz.call28 (by kernel_rfl) (by simp) rfl ?_
  refine T (call_by (q_Size x) ?_)
  rw [sgx_eq hx]
  by_cases hs : 9223372036854775808 ≤ x
  · rw [decide_eq_true hs]; exact TR rfl
  · rw [decide_eq_false hs]; exact TR rfl
theorem mg_bound {r k w : Nat} (h1 : r < 9218868437227405312) (hm : mg r = (2 * k + 1) * 2 ^ w) (h0 : 0 < r) : ∃ j0, j0 ≤ w ∧ w ≤ 2200 ∧ (2 * k + 1) * 2 ^ j0 < 9007199254740992 ∧ ((r < 4503599627370496 ∧ r = (2 * k + 1) * 2 ^ j0 ∧ j0 = w) ∨ (4503599627370496 ≤ r ∧ r % 4503599627370496 + 4503599627370496 = (2 * k + 1) * 2 ^ j0 ∧ w = j0 + (r / 4503599627370496 - 1))) := by
  rcases Nat.lt_or_ge r 4503599627370496 with h2 | h2
  · rw [mg_sub h2] at hm
    have : 2 ^ w < 2 ^ 52 := Nat.lt_of_le_of_lt (Nat.le_mul_of_pos_left (2 ^ w) (show 0 < 2 * k + 1 by omega)) (by rw [← hm]; exact h2)
    have hw := (Nat.pow_lt_pow_iff_right (by decide)).1 this
    exact ⟨w, Nat.le_refl _, by omega, by omega, .inl ⟨h2, hm, rfl⟩⟩
  · rw [mg_nrm h2] at hm
    obtain ⟨k', z, hz⟩ := odd_part _ (4503599627370496 + r % 4503599627370496) (Nat.le_refl _) (by omega)
    rw [hz, Nat.mul_assoc, ← Nat.pow_add] at hm
    obtain ⟨e1, e2⟩ := odd_eq hm
    subst e1
    have : 2 ^ z < 2 ^ 53 := Nat.lt_of_le_of_lt (Nat.le_mul_of_pos_left (2 ^ z) (show 0 < 2 * k' + 1 by omega)) (by rw [← hz]; omega)
    have hw := (Nat.pow_lt_pow_iff_right (by decide)).1 this
    exact ⟨z, by omega, by omega, by omega, .inr ⟨h2, by omega, by omega⟩⟩
theorem q_Parts1 (x k w : Nat) (hx : x < 18446744073709551616) (h0 : 0 < rg x) (h1 : rg x < 9218868437227405312) (hm : mg (rg x) = (2 * k + 1) * 2 ^ w) :
    Spec Tryz.prog 28 [u64 x] (.tup [.sc (.bool (sgx x)), u64 (2 * k + 1), .sc (.int .i64 ((w : Int) - 1074)), .sc (.int .i64 0)]) := by
  refine spec_of_awp mixed Tryz.func28 rfl Tryz.call28 (by kernel_rfl) (by simp) rfl ?_
  refine T (call_by (q_Size x) ?_)
  rw [sgx_eq hx]
  obtain ⟨j0, hj, hw, hb, hj2⟩ := mg_bound h1 hm h0
  rcases hj2 with ⟨g1, g2, g3⟩ | ⟨g1, g2, g3⟩
  · refine T (w_loop (α := Nat) (fun j => [(.t 0, u64 x), (.t 7, u64 ((2 * k + 1) * 2 ^ j)), (.t 8, .sc (.int .i64 ((w : Int) - 1074 - j)))]) (fun j => j ≤ w ∧ (2 * k + 1) * 2 ^ j < 9007199254740992) id j0 ⟨hj, hb⟩ ?_ ?_)
    · exact Hk rfl <| Hk (congrArg (fun z => AV.sc (Value.int .u64 z)) (by omega)) <| Hk (congrArg (fun z => AV.sc (Value.int .i64 z)) (by omega)) trivial
    rintro j r ⟨c1, c2⟩ J hJ
    rcases j with _ | j
    · simp only [Nat.pow_zero, Nat.mul_one] at c2 ⊢
      by_cases hs : 9223372036854775808 ≤ x
      · rw [decide_eq_true hs]
        refine T (r_ret ?_)
        rw [Tryz.results28]
        refine R (wk_eq ?_)
        rw [Int.sub_zero]
        exact congrArg (fun z => AV.tup [_, AV.sc (Value.int .u64 z), _, _]) (by omega)
      · rw [decide_eq_false hs]
        refine T (r_ret ?_)
        rw [Tryz.results28]
        refine R (wk_eq ?_)
        rw [Int.sub_zero]
        exact congrArg (fun z => AV.tup [_, AV.sc (Value.int .u64 z), _, _]) (by omega)
    · have e : (2 * k + 1) * 2 ^ (j + 1) = 2 * ((2 * k + 1) * 2 ^ j) := by rw [Nat.pow_succ]; simp only [Nat.mul_assoc, Nat.mul_comm, Nat.mul_left_comm]
      generalize (2 * k + 1) * 2 ^ (j + 1) = M at *
      generalize hN : (2 * k + 1) * 2 ^ j = N at *
      subst e
      refine T ?_
      exact hJ _ j (Nat.lt_succ_self _) ⟨by omega, by omega⟩ (Hk rfl <| Hk (congrArg (fun z => AV.sc (Value.int .u64 z)) (by rw [hN]; omega)) <| Hk (congrArg (fun z => AV.sc (Value.int .i64 z)) (by omega)) trivial)
  · refine T (w_loop (α := Nat) (fun j => [(.t 0, u64 x), (.t 7, u64 ((2 * k + 1) * 2 ^ j)), (.t 8, .sc (.int .i64 ((w : Int) - 1074 - j)))]) (fun j => j ≤ w ∧ (2 * k + 1) * 2 ^ j < 9007199254740992) id j0 ⟨hj, hb⟩ ?_ ?_)
    · exact Hk rfl <| Hk (congrArg (fun z => AV.sc (Value.int .u64 z)) (by omega)) <| Hk (congrArg (fun z => AV.sc (Value.int .i64 z)) (by omega)) trivial
    rintro j r ⟨c1, c2⟩ J hJ
    rcases j with _ | j
    · simp only [Nat.pow_zero, Nat.mul_one] at c2 ⊢
      by_cases hs : 9223372036854775808 ≤ x
      · rw [decide_eq_true hs]
        refine T (r_ret ?_)
        rw [Tryz.results28]
        refine R (wk_eq ?_)
        rw [Int.sub_zero]
        exact congrArg (fun z => AV.tup [_, AV.sc (Value.int .u64 z), _, _]) (by omega)
      · rw [decide_eq_false hs]
        refine T (r_ret ?_)
        rw [Tryz.results28]
        refine R (wk_eq ?_)
        rw [Int.sub_zero]
        exact congrArg (fun z => AV.tup [_, AV.sc (Value.int .u64 z), _, _]) (by omega)
    · have e : (2 * k + 1) * 2 ^ (j + 1) = 2 * ((2 * k + 1) * 2 ^ j) := by rw [Nat.pow_succ]; simp only [Nat.mul_assoc, Nat.mul_comm, Nat.mul_left_comm]
      generalize (2 * k + 1) * 2 ^ (j + 1) = M at *
      generalize hN : (2 * k + 1) * 2 ^ j = N at *
      subst e
      refine T ?_
      exact hJ _ j (Nat.lt_succ_self _) ⟨by omega, by omega⟩ (Hk rfl <| Hk (congrArg (fun z => AV.sc (Value.int .u64 z)) (by rw [hN]; omega)) <| Hk (congrArg (fun z => AV.sc (Value.int .i64 z)) (by omega)) trivial)
end Go.Ab
end
