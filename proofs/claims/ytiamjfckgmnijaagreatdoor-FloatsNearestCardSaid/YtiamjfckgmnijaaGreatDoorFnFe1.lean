import Derived.Test.YtiamjfckgmnijaaGreatDoorFnNd
import Derived.Test.YtiamjfckgmnijaaGreatDoorFnL
set_option linter.all false
section
namespace Go.Ab
open Go Go.Proofs Go.Proofs.YtiamjfckgmnijaaGreatDoor.Pl
set_option maxRecDepth 100000
set_option exponentiation.threshold 5000
set_option maxHeartbeats 4000000
theorem val_2 (m : Nat) : val [(m : Int) % 4294967296, (m : Int) / 4294967296] = m := by
  simp only [val]
  omega
theorem wf_2 (m : Nat) (h : m < 18446744073709551616) : Wf [(m : Int) % 4294967296, (m : Int) / 4294967296] := by
  intro x hx
  simp only [List.mem_cons, List.mem_nil_iff, or_false] at hx
  rcases hx with rfl | rfl <;> omega
theorem wf_1 : Wf [1] := by
  intro x hx
  simp only [List.mem_cons, List.mem_nil_iff, or_false] at hx
  subst hx
  omega
theorem val_1 : val [1] = 1 := rfl
theorem pow2_nn (m n : Nat) : 0 ≤ (m : Int) * 2 ^ n := Int.mul_nonneg (Int.natCast_nonneg m) (Int.le_of_lt (Int.pow_pos (by decide)))
theorem small_len {m n : Nat} (hm : m < 9007199254740992) (hn : n ≤ 1100) : (N ((m : Int) * 2 ^ n)).length ≤ 100 := by
  refine (N_is (pow2_nn m n)).len ?_
  obtain ⟨K, hK⟩ : ∃ K : Nat, K = 32 * 100 := ⟨_, rfl⟩
  rw [show (4294967296 : Int) = 2 ^ 32 by decide, ← Int.pow_mul, ← hK]
  have h1 : m * 2 ^ n < 2 ^ 53 * 2 ^ n := Nat.mul_lt_mul_of_pos_right hm (Nat.two_pow_pos n)
  rw [← Nat.pow_add] at h1
  have h2 : m * 2 ^ n < 2 ^ K := Nat.lt_of_lt_of_le h1 (Nat.pow_le_pow_right (by decide) (by omega))
  exact_mod_cast h2
theorem s_Exact1 (x : Nat) (b : Bool) (m : Nat) (e : Int) (hm : m < 9007199254740992) (he : -1074 ≤ e ∧ e ≤ 1100) (hP : Spec Tryz.prog 21 [f64 x] (.tup [.sc (.bool b), u64 m, .sc (.int .i64 e), .sc (.int .i64 0)])) :
    Spec Tryz.prog 7 [f64 x] (resR (mkR b ((m : Int) * 2 ^ e.toNat) (1 * 2 ^ (-e).toNat))) := by
  refine spec_of_awp mixed Tryz.func7 rfl Tryz.call7 (by kernel_rfl) (by simp) rfl ?_
  have v2 := val_2 m
  have w2 := wf_2 m (by omega)
  by_cases h : 0 < e
  · obtain ⟨n, rfl⟩ : ∃ n : Nat, e = n := ⟨e.toNat, by omega⟩
    have sh := s_Shl _ n w2 (by simp) (by omega)
    rw [v2] at sh
    have mk := s_Make b (N ((m : Int) * 2 ^ n)) [1] (N_wf _) wf_1 (by have := small_len hm (show n ≤ 1100 by omega); omega) (by simp)
    rw [N_val (pow2_nn m n), val_1] at mk
    rw [show ((n : Nat) : Int).toNat = n by omega, show (-(n : Int)).toNat = 0 by omega, Int.pow_zero, Int.mul_one]
    refine T (call_by hP ?_)
    refine T (call_by sh ?_)
    refine T (call_by mk ?_)
    refine T (r_ret ?_)
    rw [Tryz.results7]
    refine R ?_
    exact Wk.refl _
  · obtain ⟨n, rfl⟩ : ∃ n : Nat, e = -(n : Int) := ⟨(-e).toNat, by omega⟩
    have sh := s_Shl [1] n wf_1 (by simp) (by omega)
    rw [val_1] at sh
    have mk := s_Make b [(m : Int) % 4294967296, (m : Int) / 4294967296] (N (1 * 2 ^ n)) w2 (N_wf _) (by simp) (by have := small_len (m := 1) (by decide) (show n ≤ 1100 by omega); simp only [Int.natCast_one] at this; omega)
    rw [N_val (show (0 : Int) ≤ 1 * 2 ^ n from pow2_nn 1 n), v2] at mk
    rw [show (-(n : Int)).toNat = 0 by omega, show (-(-(n : Int))).toNat = n by omega, Int.pow_zero, Int.mul_one]
    refine T (call_by hP ?_)
    refine T (call_eq (congrArg (fun z => [U [1], AV.sc (Value.int .i64 z)]) (show (0 : Int) - -(n : Int) = (n : Int) by omega)) sh ?_)
    refine T (call_by mk ?_)
    refine T (r_ret ?_)
    rw [Tryz.results7]
    refine R ?_
    exact Wk.refl _
theorem s_ExactA (x : Nat) (hP : Spec Tryz.prog 21 [f64 x] (.tup [.sc (.bool false), u64 0, .sc (.int .i64 0), .sc (.int .i64 30)])) :
    Spec Tryz.prog 7 [f64 x] (resR ((false, [], []), 30)) := by
  refine spec_of_awp mixed Tryz.func7 rfl Tryz.call7 (by kernel_rfl) (by simp) rfl ?_
  refine T (call_by hP ?_)
  refine T (r_ret ?_)
  rw [Tryz.results7]
  refine R ?_
  exact wk_zero 30
end Go.Ab
end
