import Derived.Test.YtiamjfckgmnijaaGreatDoorFbFe1
import Derived.Test.YtiamjfckgmnijaaGreatDoorFbR
import Derived.Test.YtiamjfckgmnijaaGreatDoorFbU
set_option linter.all false
section
namespace Go.Ab
open Go Go.Proofs Go.Proofs.YtiamjfckgmnijaaGreatDoor.Pl
set_option maxRecDepth 100000
set_option maxHeartbeats 4000000
theorem q_Exact1 (x : Nat) (b : Bool) (m : Nat) (e : Int) (hm : m < 9007199254740992) (he : -1074 ≤ e ∧ e ≤ 1100) (hP : Spec Tryz.prog 28 [u64 x] (.tup [.sc (.bool b), u64 m, .sc (.int .i64 e), .sc (.int .i64 0)])) :
    Spec Tryz.prog 9 [u64 x] (resR (mkR b ((m : Int) * 2 ^ e.toNat) (1 * 2 ^ (-e).toNat))) := by
  refine spec_of_awp mixed Tryz.func9 rfl Tryz.call9 (by kernel_rfl) (by simp) rfl ?_
  have v2 := val_2 m
  have w2 := wf_2 m (by omega)
  by_cases h : 0 ≤ e
  · obtain ⟨n, rfl⟩ : ∃ n : Nat, e = n := ⟨e.toNat, by omega⟩
    have sh := q_Shl _ n w2 (by simp) (by simp only [List.length_cons, List.length_nil]; omega)
    rw [v2] at sh
    have mk := q2_Make b (N ((m : Int) * 2 ^ n)) [1] (N_wf _) wf_1 (by have := small_len hm (show n ≤ 1100 by omega); omega) (by simp)
    rw [N_val (pow2_nn m n), val_1] at mk
    rw [show ((n : Nat) : Int).toNat = n by omega, show (-(n : Int)).toNat = 0 by omega, Int.pow_zero, Int.mul_one]
    refine T (call_by hP ?_)
    refine T (call_by sh ?_)
    refine T (call_by mk ?_)
    refine T (r_ret ?_)
    rw [Tryz.results9]
    refine R ?_
    exact Wk.refl _
  · obtain ⟨n, rfl⟩ : ∃ n : Nat, e = -(n : Int) := ⟨(-e).toNat, by omega⟩
    have sh := q_Shl [1] n wf_1 (by simp) (by simp only [List.length_cons, List.length_nil]; omega)
    rw [val_1] at sh
    have mk := q2_Make b [(m : Int) % 4294967296, (m : Int) / 4294967296] (N (1 * 2 ^ n)) w2 (N_wf _) (by simp) (by have := small_len (m := 1) (by decide) (show n ≤ 1100 by omega); simp only [Int.natCast_one] at this; omega)
    rw [N_val (show (0 : Int) ≤ 1 * 2 ^ n from pow2_nn 1 n), v2] at mk
    rw [show (-(n : Int)).toNat = 0 by omega, show (-(-(n : Int))).toNat = n by omega, Int.pow_zero, Int.mul_one]
    refine T (call_by hP ?_)
    refine T (call_eq (congrArg (fun z => [U [1], AV.sc (Value.int .i64 z)]) (show (0 : Int) - -(n : Int) = (n : Int) by omega)) sh ?_)
    refine T (call_by mk ?_)
    refine T (r_ret ?_)
    rw [Tryz.results9]
    refine R ?_
    exact Wk.refl _
theorem q_ExactA (x : Nat) (hP : Spec Tryz.prog 28 [u64 x] (.tup [.sc (.bool false), u64 0, .sc (.int .i64 0), .sc (.int .i64 30)])) :
    Spec Tryz.prog 9 [u64 x] (resR ((false, [], []), 30)) := by
  refine spec_of_awp mixed Tryz.func9 rfl Tryz.call9 (by kernel_rfl) (by simp) rfl ?_
  refine T (call_by hP ?_)
  refine T (r_ret ?_)
  rw [Tryz.results9]
  refine R ?_
  exact wk_zero 30
theorem mkR_len (b : Bool) (u v : Int) : (mkR b u v).1.2.1.length ≤ 16 ∧ (mkR b u v).1.2.2.length ≤ 16 := by
  unfold mkR
  split
  · simp
  · split
    · simp
    · split
      · rename_i h; exact h
      · simp
theorem l_FloatsExact (hw : Spec Tryz.prog 6 [] (.sc (.bool true))) (x : Nat) (hx : x < 18446744073709551616) : Spec Tryz.prog 3 [u64 x] (.sc (.bool true)) := by
  have main : ∀ (p : (Bool × List Int × List Int) × Int), p.1.2.1.length ≤ 16 ∧ p.1.2.2.length ≤ 16 → Spec Tryz.prog 7 [f64 x] (resR p) → Spec Tryz.prog 9 [u64 x] (resR p) → Spec Tryz.prog 3 [u64 x] (.sc (.bool true)) := by
    rintro ⟨⟨b, n, d⟩, z⟩ hl c1 c2
    refine spec_of_awp mixed Tryz.func3 rfl Tryz.call3 (by kernel_rfl) (by simp) rfl ?_
    simp only at hl
    have sm := q2_Same (b, n, d) (b, n, d) ⟨by simp only; omega, by simp only; omega⟩ ⟨by simp only; omega, by simp only; omega⟩
    rw [decide_eq_true rfl] at sm
    refine T (call_by hw ?_)
    refine T (call_by (s_of x) ?_)
    refine T (call_by c1 ?_)
    refine T (call_by c2 ?_)
    refine T (call_by sm ?_)
    exact TR rfl
  rcases Nat.lt_or_ge (rg x) 9218868437227405312 with h1 | h1
  · rcases Nat.eq_zero_or_pos (rg x) with h0 | h0
    · exact main _ (mkR_len _ _ _) (s_Exact1 x _ 0 0 (by decide) (by decide) (s_PartsB x hx h0)) (q_Exact1 x _ 0 0 (by decide) (by decide) (q_PartsB x hx h0))
    · obtain ⟨k, w, hm⟩ := odd_part _ (mg (rg x)) (Nat.le_refl _) (mg_pos h0)
      obtain ⟨j0, b1, b2, b3, b4⟩ := mg_bound h1 hm h0
      have hk : 2 * k + 1 < 9007199254740992 := Nat.lt_of_le_of_lt (Nat.le_mul_of_pos_right _ (Nat.two_pow_pos j0)) b3
      have hw2 : w ≤ 2170 := by
        have hj : j0 < 53 := (Nat.pow_lt_pow_iff_right (by decide)).1 (Nat.lt_of_le_of_lt (Nat.le_mul_of_pos_left (2 ^ j0) (show 0 < 2 * k + 1 by omega)) b3)
        omega
      exact main _ (mkR_len _ _ _) (s_Exact1 x _ _ _ hk ⟨by omega, by omega⟩ (s_Parts1 x k w hx h0 h1 hm)) (q_Exact1 x _ _ _ hk ⟨by omega, by omega⟩ (q_Parts1 x k w hx h0 h1 hm))
  · exact main _ ⟨by simp, by simp⟩ (s_ExactA x (s_PartsA x hx h1)) (q_ExactA x (q_PartsA x h1))
end Go.Ab
end
