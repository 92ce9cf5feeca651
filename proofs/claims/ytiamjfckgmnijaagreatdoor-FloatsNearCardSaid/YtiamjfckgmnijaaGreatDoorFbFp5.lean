import Derived.Test.YtiamjfckgmnijaaGreatDoorFbFp4
import Derived.Test.YtiamjfckgmnijaaGreatDoorFbAbTs
set_option linter.all false
section
namespace Go.Ab
open Go Go.Proofs
set_option maxRecDepth 100000
set_option maxHeartbeats 4000000
theorem Hk {s : S} {l : Loc} {v : AV} {t : List (Loc × AV)} (h : s l = v) (k : Has t s) : Has ((l, v) :: t) s := ⟨h, k⟩
theorem odd_eq {a b i j : Nat} (h : (2 * a + 1) * 2 ^ i = (2 * b + 1) * 2 ^ j) : a = b ∧ i = j := by
  rcases Nat.lt_trichotomy i j with h1 | h1 | h1
  · obtain ⟨d, rfl⟩ : ∃ d, j = i + 1 + d := ⟨j - (i + 1), by omega⟩
    rw [Nat.pow_add, Nat.pow_succ] at h
    have : (2 * a + 1) * 2 ^ i = (2 * ((2 * b + 1) * 2 ^ d)) * 2 ^ i := by rw [h]; simp only [Nat.mul_assoc, Nat.mul_comm, Nat.mul_left_comm]
    have := Nat.eq_of_mul_eq_mul_right (Nat.two_pow_pos i) this
    omega
  · subst h1
    have := Nat.eq_of_mul_eq_mul_right (Nat.two_pow_pos i) h
    omega
  · obtain ⟨d, rfl⟩ : ∃ d, i = j + 1 + d := ⟨i - (j + 1), by omega⟩
    rw [Nat.pow_add, Nat.pow_succ] at h
    have : (2 * b + 1) * 2 ^ j = (2 * ((2 * a + 1) * 2 ^ d)) * 2 ^ j := by rw [← h]; simp only [Nat.mul_assoc, Nat.mul_comm, Nat.mul_left_comm]
    have := Nat.eq_of_mul_eq_mul_right (Nat.two_pow_pos j) this
    omega
theorem s_Parts1 (x k w : Nat) (hx : x < 18446744073709551616) (h0 : 0 < rg x) (h1 : rg x < 9218868437227405312) (hm : mg (rg x) = (2 * k + 1) * 2 ^ w) :
    Spec Tryz.prog 21 [f64 x] (.tup [.sc (.bool (sgx x)), u64 (2 * k + 1), .sc (.int .i64 ((w : Int) - 1074)), .sc (.int .i64 0)]) := by
  rcases Nat.lt_or_ge (rg x) 4503599627370496 with h2 | h2
  · obtain ⟨a1, a2, a3⟩ := up52_fact h0 h2
    obtain ⟨d1, d2⟩ := up52_div h0 h2
    obtain ⟨u1, u2⟩ := up52_lt h0 h2
    rw [mg_sub h2] at hm
    have h := s_Parts0 x (up52 (rg x)) k (w + (52 - (rg x).log2)) (-52) hx h0 h1 (s_norm2 (rg x) h0 h2) u2 ⟨by omega, by omega⟩ (by rw [Nat.pow_add, ← Nat.mul_assoc, ← hm, d2]; omega)
    rw [d1, show (-52 : Int) + (((rg x).log2 + 1 : Nat) : Int) - 1022 - 53 + ((w + (52 - (rg x).log2) : Nat) : Int) = (w : Int) - 1074 by omega] at h
    exact h
  · rw [mg_nrm h2] at hm
    obtain ⟨k', z, hz⟩ := odd_part _ (4503599627370496 + rg x % 4503599627370496) (Nat.le_refl _) (by omega)
    rw [hz, Nat.mul_assoc, ← Nat.pow_add] at hm
    obtain ⟨e1, e2⟩ := odd_eq hm
    subst e1
    have h := s_Parts0 x (rg x) k' z 0 hx h0 h1 (s_norm1 (rg x) h2 h1) h1 ⟨by omega, by omega⟩ hz.symm
    rw [show (0 : Int) + ((rg x / 4503599627370496 : Nat) : Int) - 1022 - 53 + (z : Int) = (w : Int) - 1074 by omega] at h
    exact h
theorem s_PartsA (x : Nat) (hx : x < 18446744073709551616) (h1 : 9218868437227405312 ≤ rg x) :
    Spec Tryz.prog 21 [f64 x] (.tup [.sc (.bool false), u64 0, .sc (.int .i64 0), .sc (.int .i64 30)]) := by
  refine spec_of_awp mixed Tryz.func21 rfl Tryz.call21 (by kernel_rfl) (by simp) rfl ?_
  have cC := s_Class x hx
  have hc : (clsL x).1 ≤ 2 := by
    unfold clsL
    split
    · exact (by decide : (1 : Int) ≤ 2)
    · rw [if_pos (by omega)]
      exact (by decide : (2 : Int) ≤ 2)
  generalize clsL x = c at *
  obtain ⟨c1, c2⟩ := c
  refine T (call_by cC ?_)
  exact TR rfl
theorem s_PartsB (x : Nat) (hx : x < 18446744073709551616) (h1 : rg x = 0) :
    Spec Tryz.prog 21 [f64 x] (.tup [.sc (.bool (sgx x)), u64 0, .sc (.int .i64 0), .sc (.int .i64 0)]) := by
  refine spec_of_awp mixed Tryz.func21 rfl Tryz.call21 (by kernel_rfl) (by simp) rfl ?_
  have cC := s_Class x hx
  have hc : 2 < (clsL x).1 := by
    unfold clsL
    rw [if_neg (by omega), if_neg (by omega), if_neg (by omega), if_neg (by omega)]
    exact (by decide : (2 : Int) < 5)
  generalize clsL x = c at *
  obtain ⟨c1, c2⟩ := c
  refine T (call_by cC ?_)
  refine T ?_
  rw [pr_eq, Option.map_some, eq_zero (by omega), decide_eq_true h1]
  refine T (call_by (s_Signbit x hx) ?_)
  exact TR rfl
theorem q_PartsA (x : Nat) (h1 : 9218868437227405312 ≤ rg x) :
    Spec Tryz.prog 28 [u64 x] (.tup [.sc (.bool false), u64 0, .sc (.int .i64 0), .sc (.int .i64 30)]) := by
  refine spec_of_awp mixed Tryz.func28 rfl Tryz.call28 (by kernel_rfl) (by simp) rfl ?_
  refine T (call_by (q_Size x) ?_)
  exact TR rfl
theorem q_PartsB (x : Nat) (hx : x < 18446744073709551616) (h1 : rg x = 0) :
    Spec Tryz.prog 28 [u64 x] (.tup [.sc (.bool (sgx x)), u64 0, .sc (.int .i64 0), .sc (.int .i64 0)]) := by
  refine spec_of_awp mixed Tryz.func28 rfl Tryz.call28 (by kernel_rfl) (by simp) rfl ?_
  refine T (call_by (q_Size x) ?_)
  rw [sgx_eq hx]
  by_cases hs : 9223372036854775808 ≤ x
  · rw [decide_eq_true hs]; exact TR rfl
  · rw [decide_eq_false hs]; exact TR rfl
theorem mg_bound {r k w : Nat} (h1 : r < 9218868437227405312) (hm : mg r = (2 * k + 1) * 2 ^ w) (h0 : 0 < r) : ∃ j0, j0 ≤ w ∧ w ≤ 2200 ∧ (2 * k + 1) * 2 ^ j0 < 9007199254740992 ∧ ((r < 4503599627370496 ∧ r = (2 * k + 1) * 2 ^ j0 ∧ j0 = w) ∨ (4503599627370496 ≤ r ∧ r % 4503599627370496 + 4503599627370496 = (2 * k + 1) * 2 ^ j0 ∧ w = j0 + (r / 4503599627370496 - 1))) := by
  rcases Nat.lt_or_ge r 4503599627370496 with h2 | h2
  · rw [mg_sub h2] at hm
    have : 2 ^ w < 2 ^ 52 := Nat.lt_of_le_of_lt (Nat.le_mul_of_pos_left (2 ^ w) (show 0 < 2 * k + 1 by omega)) (by rw [← hm]; exact h2)
    have hw := (Nat.pow_lt_pow_iff_right (by decide)).1 this
    exact ⟨w, Nat.le_refl _, by omega, by omega, .inl ⟨h2, hm, rfl⟩⟩
  · rw [mg_nrm h2] at hm
    obtain ⟨k', z, hz⟩ := odd_part _ (4503599627370496 + r % 4503599627370496) (Nat.le_refl _) (by omega)
    rw [hz, Nat.mul_assoc, ← Nat.pow_add] at hm
    obtain ⟨e1, e2⟩ := odd_eq hm
    subst e1
    have : 2 ^ z < 2 ^ 53 := Nat.lt_of_le_of_lt (Nat.le_mul_of_pos_left (2 ^ z) (show 0 < 2 * k' + 1 by omega)) (by rw [← hz]; omega)
    have hw := (Nat.pow_lt_pow_iff_right (by decide)).1 this
    exact ⟨z, by omega, by omega, by omega, .inr ⟨h2, by omega, by omega⟩⟩
theorem q_Parts1 (x k w : Nat) (hx : x < 18446744073709551616) (h0 : 0 < rg x) (h1 : rg x < 9218868437227405312) (hm : mg (rg x) = (2 * k + 1) * 2 ^ w) :
    Spec Tryz.prog 28 [u64 x] (.tup [.sc (.bool (sgx x)), u64 (2 * k + 1), .sc (.int .i64 ((w : Int) - 1074)), .sc (.int .i64 0)]) := by
  refine spec_of_awp mixed Tryz.func28 rfl Tryz.call28 (by kernel_rfl) (by simp) rfl ?_
  refine T (call_by (q_Size x) ?_)
  rw [sgx_eq hx]
  obtain ⟨j0, hj, hw, hb, hj2⟩ := mg_bound h1 hm h0
  rcases hj2 with ⟨g1, g2, g3⟩ | ⟨g1, g2, g3⟩
  · refine T (w_loop (α := Nat) (fun j => [(.t 0, u64 x), (.t 7, u64 ((2 * k + 1) * 2 ^ j)), (.t 8, .sc (.int .i64 ((w : Int) - 1074 - j)))]) (fun j => j ≤ w ∧ (2 * k + 1) * 2 ^ j < 9007199254740992) id j0 ⟨hj, hb⟩ ?_ ?_)
    · exact Hk rfl <| Hk (congrArg (fun z => AV.sc (Value.int .u64 z)) (by omega)) <| Hk (congrArg (fun z => AV.sc (Value.int .i64 z)) (by omega)) trivial
    rintro j r ⟨c1, c2⟩ J hJ
    rcases j with _ | j
    · simp only [Nat.pow_zero, Nat.mul_one] at c2 ⊢
      by_cases hs : 9223372036854775808 ≤ x
      · rw [decide_eq_true hs]
        refine T (r_ret ?_)
        rw [Tryz.results28]
        refine R (wk_eq ?_)
        rw [Int.sub_zero]
        exact congrArg (fun z => AV.tup [_, AV.sc (Value.int .u64 z), _, _]) (by omega)
      · rw [decide_eq_false hs]
        refine T (r_ret ?_)
        rw [Tryz.results28]
        refine R (wk_eq ?_)
        rw [Int.sub_zero]
        exact congrArg (fun z => AV.tup [_, AV.sc (Value.int .u64 z), _, _]) (by omega)
    · have e : (2 * k + 1) * 2 ^ (j + 1) = 2 * ((2 * k + 1) * 2 ^ j) := by rw [Nat.pow_succ]; simp only [Nat.mul_assoc, Nat.mul_comm, Nat.mul_left_comm]
      generalize (2 * k + 1) * 2 ^ (j + 1) = M at *
      generalize hN : (2 * k + 1) * 2 ^ j = N at *
      subst e
      refine T ?_
      exact hJ _ j (Nat.lt_succ_self _) ⟨by omega, by omega⟩ (Hk rfl <| Hk (congrArg (fun z => AV.sc (Value.int .u64 z)) (by rw [hN]; omega)) <| Hk (congrArg (fun z => AV.sc (Value.int .i64 z)) (by omega)) trivial)
  · refine T (w_loop (α := Nat) (fun j => [(.t 0, u64 x), (.t 7, u64 ((2 * k + 1) * 2 ^ j)), (.t 8, .sc (.int .i64 ((w : Int) - 1074 - j)))]) (fun j => j ≤ w ∧ (2 * k + 1) * 2 ^ j < 9007199254740992) id j0 ⟨hj, hb⟩ ?_ ?_)
    · exact Hk rfl <| Hk (congrArg (fun z => AV.sc (Value.int .u64 z)) (by omega)) <| Hk (congrArg (fun z => AV.sc (Value.int .i64 z)) (by omega)) trivial
    rintro j r ⟨c1, c2⟩ J hJ
    rcases j with _ | j
    · simp only [Nat.pow_zero, Nat.mul_one] at c2 ⊢
      by_cases hs : 9223372036854775808 ≤ x
      · rw [decide_eq_true hs]
        refine T (r_ret ?_)
        rw [Tryz.results28]
        refine R (wk_eq ?_)
        rw [Int.sub_zero]
        exact congrArg (fun z => AV.tup [_, AV.sc (Value.int .u64 z), _, _]) (by omega)
      · rw [decide_eq_false hs]
        refine T (r_ret ?_)
        rw [Tryz.results28]
        refine R (wk_eq ?_)
        rw [Int.sub_zero]
        exact congrArg (fun z => AV.tup [_, AV.sc (Value.int .u64 z), _, _]) (by omega)
    · have e : (2 * k + 1) * 2 ^ (j + 1) = 2 * ((2 * k + 1) * 2 ^ j) := by rw [Nat.pow_succ]; simp only [Nat.mul_assoc, Nat.mul_comm, Nat.mul_left_comm]
      generalize (2 * k + 1) * 2 ^ (j + 1) = M at *
      generalize hN : (2 * k + 1) * 2 ^ j = N at *
      subst e
      refine T ?_
      exact hJ _ j (Nat.lt_succ_self _) ⟨by omega, by omega⟩ (Hk rfl <| Hk (congrArg (fun z => AV.sc (Value.int .u64 z)) (by rw [hN]; omega)) <| Hk (congrArg (fun z => AV.sc (Value.int .i64 z)) (by omega)) trivial)
end Go.Ab
end
