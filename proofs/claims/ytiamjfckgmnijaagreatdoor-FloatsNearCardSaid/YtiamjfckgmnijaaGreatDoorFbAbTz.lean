import Derived.Test.YtiamjfckgmnijaaGreatDoorFbAbF
set_option linter.all false
section
namespace Go.Ab
theorem odd_part : ∀ (n M : Nat), M ≤ n → 0 < M → ∃ k z, M = (2 * k + 1) * 2 ^ z
  | 0, M, h, h0 => by omega
  | n + 1, M, h, h0 => by
    rcases Nat.mod_two_eq_zero_or_one M with h1 | h1
    · obtain ⟨k, z, e⟩ := odd_part n (M / 2) (by omega) (by omega)
      refine ⟨k, z + 1, ?_⟩
      rw [Nat.pow_succ, ← Nat.mul_assoc, ← e]
      omega
    · exact ⟨M / 2, 0, by simp; omega⟩
theorem and_neg {k z N : Nat} (h : (2 * k + 1) * 2 ^ z < 2 ^ N) : (2 * k + 1) * 2 ^ z &&& (2 ^ N - (2 * k + 1) * 2 ^ z) = 2 ^ z := by
  have p := Nat.two_pow_pos z
  obtain ⟨m, hm⟩ : ∃ m, (2 * k + 1) * 2 ^ z = m + 1 := ⟨(2 * k + 1) * 2 ^ z - 1, by have := Nat.mul_pos (show 0 < 2 * k + 1 by omega) p; omega⟩
  have hzN : z < N := by
    have : 2 ^ z < 2 ^ N := Nat.lt_of_le_of_lt (Nat.le_mul_of_pos_left _ (by omega)) h
    exact (Nat.pow_lt_pow_iff_right (by decide)).1 this
  have hm' : m = 2 ^ z * (2 * k) + (2 ^ z - 1) := by
    have : (2 * k + 1) * 2 ^ z = 2 ^ z * (2 * k) + 2 ^ z := by rw [Nat.add_mul, Nat.one_mul, Nat.mul_comm]
    omega
  refine Nat.eq_of_testBit_eq fun i => ?_
  rw [Nat.testBit_and, hm, Nat.testBit_two_pow_sub_succ (by omega), ← hm, Nat.testBit_two_pow]
  rw [Nat.mul_comm, Nat.testBit_two_pow_mul]
  rcases Nat.lt_trichotomy i z with h1 | h1 | h1
  · simp [show ¬ z ≤ i by omega, show ¬ z = i by omega]
  · subst h1
    have e : (2 * k + 1).testBit 0 = true := by simp
    rw [Nat.sub_self, e, hm', Nat.testBit_two_pow_mul_add _ (by omega)]
    simp [hzN]
  · have e1 : m.testBit i = (2 * k).testBit (i - z) := by
      rw [hm', Nat.testBit_two_pow_mul_add _ (by omega), if_neg (by omega)]
    have e2 : (2 * k + 1).testBit (i - z) = (2 * k).testBit (i - z) := by
      obtain ⟨j, hj⟩ : ∃ j, i - z = j + 1 := ⟨i - z - 1, by omega⟩
      rw [hj, Nat.testBit_succ, Nat.testBit_succ, show (2 * k + 1) / 2 = k by omega, show 2 * k / 2 = k by omega]
    rw [e1, e2]
    simp only [show decide (z = i) = false by simp; omega]
    cases (2 * k).testBit (i - z) <;> simp
end Go.Ab
end
