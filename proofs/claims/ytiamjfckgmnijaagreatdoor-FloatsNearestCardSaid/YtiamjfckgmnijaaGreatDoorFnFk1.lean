import Derived.Test.YtiamjfckgmnijaaGreatDoorFnNa
import Derived.Test.YtiamjfckgmnijaaGreatDoorFnFl4
set_option linter.all false
section
namespace Go.Ab
open Go Go.Proofs
set_option maxRecDepth 100000
set_option exponentiation.threshold 5000
set_option maxHeartbeats 4000000
theorem rnd_mul (m j s : Nat) (h1 : 1 ≤ s) (h2 : s ≤ j) : rnd (m * 2 ^ j) s = m * 2 ^ (j - s) := by
  have p := Nat.two_pow_pos s
  have p1 := Nat.two_pow_pos (s - 1)
  have e : m * 2 ^ j = m * 2 ^ (j - s) * 2 ^ s := by rw [Nat.mul_assoc, ← Nat.pow_add, show j - s + s = j by omega]
  unfold rnd
  rw [e, Nat.mul_mod_left, Nat.mul_div_cancel _ p, if_neg (by omega), Nat.add_zero]
theorem jr_mul {m j w r : Nat} (h0 : 0 < m) (hm : m < 9007199254740992) (hj : m * 2 ^ j < 18446744073709551616) (hj2 : j ≤ 63) (h1 : r < 9218868437227405312) (hr : mg r = m * 2 ^ w) : jr (m * 2 ^ j) ((w : Int) - 1074 - j) = r := by
  have p := Nat.two_pow_pos j
  have h0' : 0 < m * 2 ^ j := Nat.mul_pos h0 p
  have hl : m.log2 < 53 := (Nat.log2_lt (by omega)).2 hm
  have hL := log2_mul_pow j h0
  have q1 := jq_le (man := m * 2 ^ j) (exp := (w : Int) - 1074 - j)
  have q3 : jq (m * 2 ^ j) ((w : Int) - 1074 - j) ≤ (w : Int) - 1074 := by unfold jq; rw [hL]; omega
  have ij := isR_jr h0' hj (exp := (w : Int) - 1074 - j) (by omega) _ rfl
  by_cases hc : jq (m * 2 ^ j) ((w : Int) - 1074 - j) ≤ (w : Int) - 1074 - j
  · rw [if_pos hc, (jm_a h0' hc).2.2.1, Nat.mul_assoc, ← Nat.pow_add, show j + ((w : Int) - 1074 - j + 1074).toNat = w by omega, ← hr] at ij
    exact isR_uniq ij (.inl ⟨h1, rfl⟩)
  · rw [if_neg hc] at ij
    generalize jq (m * 2 ^ j) ((w : Int) - 1074 - j) = q at *
    rw [rnd_mul m j _ (by omega) (by omega), Nat.mul_assoc, ← Nat.pow_add, show j - (q - ((w : Int) - 1074 - j)).toNat + (q + 1074).toNat = w by omega, ← hr] at ij
    exact isR_uniq ij (.inl ⟨h1, rfl⟩)
theorem next_lt {x : Nat} (hx : x < 18446744073709551616) : nextW x < 18446744073709551616 := by
  unfold nextW
  have h1' : rg x = x % 9223372036854775808 := rfl
  split
  · omega
  · split
    · omega
    · split
      · omega
      · split <;> omega
theorem prev_lt {x : Nat} (hx : x < 18446744073709551616) : prevW x < 18446744073709551616 := by
  unfold prevW
  have h1' : rg x = x % 9223372036854775808 := rfl
  split
  · omega
  · split
    · omega
    · split
      · omega
      · split <;> omega
theorem prev_next {x : Nat} (hx : x < 18446744073709551616) (h : rg x < 9218868437227405312) : prevW (nextW x) = x ∧ rg (nextW x) ≤ 9218868437227405312 ∧ key x ≤ key (nextW x) := by
  have h1' : rg x = x % 9223372036854775808 := rfl
  have hn : nextW x = if x = 9223372036854775808 then 0 else if 9223372036854775808 < x then x - 1 else x + 1 := by
    unfold nextW
    rw [if_neg (by omega), if_neg (by omega)]
  rw [hn]
  by_cases h4 : x = 9223372036854775808
  · subst h4
    rw [if_pos rfl]
    exact ⟨by decide, by decide, by decide⟩
  rw [if_neg h4]
  by_cases h6 : 9223372036854775808 < x
  · rw [if_pos h6]
    have e : rg (x - 1) = (x - 1) % 9223372036854775808 := rfl
    refine ⟨?_, by omega, ?_⟩
    · unfold prevW
      rw [if_neg (by omega), if_neg (by omega), if_neg (by omega), if_pos (by omega)]
      omega
    · rw [key_hi hx (by omega), key_hi (by omega) (by omega)]
      omega
  · rw [if_neg h6]
    have e : rg (x + 1) = (x + 1) % 9223372036854775808 := rfl
    refine ⟨?_, by omega, ?_⟩
    · unfold prevW
      rw [if_neg (by omega), if_neg (by omega), if_neg (by omega), if_neg (by omega)]
      omega
    · rw [key_lo (by omega), key_lo (by omega)]
      omega
theorem next_prev {x : Nat} (hx : x < 18446744073709551616) (h : rg x < 9218868437227405312) : nextW (prevW x) = x ∧ rg (prevW x) ≤ 9218868437227405312 ∧ key (prevW x) ≤ key x := by
  have h1' : rg x = x % 9223372036854775808 := rfl
  have hn : prevW x = if x = 0 then 9223372036854775808 else if 9223372036854775808 ≤ x then x + 1 else x - 1 := by
    unfold prevW
    rw [if_neg (by omega), if_neg (by omega)]
  rw [hn]
  by_cases h4 : x = 0
  · subst h4
    rw [if_pos rfl]
    exact ⟨by decide, by decide, by decide⟩
  rw [if_neg h4]
  by_cases h6 : 9223372036854775808 ≤ x
  · rw [if_pos h6]
    have e : rg (x + 1) = (x + 1) % 9223372036854775808 := rfl
    refine ⟨?_, by omega, ?_⟩
    · unfold nextW
      rw [if_neg (by omega), if_neg (by omega), if_neg (by omega), if_pos (by omega)]
      omega
    · rw [key_hi hx (by omega), key_hi (by omega) (by omega)]
      omega
  · rw [if_neg h6]
    have e : rg (x - 1) = (x - 1) % 9223372036854775808 := rfl
    refine ⟨?_, by omega, ?_⟩
    · unfold nextW
      rw [if_neg (by omega), if_neg (by omega), if_neg (by omega), if_neg (by omega)]
      omega
    · rw [key_lo (by omega), key_lo (by omega)]
      omega
theorem pr_ge (P : Program) (t : TypeId) (x y : Operand) (a b : Nat) : pureRun P (do eqGuard .geq t x y (.float .f64 a) (.float .f64 b); binOp .geq t (.float .f64 a) (.float .f64 b)) = some (.bool (Ieee.double.order a b == some .gt || Ieee.double.order a b == some .eq)) := rfl
theorem pr_le (P : Program) (t : TypeId) (x y : Operand) (a b : Nat) : pureRun P (do eqGuard .leq t x y (.float .f64 a) (.float .f64 b); binOp .leq t (.float .f64 a) (.float .f64 b)) = some (.bool (Ieee.double.order a b == some .lt || Ieee.double.order a b == some .eq)) := rfl
theorem ge_ok {x y : Nat} (hx : rg x ≤ 9218868437227405312) (hy : rg y ≤ 9218868437227405312) (h : key x ≤ key y) : (Ieee.double.order y x == some .gt || Ieee.double.order y x == some .eq) = true := by
  rw [key_cmp hy hx]
  rcases Int.lt_or_eq_of_le h with h | h
  · rw [cmp_gt h]; rfl
  · rw [h, cmp_eq]; rfl
theorem le_ok {x y : Nat} (hx : rg x ≤ 9218868437227405312) (hy : rg y ≤ 9218868437227405312) (h : key y ≤ key x) : (Ieee.double.order y x == some .lt || Ieee.double.order y x == some .eq) = true := by
  rw [key_cmp hy hx]
  rcases Int.lt_or_eq_of_le h with h | h
  · rw [cmp_lt h]; rfl
  · rw [h, cmp_eq]; rfl
theorem ne_key {x y : Nat} (hx : rg x ≤ 9218868437227405312) (hy : rg y ≤ 9218868437227405312) (h : key y = key x) : (Ieee.double.order y x != some .eq) = false := by
  rw [key_cmp hy hx, h, cmp_eq]
  rfl
theorem key_zero {x : Nat} (h : rg x = 0) : key x = 0 := by
  have := key_bd x
  omega
end Go.Ab
end
