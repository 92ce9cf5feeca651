import Derived.Test.YtiamjfckgmnijaaGreatDoorFbAbN
set_option linter.all false
section
namespace Go.Ab
open Ieee
set_option exponentiation.threshold 5000
def isR (v r : Nat) : Prop := (r < 9218868437227405312 ∧ mg r = v) ∨ (r = 9218868437227405312 ∧ 2 ^ 2098 ≤ v)
theorem mg_inf : mg 9218868437227405312 = 2 ^ 2098 := by
  rw [mg_nrm (by decide), show 9218868437227405312 % 4503599627370496 = 0 by decide, show 9218868437227405312 / 4503599627370496 = 2047 by decide, Nat.add_zero, show 4503599627370496 = 2 ^ 52 by decide, ← Nat.pow_add]
theorem isR_uniq {v r r' : Nat} (h : isR v r) (h' : isR v r') : r = r' := by
  have lt : ∀ {a b : Nat}, mg a = mg b → a = b := by
    intro a b e
    rcases Nat.lt_trichotomy a b with h1 | h1 | h1
    · have := mg_lt h1; omega
    · exact h1
    · have := mg_lt h1; omega
  have big : ∀ {a : Nat}, a < 9218868437227405312 → mg a < 2 ^ 2098 := by
    intro a ha
    have := mg_lt ha
    rwa [mg_inf] at this
  rcases h with ⟨h1, h2⟩ | ⟨h1, h2⟩ <;> rcases h' with ⟨h3, h4⟩ | ⟨h3, h4⟩
  · exact lt (by rw [h2, h4])
  · have := big h1; omega
  · have := big h3; omega
  · omega
def finR (m : Nat) (q : Int) : Nat :=
  if m = 9007199254740992 then (if 2046 < q + 1076 then 9218868437227405312 else (q + 1076).toNat * 4503599627370496)
  else if m < 4503599627370496 then m else if 2046 < q + 1075 then 9218868437227405312 else (q + 1074).toNat * 4503599627370496 + m
theorem isR_nrm {m : Nat} {q : Int} (h1 : 4503599627370496 ≤ m) (h2 : m < 9007199254740992) (hq : -1074 ≤ q) : isR (m * 2 ^ (q + 1074).toNat) (if 2046 < q + 1075 then 9218868437227405312 else (q + 1074).toNat * 4503599627370496 + m) := by
  by_cases h : 2046 < q + 1075
  · rw [if_pos h]
    refine .inr ⟨rfl, ?_⟩
    have e : 2 ^ 2098 = 4503599627370496 * 2 ^ 2046 := by rw [show 4503599627370496 = 2 ^ 52 by decide, ← Nat.pow_add]
    rw [e]
    exact Nat.mul_le_mul h1 (Nat.pow_le_pow_right (by decide) (by omega))
  · rw [if_neg h]
    have hk : (q + 1074).toNat < 2046 := by omega
    generalize (q + 1074).toNat = k at *
    refine .inl ⟨by omega, ?_⟩
    rw [mg_nrm (by omega), show (k * 4503599627370496 + m) % 4503599627370496 = m - 4503599627370496 by omega, show (k * 4503599627370496 + m) / 4503599627370496 = k + 1 by omega, show 4503599627370496 + (m - 4503599627370496) = m by omega, show k + 1 - 1 = k by omega]
theorem isR_fin {m : Nat} {q : Int} (h2 : m ≤ 9007199254740992) (hq : -1074 ≤ q) (hs : m < 4503599627370496 → q = -1074) : isR (m * 2 ^ (q + 1074).toNat) (finR m q) := by
  unfold finR
  by_cases h : m = 9007199254740992
  · rw [if_pos h, h]
    have e : 9007199254740992 * 2 ^ (q + 1074).toNat = 4503599627370496 * 2 ^ (q + 1 + 1074).toNat := by
      rw [show (q + 1 + 1074).toNat = (q + 1074).toNat + 1 by omega, Nat.pow_succ, Nat.mul_comm _ 2, ← Nat.mul_assoc]
    rw [e]
    have := isR_nrm (m := 4503599627370496) (q := q + 1) (by decide) (by decide) (by omega)
    by_cases h3 : 2046 < q + 1076
    · rw [if_pos h3]; rwa [if_pos (by omega)] at this
    · rw [if_neg h3]; rw [if_neg (by omega)] at this
      rwa [show (q + 1 + 1074).toNat * 4503599627370496 + 4503599627370496 = (q + 1076).toNat * 4503599627370496 by omega] at this
  · rw [if_neg h]
    by_cases h3 : m < 4503599627370496
    · rw [if_pos h3, hs h3]
      exact .inl ⟨by omega, by rw [mg_sub h3, show ((-1074 : Int) + 1074).toNat = 0 by decide]; omega⟩
    · rw [if_neg h3]
      exact isR_nrm (by omega) (by omega) hq
theorem fl_ex {m : Nat} (h0 : 1 ≤ m) (h : m ≤ 9007199254740992) : ∃ y, 4503599627370496 ≤ y ∧ y < 9218868437227405312 ∧ mg y = m * 2 ^ 1074 ∧ y / 4503599627370496 = 1023 + m.log2 := by
  by_cases h1 : m = 9007199254740992
  · subst h1
    refine ⟨1076 * 4503599627370496, by decide, by decide, ?_, ?_⟩
    · rw [mg_nrm (by decide), show 1076 * 4503599627370496 % 4503599627370496 = 0 by decide, show 1076 * 4503599627370496 / 4503599627370496 - 1 = 1075 by decide, show 2 ^ 1075 = 2 ^ 1074 * 2 from Nat.pow_succ ..]
    · rw [show Nat.log2 9007199254740992 = 53 from (Nat.log2_eq_iff (by decide)).2 ⟨by decide, by decide⟩]
  · have hl : m.log2 < 53 := (Nat.log2_lt (by omega)).2 (by omega)
    have l1 := Nat.log2_self_le (n := m) (by omega)
    have l2 : m < 2 ^ (m.log2 + 1) := Nat.lt_log2_self
    have p := Nat.two_pow_pos (52 - m.log2)
    have e1 : 2 ^ m.log2 * 2 ^ (52 - m.log2) = 4503599627370496 := by rw [← Nat.pow_add, show m.log2 + (52 - m.log2) = 52 by omega]
    have e2 : 2 ^ (m.log2 + 1) * 2 ^ (52 - m.log2) = 9007199254740992 := by rw [← Nat.pow_add, show m.log2 + 1 + (52 - m.log2) = 53 by omega]
    have b1 : 4503599627370496 ≤ m * 2 ^ (52 - m.log2) := by rw [← e1]; exact Nat.mul_le_mul_right _ l1
    have b2 : m * 2 ^ (52 - m.log2) < 9007199254740992 := by rw [← e2]; exact Nat.mul_lt_mul_of_pos_right l2 p
    have hv : m * 2 ^ 1074 = m * 2 ^ (52 - m.log2) * 2 ^ (1022 + m.log2) := by rw [Nat.mul_assoc, ← Nat.pow_add, show 52 - m.log2 + (1022 + m.log2) = 1074 by omega]
    rw [hv]
    generalize m * 2 ^ (52 - m.log2) = M at *
    generalize m.log2 = L at *
    refine ⟨(1022 + L) * 4503599627370496 + M, by omega, by omega, ?_, by omega⟩
    rw [mg_nrm (by omega), show ((1022 + L) * 4503599627370496 + M) % 4503599627370496 = M - 4503599627370496 by omega, show ((1022 + L) * 4503599627370496 + M) / 4503599627370496 - 1 = 1022 + L by omega, show 4503599627370496 + (M - 4503599627370496) = M by omega]
theorem fl_nearest {m y : Nat} (h : y < 9218868437227405312) (hm : mg y = m * 2 ^ 1074) : double.nearest false m 0 = y := by
  rw [near_exact false h (by rw [hm]; simp)]
  rfl
def rnd (man s : Nat) : Nat := man / 2 ^ s + (if 2 ^ (s - 1) < man % 2 ^ s ∨ (man % 2 ^ s = 2 ^ (s - 1) ∧ man / 2 ^ s % 2 = 1) then 1 else 0)
def jq (man : Nat) (exp : Int) : Int := max (exp + ((man.log2 + 1 : Nat) : Int) - 53) (-1074)
def jr (man : Nat) (exp : Int) : Nat :=
  if man = 0 ∨ exp < -3000 then 0 else if 3000 < exp then 9218868437227405312 else if 64 < jq man exp - exp then 0
  else finR (if jq man exp ≤ exp then man * 2 ^ (exp - jq man exp).toNat else rnd man (jq man exp - exp).toNat) (jq man exp)
end Go.Ab
end
