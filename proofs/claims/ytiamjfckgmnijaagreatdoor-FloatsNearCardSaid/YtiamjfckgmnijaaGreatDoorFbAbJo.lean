import Derived.Test.YtiamjfckgmnijaaGreatDoorFbAbJn
set_option linter.all false
section
namespace Go.Ab
open Ieee
set_option exponentiation.threshold 5000
theorem log2_bd {m : Nat} (h : 0 < m) : 2 ^ m.log2 ≤ m ∧ m < 2 ^ (m.log2 + 1) := ⟨Nat.log2_self_le (by omega), Nat.lt_log2_self⟩
theorem log2_le63 {m : Nat} (h0 : 0 < m) (h : m < 18446744073709551616) : m.log2 ≤ 63 := by
  have := (Nat.log2_lt (k := 64) (by omega)).2 h
  omega
theorem jq_le {man : Nat} {exp : Int} : -1074 ≤ jq man exp := by unfold jq; omega
theorem jm_a {man : Nat} {exp : Int} (h0 : 0 < man) (hq : jq man exp ≤ exp) :
    man * 2 ^ (exp - jq man exp).toNat ≤ 9007199254740992 ∧ (man * 2 ^ (exp - jq man exp).toNat < 4503599627370496 → jq man exp = -1074) ∧ man * 2 ^ (exp - jq man exp).toNat * 2 ^ (jq man exp + 1074).toNat = man * 2 ^ (exp + 1074).toNat ∧ man ≤ 9007199254740992 := by
  obtain ⟨b1, b2⟩ := log2_bd h0
  have q1 := jq_le (man := man) (exp := exp)
  have q2 : exp + ((man.log2 + 1 : Nat) : Int) - 53 ≤ jq man exp := by unfold jq; omega
  have q3 : jq man exp = -1074 ∨ jq man exp = exp + ((man.log2 + 1 : Nat) : Int) - 53 := by unfold jq; omega
  generalize jq man exp = q at *
  have p := Nat.two_pow_pos (exp - q).toNat
  refine ⟨?_, ?_, ?_, ?_⟩
  · have h1 : man * 2 ^ (exp - q).toNat < 2 ^ (man.log2 + 1) * 2 ^ (exp - q).toNat := Nat.mul_lt_mul_of_pos_right b2 p
    rw [← Nat.pow_add] at h1
    have h2 : 2 ^ (man.log2 + 1 + (exp - q).toNat) ≤ 2 ^ 53 := Nat.pow_le_pow_right (by decide) (by omega)
    exact Nat.le_of_lt (Nat.lt_of_lt_of_le h1 h2)
  · intro h3
    rcases q3 with q3 | q3
    · exact q3
    · exfalso
      have h1 : 2 ^ man.log2 * 2 ^ (exp - q).toNat ≤ man * 2 ^ (exp - q).toNat := Nat.mul_le_mul_right _ b1
      rw [← Nat.pow_add, show man.log2 + (exp - q).toNat = 52 by omega] at h1
      omega
  · rw [Nat.mul_assoc, ← Nat.pow_add, show (exp - q).toNat + (q + 1074).toNat = (exp + 1074).toNat by omega]
  · have h2 : 2 ^ (man.log2 + 1) ≤ 2 ^ 53 := Nat.pow_le_pow_right (by decide) (by omega)
    exact Nat.le_of_lt (Nat.lt_of_lt_of_le b2 h2)
theorem jm_b {man s : Nat} {exp : Int} (h0 : 0 < man) (hs : jq man exp - exp = s) (h1 : 1 ≤ s) (h2 : s ≤ 64) :
    rnd man s ≤ 9007199254740992 ∧ (rnd man s < 4503599627370496 → jq man exp = -1074) := by
  obtain ⟨b1, b2⟩ := log2_bd h0
  have q2 : exp + ((man.log2 + 1 : Nat) : Int) - 53 ≤ jq man exp := by unfold jq; omega
  have q3 : jq man exp = -1074 ∨ jq man exp = exp + ((man.log2 + 1 : Nat) : Int) - 53 := by unfold jq; omega
  generalize jq man exp = q at *
  have p := Nat.two_pow_pos s
  have hd : man / 2 ^ s < 2 ^ 53 := by
    rw [Nat.div_lt_iff_lt_mul p, ← Nat.pow_add]
    exact Nat.lt_of_lt_of_le b2 (Nat.pow_le_pow_right (by decide) (by omega))
  refine ⟨?_, ?_⟩
  · unfold rnd
    split <;> omega
  · intro h3
    rcases q3 with q3 | q3
    · exact q3
    · exfalso
      have h4 : 2 ^ 52 ≤ man / 2 ^ s := by
        rw [Nat.le_div_iff_mul_le p, ← Nat.pow_add, show 52 + s = man.log2 by omega]
        exact b1
      unfold rnd at h3
      omega
theorem low_cmp {man s : Nat} (h1 : 1 ≤ s) (h2 : s ≤ 64) : (9223372036854775808 < man % 2 ^ s * 2 ^ (64 - s) ↔ 2 ^ (s - 1) < man % 2 ^ s) ∧ (man % 2 ^ s * 2 ^ (64 - s) = 9223372036854775808 ↔ man % 2 ^ s = 2 ^ (s - 1)) := by
  have e : 9223372036854775808 = 2 ^ (s - 1) * 2 ^ (64 - s) := by rw [← Nat.pow_add, show s - 1 + (64 - s) = 63 by omega]
  have p := Nat.two_pow_pos (64 - s)
  rw [e]
  refine ⟨Nat.mul_lt_mul_right p, ?_⟩
  constructor
  · intro h; exact Nat.eq_of_mul_eq_mul_right p h
  · intro h; rw [h]
theorem low_mod {man s : Nat} (h1 : 1 ≤ s) (h2 : s ≤ 64) : man * 2 ^ (64 - s) % 18446744073709551616 = man % 2 ^ s * 2 ^ (64 - s) := by
  have e : 18446744073709551616 = 2 ^ s * 2 ^ (64 - s) := by rw [← Nat.pow_add, show s + (64 - s) = 64 by omega]
  rw [e, Nat.mul_mod_mul_right]
theorem isR_jr {man : Nat} {exp : Int} (h0 : 0 < man) (hm : man < 18446744073709551616) (hc : jq man exp - exp ≤ 64) (m : Nat) (hmm : m = if jq man exp ≤ exp then man * 2 ^ (exp - jq man exp).toNat else rnd man (jq man exp - exp).toNat) :
    isR (m * 2 ^ (jq man exp + 1074).toNat) (jr man exp) := by
  obtain ⟨b1, b2⟩ := log2_bd h0
  have l := log2_le63 h0 hm
  have q1 := jq_le (man := man) (exp := exp)
  have q2 : exp + ((man.log2 + 1 : Nat) : Int) - 53 ≤ jq man exp := by unfold jq; omega
  have q3 : jq man exp = -1074 ∨ jq man exp = exp + ((man.log2 + 1 : Nat) : Int) - 53 := by unfold jq; omega
  have he : -3000 ≤ exp := by omega
  have hmb : m ≤ 9007199254740992 ∧ (m < 4503599627370496 → jq man exp = -1074) := by
    by_cases h : jq man exp ≤ exp
    · rw [if_pos h] at hmm
      have := jm_a h0 h
      rw [hmm]
      exact ⟨this.1, this.2.1⟩
    · rw [if_neg h] at hmm
      rw [hmm]
      exact jm_b h0 (by omega) (by omega) (by omega)
  unfold jr
  rw [if_neg (by omega)]
  by_cases h3 : 3000 < exp
  · rw [if_pos h3]
    refine .inr ⟨rfl, ?_⟩
    have hm2 : 4503599627370496 ≤ m := by
      rcases Nat.lt_or_ge m 4503599627370496 with h | h
      · have := hmb.2 h; omega
      · exact h
    have e : 2 ^ 2098 = 4503599627370496 * 2 ^ 2046 := by rw [show 4503599627370496 = 2 ^ 52 by decide, ← Nat.pow_add]
    rw [e]
    exact Nat.mul_le_mul hm2 (Nat.pow_le_pow_right (by decide) (by omega))
  · rw [if_neg h3, if_neg (by omega), ← hmm]
    exact isR_fin hmb.1 q1 hmb.2
end Go.Ab
end
