import Derived.Test.YtiamjfckgmnijaaGreatDoorFnNx
set_option linter.all false
section
namespace Go.Ab
set_option exponentiation.threshold 5000
theorem rnd_near {A B q ρ : Int} {w c s M H : Nat} (hB : 0 < B) (hA : A = B * q + ρ) (r1 : ρ < B) (hw : (w : Int) = 2 * q + s) (hs : (s = 0 ∧ ρ = 0) ∨ (s = 1 ∧ 0 < ρ)) (hc : 2 ≤ c) (hM : M = rnd w c) (hH : H = 2 ^ (c - 1)) :
    2 * (A - B * (M * H : Nat)) ≤ B * H ∧ -(B * H) ≤ 2 * (A - B * (M * H : Nat)) := by
  have e2 : 2 ^ c = 2 * H := by rw [hH, show c = c - 1 + 1 by omega, Nat.pow_succ]; simp; omega
  have e4 : H = 2 * 2 ^ (c - 2) := by rw [hH, show c - 1 = c - 2 + 1 by omega, Nat.pow_succ]; omega
  have pH : 0 < H := by rw [hH]; exact Nat.two_pow_pos _
  unfold rnd at hM
  rw [e2, ← hH] at hM
  have hl := Nat.mod_lt w (show 0 < 2 * H by omega)
  have hd := Nat.div_add_mod w (2 * H)
  have ev : w % (2 * H) % 2 = w % 2 := Nat.mod_mod_of_dvd w ⟨H, rfl⟩
  generalize w / (2 * H) = h at *
  generalize w % (2 * H) = l at *
  have e5 : 2 * A = 2 * (B * (h * H : Nat)) + B * l - B * s + 2 * ρ := by
    have : B * (w : Int) = B * (2 * q + s) := by rw [hw]
    rw [Int.mul_add, Int.mul_left_comm] at this
    rw [← hd, Int.natCast_add, Int.mul_add, show ((2 * H * h : Nat) : Int) = 2 * ((h * H : Nat) : Int) by rw [Nat.mul_assoc, Nat.mul_comm H h]; omega, Int.mul_left_comm] at this
    omega
  have m1 : ∀ {x y : Nat}, x + 1 ≤ y → B * (x : Int) + B ≤ B * (y : Int) := by
    intro x y hxy
    have := Int.mul_le_mul_of_nonneg_left (show (x : Int) + 1 ≤ y by omega) (Int.le_of_lt hB)
    rw [Int.mul_add, Int.mul_one] at this
    exact this
  have m2 : B * ((2 * H : Nat) : Int) = 2 * (B * (H : Int)) := by rw [Int.natCast_mul, Int.mul_left_comm]; rfl
  have m3 := m1 (x := l) (y := 2 * H) (by omega)
  have m4 : 0 ≤ B * (l : Int) := Int.mul_nonneg (Int.le_of_lt hB) (by omega)
  by_cases hup : H < l ∨ (l = H ∧ h % 2 = 1)
  · rw [if_pos hup] at hM
    have e6 : B * ((M * H : Nat) : Int) = B * ((h * H : Nat) : Int) + B * (H : Int) := by rw [hM, Nat.add_mul, Nat.one_mul, Int.natCast_add, Int.mul_add]
    rw [e6]
    have m5 : B * (H : Int) ≤ B * (l : Int) := Int.mul_le_mul_of_nonneg_left (by omega) (Int.le_of_lt hB)
    rcases hs with ⟨s0, ρ0⟩ | ⟨s1, ρ1⟩
    · subst s0
      simp only [Int.natCast_zero, Int.mul_zero] at e5
      omega
    · subst s1
      simp only [Int.natCast_one, Int.mul_one] at e5
      have m6 := m1 (x := H) (y := l) (by omega)
      omega
  · rw [if_neg hup, Nat.add_zero] at hM
    subst hM
    have m5 : B * (l : Int) ≤ B * (H : Int) := Int.mul_le_mul_of_nonneg_left (by omega) (Int.le_of_lt hB)
    rcases hs with ⟨s0, ρ0⟩ | ⟨s1, ρ1⟩
    · subst s0
      simp only [Int.natCast_zero, Int.mul_zero] at e5
      omega
    · subst s1
      simp only [Int.natCast_one, Int.mul_one] at e5
      have m6 := m1 (x := l) (y := H) (by omega)
      have m7 := m1 (x := 0) (y := l) (by omega)
      simp only [Int.natCast_zero, Int.mul_zero] at m7
      omega
theorem mg_dvd {r p : Nat} (h : 4503599627370496 * 2 ^ p ≤ mg r) : 2 ^ p ∣ mg r := by
  unfold mg at *
  by_cases h1 : r < 4503599627370496
  · rw [if_pos h1] at *
    have := Nat.le_mul_of_pos_right 4503599627370496 (Nat.two_pow_pos p)
    omega
  · rw [if_neg h1] at *
    generalize r / 4503599627370496 - 1 = E at *
    have l1 : r % 4503599627370496 < 4503599627370496 := Nat.mod_lt _ (by decide)
    have h2 : (4503599627370496 + r % 4503599627370496) * 2 ^ E < 9007199254740992 * 2 ^ E := Nat.mul_lt_mul_of_pos_right (by omega) (Nat.two_pow_pos _)
    have h3 : 2 ^ (52 + p) < 2 ^ (53 + E) := by
      rw [Nat.pow_add, Nat.pow_add, show 2 ^ 52 = 4503599627370496 by decide, show 2 ^ 53 = 9007199254740992 by decide]
      exact Nat.lt_of_le_of_lt h h2
    have h4 := (Nat.pow_lt_pow_iff_right (by decide)).1 h3
    exact Nat.dvd_trans (Nat.pow_dvd_pow 2 (by omega)) (Nat.dvd_mul_left _ _)
theorem mg_other {M p r : Nat} (hM : 4503599627370496 ≤ M) : mg r = M * 2 ^ p ∨ (M + 1) * 2 ^ p ≤ mg r ∨ (mg r + 2 ^ p ≤ M * 2 ^ p) ∨ (M = 4503599627370496 ∧ mg r < M * 2 ^ p) := by
  have pp := Nat.two_pow_pos p
  by_cases h : 4503599627370496 * 2 ^ p ≤ mg r
  · obtain ⟨t, ht⟩ := mg_dvd h
    rw [ht, Nat.mul_comm (2 ^ p) t]
    rcases Nat.lt_trichotomy t M with h1 | h1 | h1
    · right; right; left
      have := Nat.mul_le_mul_right (2 ^ p) (show t + 1 ≤ M by omega)
      rw [Nat.add_mul, Nat.one_mul] at this
      exact this
    · left; rw [h1]
    · right; left
      exact Nat.mul_le_mul_right _ h1
  · rcases Nat.eq_or_lt_of_le hM with h1 | h1
    · right; right; right
      rw [← h1]
      exact ⟨rfl, by omega⟩
    · right; right; left
      have := Nat.mul_le_mul_right (2 ^ p) (show 4503599627370496 + 1 ≤ M by omega)
      rw [Nat.add_mul, Nat.one_mul] at this
      omega
theorem best_core {Y D U B H : Int} (hU : 0 < U) (hB : 0 < B) (d1 : 2 * D ≤ B * H) (d2 : -(B * H) ≤ 2 * D) (h : Y = 0 ∨ H * U ≤ Y ∨ Y ≤ -(H * U) ∨ (Y < 0 ∧ 0 ≤ D)) : (D * U).natAbs ≤ (Y * B - D * U).natAbs := by
  have e1 : 2 * (D * U) ≤ B * H * U := by rw [← Int.mul_assoc]; exact Int.mul_le_mul_of_nonneg_right d1 (Int.le_of_lt hU)
  have e2 : -(B * H * U) ≤ 2 * (D * U) := by rw [← Int.mul_assoc, ← Int.neg_mul]; exact Int.mul_le_mul_of_nonneg_right d2 (Int.le_of_lt hU)
  have e3 : H * U * B = B * H * U := by rw [Int.mul_comm, Int.mul_assoc]
  rcases h with h | h | h | ⟨h, h'⟩
  · rw [h, Int.zero_mul]; omega
  · have := Int.mul_le_mul_of_nonneg_right h (Int.le_of_lt hB)
    rw [e3] at this
    omega
  · have := Int.mul_le_mul_of_nonneg_right h (Int.le_of_lt hB)
    rw [Int.neg_mul, e3] at this
    omega
  · have h1 : Y * B ≤ 0 := Int.mul_nonpos_of_nonpos_of_nonneg (by omega) (Int.le_of_lt hB)
    have h2 : 0 ≤ D * U := Int.mul_nonneg h' (Int.le_of_lt hU)
    omega
end Go.Ab
end
section
namespace Go.Ab
set_option exponentiation.threshold 5000
theorem two_cast (n : Nat) : ((2 ^ n : Nat) : Int) = 2 ^ n := by rw [Int.natCast_pow]; rfl
theorem near_log {w : Nat} (h1 : 2305843009213693952 ≤ w) (h2 : w < 9223372036854775808) : ∃ c, (c = 9 ∨ c = 10) ∧ w.log2 = c + 52 := by
  by_cases h : w < 4611686018427387904
  · exact ⟨9, .inl rfl, (Nat.log2_eq_iff (by omega)).2 ⟨by omega, by omega⟩⟩
  · exact ⟨10, .inr rfl, (Nat.log2_eq_iff (by omega)).2 ⟨by omega, by omega⟩⟩
theorem near_best {n d k A B : Int} {w R : Nat} (hB0 : 0 < B) (hA : A = n * 2 ^ k.toNat) (hB : B = d * 2 ^ (-k).toNat) (hk : -800 ≤ k ∧ k ≤ 800) (q1 : 1152921504606846976 ≤ A / B) (q2 : A / B < 4611686018427387904)
    (hw : (w : Int) = 2 * (A / B) + (if A % B = 0 then 0 else 1)) (hR : R = jr w (-k - 1)) (hi : R < 9218868437227405312) (r : Nat) :
    ((mg R : Int) * d - n * 2 ^ 1074).natAbs ≤ ((mg r : Int) * d - n * 2 ^ 1074).natAbs := by
  have hwb : 2305843009213693952 ≤ w ∧ w < 9223372036854775808 := by split at hw <;> omega
  obtain ⟨c, hc, hl⟩ := near_log hwb.1 hwb.2
  obtain ⟨s, hs⟩ : ∃ s : Nat, (s : Int) = if A % B = 0 then 0 else 1 := by
    by_cases h : A % B = 0
    · exact ⟨0, by rw [if_pos h]; rfl⟩
    · exact ⟨1, by rw [if_neg h]; rfl⟩
  have r0 := Int.emod_nonneg A (show B ≠ 0 by omega)
  have r1 := Int.emod_lt_of_pos A hB0
  have hs2 : (s = 0 ∧ A % B = 0) ∨ (s = 1 ∧ 0 < A % B) := by
    by_cases h : A % B = 0
    · rw [if_pos h] at hs; exact .inl ⟨by omega, h⟩
    · rw [if_neg h] at hs; exact .inr ⟨by omega, by omega⟩
  rw [← hs] at hw
  have hdm := (Int.mul_ediv_add_emod A B).symm
  have hj := jq_at (man := w) (l := c + 52) (e := -k - 1) hl (by omega)
  have ij := isR_jr (man := w) (exp := -k - 1) (by omega) (by omega) (by omega) _ rfl
  rw [hj, if_neg (by omega), ← hR, show (-k - 1 + ((c + 52 : Nat) : Int) - 52 - (-k - 1)).toNat = c by omega] at ij
  obtain ⟨M, hM⟩ : ∃ M, M = rnd w c := ⟨_, rfl⟩
  obtain ⟨H, hH⟩ : ∃ H, H = 2 ^ (c - 1) := ⟨_, rfl⟩
  obtain ⟨U, hU⟩ : ∃ U, U = 2 ^ (1074 - k).toNat := ⟨_, rfl⟩
  obtain ⟨V, hV⟩ : ∃ V, V = 2 ^ (-k).toNat := ⟨_, rfl⟩
  have pU : 0 < U := by rw [hU]; exact Nat.two_pow_pos _
  have pV : 0 < V := by rw [hV]; exact Nat.two_pow_pos _
  have e2 : 2 ^ c = 2 * H := by rw [hH, show c = c - 1 + 1 by omega, Nat.pow_succ]; simp; omega
  have eP : 2 ^ (-k - 1 + ((c + 52 : Nat) : Int) - 52 + 1074).toNat = H * U := by
    rw [hH, hU, ← Nat.pow_add]; congr 1; omega
  rw [eP, ← hM] at ij
  have eR : mg R = M * (H * U) := by
    rcases ij with ⟨_, h⟩ | ⟨h, _⟩
    · exact h
    · omega
  obtain ⟨d1, d2⟩ := rnd_near hB0 hdm r1 hw hs2 (by omega) hM hH
  have lw := Nat.log2_self_le (show w ≠ 0 by omega)
  rw [hl, Nat.pow_add, e2] at lw
  have hM52 : 4503599627370496 ≤ M := by
    rw [hM]
    unfold rnd
    rw [e2]
    have : 4503599627370496 ≤ w / (2 * H) := by
      rw [Nat.le_div_iff_mul_le (by rw [← e2]; exact Nat.two_pow_pos _), Nat.mul_comm]
      exact lw
    omega
  have ot := mg_other (M := M) (p := (-k - 1 + ((c + 52 : Nat) : Int) - 52 + 1074).toNat) (r := r) hM52
  rw [eP] at ot
  have eAU : n * 2 ^ 1074 * (V : Int) = A * U := by
    rw [hA, hV, hU, two_cast, two_cast, Int.mul_assoc, Int.mul_assoc, ← Int.pow_add, ← Int.pow_add]
    congr 2
    omega
  have key : ∀ z : Nat, ((z : Int) * d - n * 2 ^ 1074) * V = ((z : Int) - (M * (H * U) : Nat)) * B - (A - B * (M * H : Nat)) * U := by
    intro z
    rw [Int.sub_mul, eAU, Int.mul_assoc, hV, two_cast, ← hB, Int.sub_mul, Int.sub_mul, show ((M * (H * U) : Nat) : Int) * B = B * ((M * H : Nat) : Int) * U by rw [← Nat.mul_assoc, Int.natCast_mul, Int.mul_comm, Int.mul_assoc]]
    omega
  have bc := best_core (Y := (mg r : Int) - (M * (H * U) : Nat)) (D := A - B * (M * H : Nat)) (U := U) (B := B) (H := H) (by omega) hB0 d1 d2 (by
    rcases ot with h | h | h | ⟨h, h'⟩
    · left; omega
    · right; left
      rw [Nat.add_mul, Nat.one_mul] at h
      rw [← Int.natCast_mul]
      omega
    · right; right; left
      rw [← Int.natCast_mul]
      omega
    · right; right; right
      refine ⟨by omega, ?_⟩
      have h2 : ((M * H : Nat) : Int) ≤ A / B := by
        rw [h]
        rw [Nat.mul_comm, Nat.mul_comm 2 H] at lw
        omega
      have h3 := Int.mul_le_mul_of_nonneg_left h2 (Int.le_of_lt hB0)
      omega)
  have b1 := key (mg R)
  rw [eR, Int.sub_self, Int.zero_mul, Int.zero_sub] at b1
  have b2 := key (mg r)
  rw [← b2, show (A - B * ((M * H : Nat) : Int)) * (U : Int) = -(((M * (H * U) : Nat) : Int) * d - n * 2 ^ 1074) * V by rw [Int.neg_mul, b1, Int.neg_neg], Int.natAbs_mul, Int.natAbs_mul, Int.natAbs_neg, ← eR] at bc
  exact Nat.le_of_mul_le_mul_right bc (by omega)
end Go.Ab
end
