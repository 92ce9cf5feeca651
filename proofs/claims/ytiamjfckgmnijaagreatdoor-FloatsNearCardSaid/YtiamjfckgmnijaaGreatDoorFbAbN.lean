import Derived.Test.YtiamjfckgmnijaaGreatDoorFbAbF
set_option linter.all false
section
namespace Go.Ab
open Ieee
theorem log2_mul_pow {a : Nat} (b : Nat) (h : 0 < a) : (a * 2 ^ b).log2 = a.log2 + b := by
  have p := Nat.two_pow_pos b
  have h1 : a ≠ 0 := by omega
  have h2 : a * 2 ^ b ≠ 0 := Nat.mul_ne_zero h1 (by omega)
  rw [Nat.log2_eq_iff h2]
  have l1 := Nat.log2_self_le h1
  have l2 : a < 2 ^ (a.log2 + 1) := Nat.lt_log2_self
  constructor
  · rw [Nat.pow_add]; exact Nat.mul_le_mul_right _ l1
  · rw [show a.log2 + b + 1 = a.log2 + 1 + b by omega, Nat.pow_add]; exact Nat.mul_lt_mul_of_pos_right l2 p
theorem cut_exact {neg : Bool} {n d : Nat} (h : 2 ^ d ∣ n) (hn : 0 < n) : Toward.even.cut neg n d = n / 2 ^ d := by
  have h1 : 2 ^ d ≤ n := Nat.le_of_dvd hn h
  have h2 : d ≤ n.log2 := (Nat.le_log2 (by omega)).2 h1
  have h3 : n % 2 ^ d = 0 := Nat.mod_eq_zero_of_dvd h
  have p := Nat.two_pow_pos d
  unfold Toward.cut
  simp only [Nat.min_eq_left (show d ≤ n.log2 + 2 by omega), Nat.one_shiftLeft, h3]
  rw [show decide (2 ^ d < 2 * 0) = false by simp, show (2 ^ d == 2 * 0) = false by simp]
  rfl
theorem mg_sub {r : Nat} (h : r < 4503599627370496) : mg r = r := by rw [mg, if_pos h]
theorem mg_nrm {r : Nat} (h : 4503599627370496 ≤ r) : mg r = (4503599627370496 + r % 4503599627370496) * 2 ^ (r / 4503599627370496 - 1) := by rw [mg, if_neg (by omega)]
theorem log2_53 {a : Nat} (h1 : 4503599627370496 ≤ a) (h2 : a < 9007199254740992) : a.log2 = 52 := by
  rw [Nat.log2_eq_iff (by omega)]
  exact ⟨h1, h2⟩
theorem near_exact {m : Nat} {p : Int} {r : Nat} (neg : Bool) (hr : r < 9218868437227405312) (h : m * 2 ^ (p + 1074).toNat = mg r * 2 ^ (-(p + 1074)).toNat) :
    double.nearest neg m p = double.word neg r := by
  have e2 : double.binade = 4503599627370496 := by decide
  have e3 : double.infRung = 9218868437227405312 := by decide
  have e4 : double.leastPlace = -1074 := by decide
  have e5 : double.fractionBits = 52 := rfl
  have pA := Nat.two_pow_pos (p + 1074).toNat
  have pB := Nat.two_pow_pos (-(p + 1074)).toNat
  unfold Format.nearest
  rcases Nat.eq_zero_or_pos r with h0 | h0
  · subst h0
    rw [mg_zero, Nat.zero_mul] at h
    have hm : m = 0 := by
      rcases Nat.eq_zero_or_pos m with h1 | h1
      · exact h1
      · have := Nat.mul_pos h1 pA; omega
    rw [if_pos hm]
  have hg := mg_pos h0
  have hm : 0 < m := by
    rcases Nat.eq_zero_or_pos m with h1 | h1
    · subst h1; have := Nat.mul_pos hg pB; omega
    · exact h1
  rw [if_neg (by omega)]
  simp only [e2, e3, e4, e5]
  have hl : m.log2 + (p + 1074).toNat = (mg r).log2 + (-(p + 1074)).toNat := by rw [← log2_mul_pow _ hm, ← log2_mul_pow _ hg, h]
  by_cases hs : r < 4503599627370496
  · rw [mg_sub hs] at h hl
    have l1 : r.log2 < 52 := (Nat.log2_lt (by omega)).2 hs
    have e : max (p + m.log2 - (52 : Nat)) (-1074) = (-1074 : Int) := by omega
    rw [e, show p - (-1074) = p + 1074 by omega, show -1074 - p = -(p + 1074) by omega, Nat.shiftLeft_eq, h, cut_exact (Nat.dvd_mul_left _ _) (Nat.mul_pos h0 pB), Nat.mul_div_cancel _ pB]
    congr 1
    show min (0 * 4503599627370496 + r) _ = r
    omega
  · have hE : 1 ≤ r / 4503599627370496 := by omega
    rw [mg_nrm (by omega)] at h hl
    have hf : r % 4503599627370496 < 4503599627370496 := Nat.mod_lt _ (by decide)
    rw [log2_mul_pow (a := 4503599627370496 + r % 4503599627370496) _ (by omega), log2_53 (a := 4503599627370496 + r % 4503599627370496) (by omega) (by omega)] at hl
    have hr' := Nat.div_add_mod r 4503599627370496
    generalize r / 4503599627370496 = E at *
    generalize r % 4503599627370496 = f at *
    have e : max (p + m.log2 - (52 : Nat)) (-1074) = ((E - 1 : Nat) : Int) - 1074 := by omega
    rw [e]
    have hx : m * 2 ^ (p - (((E - 1 : Nat) : Int) - 1074)).toNat = (4503599627370496 + f) * 2 ^ ((((E - 1 : Nat) : Int) - 1074) - p).toNat := by
      refine Nat.eq_of_mul_eq_mul_right (Nat.two_pow_pos ((-(p + 1074)).toNat + (E - 1))) ?_
      rw [Nat.mul_assoc, ← Nat.pow_add, show (p - (((E - 1 : Nat) : Int) - 1074)).toNat + ((-(p + 1074)).toNat + (E - 1)) = (p + 1074).toNat + ((((E - 1 : Nat) : Int) - 1074) - p).toNat by omega, Nat.pow_add, ← Nat.mul_assoc, h]
      simp only [Nat.pow_add, Nat.mul_assoc, Nat.mul_comm, Nat.mul_left_comm]
    rw [Nat.shiftLeft_eq, hx, cut_exact (Nat.dvd_mul_left _ _) (Nat.mul_pos (by omega) (Nat.two_pow_pos _)), Nat.mul_div_cancel _ (Nat.two_pow_pos _)]
    have e6 : (((E - 1 : Nat) : Int) - 1074 - -1074).toNat = E - 1 := by omega
    have e7 : (E - 1) * 4503599627370496 + (4503599627370496 + f) = r := by omega
    rw [e6, e7, Nat.min_eq_left (Nat.le_of_lt hr)]
theorem word_rg {x : Nat} (hx : x < 18446744073709551616) : double.word (sgx x) (rg x) = x := by
  have e1 : double.signWeight = 9223372036854775808 := by decide
  unfold Format.word
  rw [e1]
  unfold sgx rg
  rcases Nat.lt_or_ge x 9223372036854775808 with h | h
  · rw [Nat.div_eq_of_lt h, Nat.mod_eq_of_lt h]
    rfl
  · rw [show x / 9223372036854775808 = 1 by omega]
    show 9223372036854775808 + _ = _
    omega
theorem mul_exact {x y r : Nat} {m n : Nat} {i j : Int} {s t : Bool} (hx : double.read x = .number s m i) (hy : double.read y = .number t n j) (hr : r < 9218868437227405312)
    (h : m * n * 2 ^ (i + j + 1074).toNat = mg r * 2 ^ (-(i + j + 1074)).toNat) : double.mul x y = some (double.word (s ^^ t) r) := by
  unfold Format.mul
  rw [hx, hy]
  show some (double.nearest (s ^^ t) (m * n) (i + j)) = _
  rw [near_exact _ hr h]
theorem read_pos {x : Nat} (h : x < 9218868437227405312) (h1 : 4503599627370496 ≤ x) : double.read x = .number false (4503599627370496 + x % 4503599627370496) (((x / 4503599627370496 - 1 : Nat) : Int) - 1074) := by
  unfold Format.read
  have e1 : double.signWeight = 9223372036854775808 := by decide
  have e2 : double.binade = 4503599627370496 := by decide
  have e3 : double.infRung = 9218868437227405312 := by decide
  have e4 : double.leastPlace = -1074 := by decide
  simp only [e1, e2, e3, e4]
  rw [Nat.mod_eq_of_lt (show x < 9223372036854775808 by omega), if_neg (by omega), if_pos h, Nat.div_eq_of_lt (show x < 9223372036854775808 by omega)]
  rfl
theorem read_subn {x : Nat} (h : x < 4503599627370496) : double.read x = .number false x (-1074) := by
  unfold Format.read
  have e1 : double.signWeight = 9223372036854775808 := by decide
  have e2 : double.binade = 4503599627370496 := by decide
  have e4 : double.leastPlace = -1074 := by decide
  simp only [e1, e2, e4]
  rw [Nat.mod_eq_of_lt (show x < 9223372036854775808 by omega), if_pos h, Nat.div_eq_of_lt (show x < 9223372036854775808 by omega)]
  rfl
end Go.Ab
end
