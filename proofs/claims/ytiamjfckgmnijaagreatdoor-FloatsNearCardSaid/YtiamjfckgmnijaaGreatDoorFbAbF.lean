import Ieee.Arith
set_option linter.all false
section
namespace Go.Ab
open Ieee
def rg (x : Nat) : Nat := x % 9223372036854775808
def sgx (x : Nat) : Bool := x / 9223372036854775808 % 2 == 1
def isNaN64 (x : Nat) : Bool := decide (9218868437227405312 < rg x)
def key (x : Nat) : Int := if sgx x = true then -(rg x : Int) else rg x
def mg (r : Nat) : Nat := if r < 4503599627370496 then r else (4503599627370496 + r % 4503599627370496) * 2 ^ (r / 4503599627370496 - 1)
theorem mg_lt {r s : Nat} (h : r < s) : mg r < mg s := by
  unfold mg
  by_cases h1 : s < 4503599627370496
  · rw [if_pos (by omega), if_pos h1]; exact h
  · rw [if_neg h1]
    have p1 : 1 ≤ 2 ^ (s / 4503599627370496 - 1) := Nat.one_le_two_pow
    by_cases h2 : r < 4503599627370496
    · rw [if_pos h2]
      exact Nat.lt_of_lt_of_le h2 (Nat.le_trans (Nat.le_add_right _ _) (Nat.le_mul_of_pos_right _ p1))
    · rw [if_neg h2]
      rcases Nat.lt_or_ge (r / 4503599627370496) (s / 4503599627370496) with h3 | h3
      · obtain ⟨d, hd⟩ : ∃ d, s / 4503599627370496 - 1 = r / 4503599627370496 - 1 + 1 + d := ⟨s / 4503599627370496 - 1 - (r / 4503599627370496 - 1 + 1), by omega⟩
        rw [hd, Nat.pow_add, Nat.pow_succ]
        have p2 : 1 ≤ 2 ^ d := Nat.one_le_two_pow
        have p3 : 1 ≤ 2 ^ (r / 4503599627370496 - 1) := Nat.one_le_two_pow
        have l1 : r % 4503599627370496 < 4503599627370496 := Nat.mod_lt _ (by decide)
        generalize 2 ^ (r / 4503599627370496 - 1) = A at *
        generalize 2 ^ d = D at *
        calc (4503599627370496 + r % 4503599627370496) * A < 9007199254740992 * A := Nat.mul_lt_mul_of_pos_right (by omega) p3
          _ = 4503599627370496 * (A * 2 * 1) := by omega
          _ ≤ (4503599627370496 + s % 4503599627370496) * (A * 2 * D) := Nat.mul_le_mul (by omega) (Nat.mul_le_mul_left _ p2)
      · have e : r / 4503599627370496 = s / 4503599627370496 := by omega
        rw [e]
        exact Nat.mul_lt_mul_of_pos_right (by omega) p1
theorem mg_le {r s : Nat} (h : r ≤ s) : mg r ≤ mg s := by
  rcases Nat.eq_or_lt_of_le h with h | h
  · rw [h]; exact Nat.le_refl _
  · exact Nat.le_of_lt (mg_lt h)
theorem mg_zero : mg 0 = 0 := rfl
theorem mg_pos {r : Nat} (h : 0 < r) : 0 < mg r := mg_lt h
theorem read_fin {x : Nat} (h : rg x < 9218868437227405312) : ∃ (m : Nat) (e : Nat), double.read x = .number (sgx x) m ((e : Int) - 1074) ∧ m * 2 ^ e = mg (rg x) := by
  unfold Format.read
  have e1 : double.signWeight = 9223372036854775808 := by decide
  have e2 : double.binade = 4503599627370496 := by decide
  have e3 : double.infRung = 9218868437227405312 := by decide
  have e4 : double.leastPlace = -1074 := by decide
  simp only [e1, e2, e3, e4]
  show ∃ (m : Nat) (e : Nat), (if rg x < 4503599627370496 then _ else if rg x < 9218868437227405312 then _ else _) = _ ∧ _
  by_cases h1 : rg x < 4503599627370496
  · rw [if_pos h1]
    exact ⟨rg x, 0, rfl, by rw [mg, if_pos h1]; simp⟩
  · rw [if_neg h1, if_pos h]
    refine ⟨4503599627370496 + rg x % 4503599627370496, rg x / 4503599627370496 - 1, ?_, by rw [mg, if_neg h1]⟩
    show Datum.number _ _ _ = Datum.number _ _ _
    congr 1
theorem read_inf {x : Nat} (h : rg x = 9218868437227405312) : double.read x = .infinity (sgx x) := by
  unfold Format.read
  have e1 : double.signWeight = 9223372036854775808 := by decide
  have e2 : double.binade = 4503599627370496 := by decide
  have e3 : double.infRung = 9218868437227405312 := by decide
  simp only [e1, e2, e3]
  show (if rg x < 4503599627370496 then _ else if rg x < 9218868437227405312 then _ else if rg x = 9218868437227405312 then _ else _) = _
  rw [if_neg (by omega), if_neg (by omega), if_pos h]
  rfl
theorem read_nan {x : Nat} (h : 9218868437227405312 < rg x) : ∃ f, double.read x = .nan (sgx x) f := by
  unfold Format.read
  have e1 : double.signWeight = 9223372036854775808 := by decide
  have e2 : double.binade = 4503599627370496 := by decide
  have e3 : double.infRung = 9218868437227405312 := by decide
  simp only [e1, e2, e3]
  refine ⟨rg x - 9218868437227405312, ?_⟩
  show (if rg x < 4503599627370496 then _ else if rg x < 9218868437227405312 then _ else if rg x = 9218868437227405312 then _ else _) = _
  rw [if_neg (by omega), if_neg (by omega), if_neg (by omega)]
  rfl
theorem cmp_lt {a b : Int} (h : a < b) : compare a b = .lt := by
  show compareOfLessAndEq a b = .lt
  unfold compareOfLessAndEq
  rw [if_pos h]
theorem cmp_gt {a b : Int} (h : b < a) : compare a b = .gt := by
  show compareOfLessAndEq a b = .gt
  unfold compareOfLessAndEq
  rw [if_neg (by omega), if_neg (by omega)]
theorem cmp_eq (a : Int) : compare a a = .eq := by
  show compareOfLessAndEq a a = .eq
  unfold compareOfLessAndEq
  rw [if_neg (by omega), if_pos rfl]
theorem cmp_scale {a b k : Int} (hk : 0 < k) : compare (a * k) (b * k) = compare a b := by
  rcases Int.lt_trichotomy a b with h | h | h
  · rw [cmp_lt h, cmp_lt (Int.mul_lt_mul_of_pos_right h hk)]
  · subst h; rw [cmp_eq, cmp_eq]
  · rw [cmp_gt h, cmp_gt (Int.mul_lt_mul_of_pos_right h hk)]
theorem signed_scale (s : Bool) (m a b : Nat) : signed s m a * 2 ^ b = signed s m (a + b) := by
  unfold signed
  have : ((m <<< a : Nat) : Int) * 2 ^ b = ((m <<< (a + b) : Nat) : Int) := by
    rw [Nat.shiftLeft_eq, Nat.shiftLeft_eq, Nat.pow_add, Int.natCast_mul, Int.natCast_mul, Int.natCast_mul, Int.natCast_pow, Int.natCast_pow, Int.mul_assoc]
    rfl
  cases s
  · simpa using this
  · simp only [if_true]
    rw [Int.neg_mul, this]
def kmg (x : Nat) : Int := if sgx x = true then -(mg (rg x) : Int) else mg (rg x)
theorem kmg_lt {x y : Nat} (h : key x < key y) : kmg x < kmg y := by
  unfold key at h
  unfold kmg
  generalize sgx x = a at h ⊢
  generalize sgx y = b at h ⊢
  cases a <;> cases b <;> simp only [Bool.false_eq_true, if_true, if_false] at h ⊢
  · have := mg_lt (show rg x < rg y by omega); omega
  · omega
  · rcases Nat.eq_zero_or_pos (rg x) with h1 | h1
    · have := mg_pos (show 0 < rg y by omega); omega
    · have := mg_pos h1; omega
  · have := mg_lt (show rg y < rg x by omega); omega
theorem kmg_eq {x y : Nat} (h : key x = key y) : kmg x = kmg y := by
  unfold key at h
  unfold kmg
  generalize sgx x = a at h ⊢
  generalize sgx y = b at h ⊢
  cases a <;> cases b <;> simp only [Bool.false_eq_true, if_true, if_false] at h ⊢
  · rw [show rg x = rg y by omega]
  · rw [show rg x = 0 by omega, show rg y = 0 by omega]; rfl
  · rw [show rg x = 0 by omega, show rg y = 0 by omega]; rfl
  · rw [show rg x = rg y by omega]
theorem cmp_kmg (x y : Nat) : compare (kmg x) (kmg y) = compare (key x) (key y) := by
  rcases Int.lt_trichotomy (key x) (key y) with h | h | h
  · rw [cmp_lt h, cmp_lt (kmg_lt h)]
  · rw [h, kmg_eq h, cmp_eq, cmp_eq]
  · rw [cmp_gt h, cmp_gt (kmg_lt h)]
theorem signed_key {x m e : Nat} (h : m * 2 ^ e = mg (rg x)) : signed (sgx x) m e = kmg x := by
  unfold signed kmg
  rw [Nat.shiftLeft_eq, h]
theorem key_bd (x : Nat) : -(rg x : Int) ≤ key x ∧ key x ≤ rg x := by
  unfold key
  split <;> omega
theorem key_cmp {x y : Nat} (hx : rg x ≤ 9218868437227405312) (hy : rg y ≤ 9218868437227405312) : double.order x y = some (compare (key x) (key y)) := by
  unfold Format.order
  have bx := key_bd x
  have b_y := key_bd y
  rcases Nat.lt_or_ge (rg x) 9218868437227405312 with h1 | h1
  · obtain ⟨m, e, r1, m1⟩ := read_fin h1
    rcases Nat.lt_or_ge (rg y) 9218868437227405312 with h2 | h2
    · obtain ⟨n, f, r2, m2⟩ := read_fin h2
      rw [r1, r2]
      show some (compare (signed (sgx x) m (((e : Int) - 1074) - min ((e : Int) - 1074) ((f : Int) - 1074)).toNat) (signed (sgx y) n (((f : Int) - 1074) - min ((e : Int) - 1074) ((f : Int) - 1074)).toNat)) = _
      rw [show (((e : Int) - 1074) - min ((e : Int) - 1074) ((f : Int) - 1074)).toNat = e - min e f by omega, show (((f : Int) - 1074) - min ((e : Int) - 1074) ((f : Int) - 1074)).toNat = f - min e f by omega]
      rw [← cmp_scale (k := 2 ^ (min e f)) (by exact_mod_cast Nat.two_pow_pos _), signed_scale, signed_scale, show e - min e f + min e f = e by omega, show f - min e f + min e f = f by omega, signed_key m1, signed_key m2, cmp_kmg]
    · have h3 : rg y = 9218868437227405312 := by omega
      rw [r1, read_inf h3]
      show some (if sgx y = true then Ordering.gt else .lt) = _
      have ky : key y = if sgx y = true then -9218868437227405312 else 9218868437227405312 := by unfold key; rw [h3]; rfl
      by_cases hs : sgx y = true
      · rw [if_pos hs] at ky ⊢
        rw [cmp_gt (by omega)]
      · rw [if_neg hs] at ky ⊢
        rw [cmp_lt (by omega)]
  · have h3 : rg x = 9218868437227405312 := by omega
    rw [read_inf h3]
    have kx : key x = if sgx x = true then -9218868437227405312 else 9218868437227405312 := by unfold key; rw [h3]; rfl
    rcases Nat.lt_or_ge (rg y) 9218868437227405312 with h2 | h2
    · obtain ⟨n, f, r2, m2⟩ := read_fin h2
      rw [r2]
      show some (if sgx x = true then Ordering.lt else .gt) = _
      by_cases hs : sgx x = true
      · rw [if_pos hs] at kx ⊢
        rw [cmp_lt (by omega)]
      · rw [if_neg hs] at kx ⊢
        rw [cmp_gt (by omega)]
    · have h4 : rg y = 9218868437227405312 := by omega
      rw [read_inf h4]
      have ky : key y = if sgx y = true then -9218868437227405312 else 9218868437227405312 := by unfold key; rw [h4]; rfl
      show some (compare (sgx y).toNat (sgx x).toNat) = _
      rw [kx, ky]
      cases sgx x <;> cases sgx y <;> decide
theorem nan_cmp {x y : Nat} (h : 9218868437227405312 < rg x ∨ 9218868437227405312 < rg y) : double.order x y = none := by
  unfold Format.order
  rcases h with h | h
  · obtain ⟨f, hf⟩ := read_nan h
    rw [hf]
    rfl
  · obtain ⟨f, hf⟩ := read_nan h
    rw [hf]
    cases double.read x <;> rfl
end Go.Ab
end
