import Ieee.Arith
set_option linter.all false
section
namespace Go.Ab
open Ieee
def rg (x : Nat) : Nat := x % 9223372036854775808
def sgx (x : Nat) : Bool := x / 9223372036854775808 % 2 == 1
def isNaN64 (x : Nat) : Bool := decide (9218868437227405312 < rg x)
def key (x : Nat) : Int := if sgx x = true then -(rg x : Int) else rg x
def mg (r : Nat) : Nat := if r < 4503599627370496 then r else (4503599627370496 + r % 4503599627370496) * 2 ^ (r / 4503599627370496 - 1)
theorem mg_lt {r s : Nat} (h : r < s) : mg r < mg s := by
  unfold mg
  by_cases h1 : s < 4503599627370496
  · rw [if_pos (by omega), if_pos h1]; exact h
  · rw [if_neg h1]
    have p1 : 1 ≤ 2 ^ (s / 4503599627370496 - 1) := Nat.one_le_two_pow
    by_cases h2 : r < 4503599627370496
    · rw [if_pos h2]
      exact Nat.lt_of_lt_of_le h2 (Nat.le_trans (Nat.le_add_right _ _) (Nat.le_mul_of_pos_right _ p1))
    · rw [if_neg h2]
      rcases Nat.lt_or_ge (r / 4503599627370496) (s / 4503599627370496) with h3 | h3
      · obtain ⟨d, hd⟩ : ∃ d, s / 4503599627370496 - 1 = r / 4503599627370496 - 1 + 1 + d := ⟨s / 4503599627370496 - 1 - (r / 4503599627370496 - 1 + 1), by omega⟩
        rw [hd, Nat.pow_add, Nat.pow_succ]
        have p2 : 1 ≤ 2 ^ d := Nat.one_le_two_pow
        have p3 : 1 ≤ 2 ^ (r / 4503599627370496 - 1) := Nat.one_le_two_pow
        have l1 : r % 4503599627370496 < 4503599627370496 := Nat.mod_lt _ (by decide)
        generalize 2 ^ (r / 4503599627370496 - 1) = A at *
        generalize 2 ^ d = D at *
        calc (4503599627370496 + r % 4503599627370496) * A < 9007199254740992 * A := Nat.mul_lt_mul_of_pos_right (by omega) p3
          _ = 4503599627370496 * (A * 2 * 1) := by omega
          _ ≤ (4503599627370496 + s % 4503599627370496) * (A * 2 * D) := Nat.mul_le_mul (by omega) (Nat.mul_le_mul_left _ p2)
      · have e : r / 4503599627370496 = s / 4503599627370496 := by omega
        rw [e]
        exact Nat.mul_lt_mul_of_pos_right (by omega) p1
theorem mg_le {r s : Nat} (h : r ≤ s) : mg r ≤ mg s := by
  rcases Nat.eq_or_lt_of_le h with h | h
  · rw [h]; exact Nat.le_refl _
  · exact Nat.le_of_lt (mg_lt h)
theorem mg_zero : mg 0 = 0 := rfl
theorem mg_pos {r : Nat} (h : 0 < r) : 0 < mg r := mg_lt h
theorem read_fin {x : Nat} (h : rg x < 9218868437227405312) : ∃ (m : Nat) (e : Nat), double.read x = .number (sgx x) m ((e : Int) - 1074) ∧ m * 2 ^ e = mg (rg x) := by
  unfold Format.read
  have e1 : double.signWeight = 9223372036854775808 := by decide
  have e2 : double.binade = 4503599627370496 := by decide
  have e3 : double.infRung = 9218868437227405312 := by decide
  have e4 : double.leastPlace = -1074 := by decide
  simp only [e1, e2, e3, e4]
  show ∃ (m : Nat) (e : Nat), (if rg x < 4503599627370496 then _ else if rg x < 9218868437227405312 then _ else _) = _ ∧ _
  by_cases h1 : rg x < 4503599627370496
  · rw [if_pos h1]
    exact ⟨rg x, 0, rfl, by rw [mg, if_pos h1]; simp⟩
  · rw [if_neg h1, if_pos h]
    refine ⟨4503599627370496 + rg x % 4503599627370496, rg x / 4503599627370496 - 1, ?_, by rw [mg, if_neg h1]⟩
    show Datum.number _ _ _ = Datum.number _ _ _
    congr 1
theorem read_inf {x : Nat} (h : rg x = 9218868437227405312) : double.read x = .infinity (sgx x) := by
  unfold Format.read
  have e1 : double.signWeight = 9223372036854775808 := by decide
  have e2 : double.binade = 4503599627370496 := by decide
  have e3 : double.infRung = 9218868437227405312 := by decide
  simp only [e1, e2, e3]
  show (if rg x < 4503599627370496 then _ else if rg x < 9218868437227405312 then _ else if rg x = 9218868437227405312 then _ else _) = _
  rw [if_neg (by omega), if_neg (by omega), if_pos h]
  rfl
theorem read_nan {x : Nat} (h : 9218868437227405312 < rg x) : ∃ f, double.read x = .nan (sgx x) f := by
  unfold Format.read
  have e1 : double.signWeight = 9223372036854775808 := by decide
  have e2 : double.binade = 4503599627370496 := by decide
  have e3 : double.infRung = 9218868437227405312 := by decide
  simp only [e1, e2, e3]
  refine ⟨rg x - 9218868437227405312, ?_⟩
  show (if rg x < 4503599627370496 then _ else if rg x < 9218868437227405312 then _ else if rg x = 9218868437227405312 then _ else _) = _
  rw [if_neg (by omega), if_neg (by omega), if_neg (by omega)]
  rfl
theorem cmp_lt {a b : Int} (h : a < b) : compare a b = .lt := by
  show compareOfLessAndEq a b = .lt
  unfold compareOfLessAndEq
  rw [if_pos h]
theorem cmp_gt {a b : Int} (h : b < a) : compare a b = .gt := by
  show compareOfLessAndEq a b = .gt
  unfold compareOfLessAndEq
  rw [if_neg (by omega), if_neg (by omega)]
theorem cmp_eq (a : Int) : compare a a = .eq := by
  show compareOfLessAndEq a a = .eq
  unfold compareOfLessAndEq
  rw [if_neg (by omega), if_pos rfl]
theorem cmp_scale {a b k : Int} (hk : 0 < k) : compare (a * k) (b * k) = compare a b := by
  rcases Int.lt_trichotomy a b with h | h | h
  · rw [cmp_lt h, cmp_lt (Int.mul_lt_mul_of_pos_right h hk)]
  · subst h; rw [cmp_eq, cmp_eq]
  · rw [cmp_gt h, cmp_gt (Int.mul_lt_mul_of_pos_right h hk)]
theorem signed_scale (s : Bool) (m a b : Nat) : signed s m a * 2 ^ b = signed s m (a + b) := by
  unfold signed
  have : ((m <<< a : Nat) : Int) * 2 ^ b = ((m <<< (a + b) : Nat) : Int) := by
    rw [Nat.shiftLeft_eq, Nat.shiftLeft_eq, Nat.pow_add, Int.natCast_mul, Int.natCast_mul, Int.natCast_mul, Int.natCast_pow, Int.natCast_pow, Int.mul_assoc]
    rfl
  cases s
  · simpa using this
  · simp only [if_true]
    rw [Int.neg_mul, this]
def kmg (x : Nat) : Int := if sgx x = true then -(mg (rg x) : Int) else mg (rg x)
theorem kmg_lt {x y : Nat} (h : key x < key y) : kmg x < kmg y := by
  unfold key at h
  unfold kmg
  generalize sgx x = a at h ⊢
  generalize sgx y = b at h ⊢
  cases a <;> cases b <;> simp only [Bool.false_eq_true, if_true, if_false] at h ⊢
  · have := mg_lt (show rg x < rg y by omega); omega
  · omega
  · rcases Nat.eq_zero_or_pos (rg x) with h1 | h1
    · have := mg_pos (show 0 < rg y by omega); omega
    · have := mg_pos h1; omega
  · have := mg_lt (show rg y < rg x by omega); omega
theorem kmg_eq {x y : Nat} (h : key x = key y) : kmg x = kmg y := by
  unfold key at h
  unfold kmg
  generalize sgx x = a at h ⊢
  generalize sgx y = b at h ⊢
  cases a <;> cases b <;> simp only [Bool.false_eq_true, if_true, if_false] at h ⊢
  · rw [show rg x = rg y by omega]
  · rw [show rg x = 0 by omega, show rg y = 0 by omega]; rfl
  · rw [show rg x = 0 by omega, show rg y = 0 by omega]; rfl
  · rw [show rg x = rg y by omega]
theorem cmp_kmg (x y : Nat) : compare (kmg x) (kmg y) = compare (key x) (key y) := by
  rcases Int.lt_trichotomy (key x) (key y) with h | h | h
  · rw [cmp_lt h, cmp_lt (kmg_lt h)]
  · rw [h, kmg_eq h, cmp_eq, cmp_eq]
  · rw [cmp_gt h, cmp_gt (kmg_lt h)]
theorem signed_key {x m e : Nat} (h : m * 2 ^ e = mg (rg x)) : signed (sgx x) m e = kmg x := by
  unfold signed kmg
  rw [Nat.shiftLeft_eq, h]
theorem key_bd (x : Nat) : -(rg x : Int) ≤ key x ∧ key x ≤ rg x := by
  unfold key
  split <;> omega
theorem key_cmp {x y : Nat} (hx : rg x ≤ 9218868437227405312) (hy : rg y ≤ 9218868437227405312) : double.order x y = some (compare (key x) (key y)) := by
  unfold Format.order
  have bx := key_bd x
  have b_y := key_bd y
  rcases Nat.lt_or_ge (rg x) 9218868437227405312 with h1 | h1
  · obtain ⟨m, e, r1, m1⟩ := read_fin h1
    rcases Nat.lt_or_ge (rg y) 9218868437227405312 with h2 | h2
    · obtain ⟨n, f, r2, m2⟩ := read_fin h2
      rw [r1, r2]
      show some (compare (signed (sgx x) m (((e : Int) - 1074) - min ((e : Int) - 1074) ((f : Int) - 1074)).toNat) (signed (sgx y) n (((f : Int) - 1074) - min ((e : Int) - 1074) ((f : Int) - 1074)).toNat)) = _
      rw [show (((e : Int) - 1074) - min ((e : Int) - 1074) ((f : Int) - 1074)).toNat = e - min e f by omega, show (((f : Int) - 1074) - min ((e : Int) - 1074) ((f : Int) - 1074)).toNat = f - min e f by omega]
      rw [← cmp_scale (k := 2 ^ (min e f)) (by exact_mod_cast Nat.two_pow_pos _), signed_scale, signed_scale, show e - min e f + min e f = e by omega, show f - min e f + min e f = f by omega, signed_key m1, signed_key m2, cmp_kmg]
    · have h3 : rg y = 9218868437227405312 := by omega
      rw [r1, read_inf h3]
      show some (if sgx y = true then Ordering.gt else .lt) = _
      have ky : key y = if sgx y = true then -9218868437227405312 else 9218868437227405312 := by unfold key; rw [h3]; rfl
      by_cases hs : sgx y = true
      · rw [if_pos hs] at ky ⊢
        rw [cmp_gt (by omega)]
      · rw [if_neg hs] at ky ⊢
        rw [cmp_lt (by omega)]
  · have h3 : rg x = 9218868437227405312 := by omega
    rw [read_inf h3]
    have kx : key x = if sgx x = true then -9218868437227405312 else 9218868437227405312 := by unfold key; rw [h3]; rfl
    rcases Nat.lt_or_ge (rg y) 9218868437227405312 with h2 | h2
    · obtain ⟨n, f, r2, m2⟩ := read_fin h2
      rw [r2]
      show some (if sgx x = true then Ordering.lt else .gt) = _
      by_cases hs : sgx x = true
      · rw [if_pos hs] at kx ⊢
        rw [cmp_lt (by omega)]
      · rw [if_neg hs] at kx ⊢
        rw [cmp_gt (by omega)]
    · have h4 : rg y = 9218868437227405312 := by omega
      rw [read_inf h4]
      have ky : key y = if sgx y = true then -9218868437227405312 else 9218868437227405312 := by unfold key; rw [h4]; rfl
      show some (compare (sgx y).toNat (sgx x).toNat) = _
      rw [kx, ky]
      cases sgx x <;> cases sgx y <;> decide
theorem nan_cmp {x y : Nat} (h : 9218868437227405312 < rg x ∨ 9218868437227405312 < rg y) : double.order x y = none := by
  unfold Format.order
  rcases h with h | h
  · obtain ⟨f, hf⟩ := read_nan h
    rw [hf]
    rfl
  · obtain ⟨f, hf⟩ := read_nan h
    rw [hf]
    cases double.read x <;> rfl
end Go.Ab
end
section
namespace Go.Ab
open Ieee
theorem log2_mul_pow {a : Nat} (b : Nat) (h : 0 < a) : (a * 2 ^ b).log2 = a.log2 + b := by
  have p := Nat.two_pow_pos b
  have h1 : a ≠ 0 := by omega
  have h2 : a * 2 ^ b ≠ 0 := Nat.mul_ne_zero h1 (by omega)
  rw [Nat.log2_eq_iff h2]
  have l1 := Nat.log2_self_le h1
  have l2 : a < 2 ^ (a.log2 + 1) := Nat.lt_log2_self
  constructor
  · rw [Nat.pow_add]; exact Nat.mul_le_mul_right _ l1
  · rw [show a.log2 + b + 1 = a.log2 + 1 + b by omega, Nat.pow_add]; exact Nat.mul_lt_mul_of_pos_right l2 p
theorem cut_exact {neg : Bool} {n d : Nat} (h : 2 ^ d ∣ n) (hn : 0 < n) : Toward.even.cut neg n d = n / 2 ^ d := by
  have h1 : 2 ^ d ≤ n := Nat.le_of_dvd hn h
  have h2 : d ≤ n.log2 := (Nat.le_log2 (by omega)).2 h1
  have h3 : n % 2 ^ d = 0 := Nat.mod_eq_zero_of_dvd h
  have p := Nat.two_pow_pos d
  unfold Toward.cut
  simp only [Nat.min_eq_left (show d ≤ n.log2 + 2 by omega), Nat.one_shiftLeft, h3]
  rw [show decide (2 ^ d < 2 * 0) = false by simp, show (2 ^ d == 2 * 0) = false by simp]
  rfl
theorem mg_sub {r : Nat} (h : r < 4503599627370496) : mg r = r := by rw [mg, if_pos h]
theorem mg_nrm {r : Nat} (h : 4503599627370496 ≤ r) : mg r = (4503599627370496 + r % 4503599627370496) * 2 ^ (r / 4503599627370496 - 1) := by rw [mg, if_neg (by omega)]
theorem log2_53 {a : Nat} (h1 : 4503599627370496 ≤ a) (h2 : a < 9007199254740992) : a.log2 = 52 := by
  rw [Nat.log2_eq_iff (by omega)]
  exact ⟨h1, h2⟩
theorem near_exact {m : Nat} {p : Int} {r : Nat} (neg : Bool) (hr : r < 9218868437227405312) (h : m * 2 ^ (p + 1074).toNat = mg r * 2 ^ (-(p + 1074)).toNat) :
    double.nearest neg m p = double.word neg r := by
  have e2 : double.binade = 4503599627370496 := by decide
  have e3 : double.infRung = 9218868437227405312 := by decide
  have e4 : double.leastPlace = -1074 := by decide
  have e5 : double.fractionBits = 52 := rfl
  have pA := Nat.two_pow_pos (p + 1074).toNat
  have pB := Nat.two_pow_pos (-(p + 1074)).toNat
  unfold Format.nearest
  rcases Nat.eq_zero_or_pos r with h0 | h0
  · subst h0
    rw [mg_zero, Nat.zero_mul] at h
    have hm : m = 0 := by
      rcases Nat.eq_zero_or_pos m with h1 | h1
      · exact h1
      · have := Nat.mul_pos h1 pA; omega
    rw [if_pos hm]
  have hg := mg_pos h0
  have hm : 0 < m := by
    rcases Nat.eq_zero_or_pos m with h1 | h1
    · subst h1; have := Nat.mul_pos hg pB; omega
    · exact h1
  rw [if_neg (by omega)]
  simp only [e2, e3, e4, e5]
  have hl : m.log2 + (p + 1074).toNat = (mg r).log2 + (-(p + 1074)).toNat := by rw [← log2_mul_pow _ hm, ← log2_mul_pow _ hg, h]
  by_cases hs : r < 4503599627370496
  · rw [mg_sub hs] at h hl
    have l1 : r.log2 < 52 := (Nat.log2_lt (by omega)).2 hs
    have e : max (p + m.log2 - (52 : Nat)) (-1074) = (-1074 : Int) := by omega
    rw [e, show p - (-1074) = p + 1074 by omega, show -1074 - p = -(p + 1074) by omega, Nat.shiftLeft_eq, h, cut_exact (Nat.dvd_mul_left _ _) (Nat.mul_pos h0 pB), Nat.mul_div_cancel _ pB]
    congr 1
    show min (0 * 4503599627370496 + r) _ = r
    omega
  · have hE : 1 ≤ r / 4503599627370496 := by omega
    rw [mg_nrm (by omega)] at h hl
    have hf : r % 4503599627370496 < 4503599627370496 := Nat.mod_lt _ (by decide)
    rw [log2_mul_pow (a := 4503599627370496 + r % 4503599627370496) _ (by omega), log2_53 (a := 4503599627370496 + r % 4503599627370496) (by omega) (by omega)] at hl
    have hr' := Nat.div_add_mod r 4503599627370496
    generalize r / 4503599627370496 = E at *
    generalize r % 4503599627370496 = f at *
    have e : max (p + m.log2 - (52 : Nat)) (-1074) = ((E - 1 : Nat) : Int) - 1074 := by omega
    rw [e]
    have hx : m * 2 ^ (p - (((E - 1 : Nat) : Int) - 1074)).toNat = (4503599627370496 + f) * 2 ^ ((((E - 1 : Nat) : Int) - 1074) - p).toNat := by
      refine Nat.eq_of_mul_eq_mul_right (Nat.two_pow_pos ((-(p + 1074)).toNat + (E - 1))) ?_
      rw [Nat.mul_assoc, ← Nat.pow_add, show (p - (((E - 1 : Nat) : Int) - 1074)).toNat + ((-(p + 1074)).toNat + (E - 1)) = (p + 1074).toNat + ((((E - 1 : Nat) : Int) - 1074) - p).toNat by omega, Nat.pow_add, ← Nat.mul_assoc, h]
      simp only [Nat.pow_add, Nat.mul_assoc, Nat.mul_comm, Nat.mul_left_comm]
    rw [Nat.shiftLeft_eq, hx, cut_exact (Nat.dvd_mul_left _ _) (Nat.mul_pos (by omega) (Nat.two_pow_pos _)), Nat.mul_div_cancel _ (Nat.two_pow_pos _)]
    have e6 : (((E - 1 : Nat) : Int) - 1074 - -1074).toNat = E - 1 := by omega
    have e7 : (E - 1) * 4503599627370496 + (4503599627370496 + f) = r := by omega
    rw [e6, e7, Nat.min_eq_left (Nat.le_of_lt hr)]
theorem word_rg {x : Nat} (hx : x < 18446744073709551616) : double.word (sgx x) (rg x) = x := by
  have e1 : double.signWeight = 9223372036854775808 := by decide
  unfold Format.word
  rw [e1]
  unfold sgx rg
  rcases Nat.lt_or_ge x 9223372036854775808 with h | h
  · rw [Nat.div_eq_of_lt h, Nat.mod_eq_of_lt h]
    rfl
  · rw [show x / 9223372036854775808 = 1 by omega]
    show 9223372036854775808 + _ = _
    omega
theorem mul_exact {x y r : Nat} {m n : Nat} {i j : Int} {s t : Bool} (hx : double.read x = .number s m i) (hy : double.read y = .number t n j) (hr : r < 9218868437227405312)
    (h : m * n * 2 ^ (i + j + 1074).toNat = mg r * 2 ^ (-(i + j + 1074)).toNat) : double.mul x y = some (double.word (s ^^ t) r) := by
  unfold Format.mul
  rw [hx, hy]
  show some (double.nearest (s ^^ t) (m * n) (i + j)) = _
  rw [near_exact _ hr h]
theorem read_pos {x : Nat} (h : x < 9218868437227405312) (h1 : 4503599627370496 ≤ x) : double.read x = .number false (4503599627370496 + x % 4503599627370496) (((x / 4503599627370496 - 1 : Nat) : Int) - 1074) := by
  unfold Format.read
  have e1 : double.signWeight = 9223372036854775808 := by decide
  have e2 : double.binade = 4503599627370496 := by decide
  have e3 : double.infRung = 9218868437227405312 := by decide
  have e4 : double.leastPlace = -1074 := by decide
  simp only [e1, e2, e3, e4]
  rw [Nat.mod_eq_of_lt (show x < 9223372036854775808 by omega), if_neg (by omega), if_pos h, Nat.div_eq_of_lt (show x < 9223372036854775808 by omega)]
  rfl
theorem read_subn {x : Nat} (h : x < 4503599627370496) : double.read x = .number false x (-1074) := by
  unfold Format.read
  have e1 : double.signWeight = 9223372036854775808 := by decide
  have e2 : double.binade = 4503599627370496 := by decide
  have e4 : double.leastPlace = -1074 := by decide
  simp only [e1, e2, e4]
  rw [Nat.mod_eq_of_lt (show x < 9223372036854775808 by omega), if_pos h, Nat.div_eq_of_lt (show x < 9223372036854775808 by omega)]
  rfl
end Go.Ab
end
section
namespace Go.Ab
theorem odd_part : ∀ (n M : Nat), M ≤ n → 0 < M → ∃ k z, M = (2 * k + 1) * 2 ^ z
  | 0, M, h, h0 => by omega
  | n + 1, M, h, h0 => by
    rcases Nat.mod_two_eq_zero_or_one M with h1 | h1
    · obtain ⟨k, z, e⟩ := odd_part n (M / 2) (by omega) (by omega)
      refine ⟨k, z + 1, ?_⟩
      rw [Nat.pow_succ, ← Nat.mul_assoc, ← e]
      omega
    · exact ⟨M / 2, 0, by simp; omega⟩
theorem and_neg {k z N : Nat} (h : (2 * k + 1) * 2 ^ z < 2 ^ N) : (2 * k + 1) * 2 ^ z &&& (2 ^ N - (2 * k + 1) * 2 ^ z) = 2 ^ z := by
  have p := Nat.two_pow_pos z
  obtain ⟨m, hm⟩ : ∃ m, (2 * k + 1) * 2 ^ z = m + 1 := ⟨(2 * k + 1) * 2 ^ z - 1, by have := Nat.mul_pos (show 0 < 2 * k + 1 by omega) p; omega⟩
  have hzN : z < N := by
    have : 2 ^ z < 2 ^ N := Nat.lt_of_le_of_lt (Nat.le_mul_of_pos_left _ (by omega)) h
    exact (Nat.pow_lt_pow_iff_right (by decide)).1 this
  have hm' : m = 2 ^ z * (2 * k) + (2 ^ z - 1) := by
    have : (2 * k + 1) * 2 ^ z = 2 ^ z * (2 * k) + 2 ^ z := by rw [Nat.add_mul, Nat.one_mul, Nat.mul_comm]
    omega
  refine Nat.eq_of_testBit_eq fun i => ?_
  rw [Nat.testBit_and, hm, Nat.testBit_two_pow_sub_succ (by omega), ← hm, Nat.testBit_two_pow]
  rw [Nat.mul_comm, Nat.testBit_two_pow_mul]
  rcases Nat.lt_trichotomy i z with h1 | h1 | h1
  · simp [show ¬ z ≤ i by omega, show ¬ z = i by omega]
  · subst h1
    have e : (2 * k + 1).testBit 0 = true := by simp
    rw [Nat.sub_self, e, hm', Nat.testBit_two_pow_mul_add _ (by omega)]
    simp [hzN]
  · have e1 : m.testBit i = (2 * k).testBit (i - z) := by
      rw [hm', Nat.testBit_two_pow_mul_add _ (by omega), if_neg (by omega)]
    have e2 : (2 * k + 1).testBit (i - z) = (2 * k).testBit (i - z) := by
      obtain ⟨j, hj⟩ : ∃ j, i - z = j + 1 := ⟨i - z - 1, by omega⟩
      rw [hj, Nat.testBit_succ, Nat.testBit_succ, show (2 * k + 1) / 2 = k by omega, show 2 * k / 2 = k by omega]
    rw [e1, e2]
    simp only [show decide (z = i) = false by simp; omega]
    cases (2 * k).testBit (i - z) <;> simp
end Go.Ab
end
section
namespace Go.Ab
open Ieee
set_option exponentiation.threshold 5000
def isR (v r : Nat) : Prop := (r < 9218868437227405312 ∧ mg r = v) ∨ (r = 9218868437227405312 ∧ 2 ^ 2098 ≤ v)
theorem mg_inf : mg 9218868437227405312 = 2 ^ 2098 := by
  rw [mg_nrm (by decide), show 9218868437227405312 % 4503599627370496 = 0 by decide, show 9218868437227405312 / 4503599627370496 = 2047 by decide, Nat.add_zero, show 4503599627370496 = 2 ^ 52 by decide, ← Nat.pow_add]
theorem isR_uniq {v r r' : Nat} (h : isR v r) (h' : isR v r') : r = r' := by
  have lt : ∀ {a b : Nat}, mg a = mg b → a = b := by
    intro a b e
    rcases Nat.lt_trichotomy a b with h1 | h1 | h1
    · have := mg_lt h1; omega
    · exact h1
    · have := mg_lt h1; omega
  have big : ∀ {a : Nat}, a < 9218868437227405312 → mg a < 2 ^ 2098 := by
    intro a ha
    have := mg_lt ha
    rwa [mg_inf] at this
  rcases h with ⟨h1, h2⟩ | ⟨h1, h2⟩ <;> rcases h' with ⟨h3, h4⟩ | ⟨h3, h4⟩
  · exact lt (by rw [h2, h4])
  · have := big h1; omega
  · have := big h3; omega
  · omega
def finR (m : Nat) (q : Int) : Nat :=
  if m = 9007199254740992 then (if 2046 < q + 1076 then 9218868437227405312 else (q + 1076).toNat * 4503599627370496)
  else if m < 4503599627370496 then m else if 2046 < q + 1075 then 9218868437227405312 else (q + 1074).toNat * 4503599627370496 + m
theorem isR_nrm {m : Nat} {q : Int} (h1 : 4503599627370496 ≤ m) (h2 : m < 9007199254740992) (hq : -1074 ≤ q) : isR (m * 2 ^ (q + 1074).toNat) (if 2046 < q + 1075 then 9218868437227405312 else (q + 1074).toNat * 4503599627370496 + m) := by
  by_cases h : 2046 < q + 1075
  · rw [if_pos h]
    refine .inr ⟨rfl, ?_⟩
    have e : 2 ^ 2098 = 4503599627370496 * 2 ^ 2046 := by rw [show 4503599627370496 = 2 ^ 52 by decide, ← Nat.pow_add]
    rw [e]
    exact Nat.mul_le_mul h1 (Nat.pow_le_pow_right (by decide) (by omega))
  · rw [if_neg h]
    have hk : (q + 1074).toNat < 2046 := by omega
    generalize (q + 1074).toNat = k at *
    refine .inl ⟨by omega, ?_⟩
    rw [mg_nrm (by omega), show (k * 4503599627370496 + m) % 4503599627370496 = m - 4503599627370496 by omega, show (k * 4503599627370496 + m) / 4503599627370496 = k + 1 by omega, show 4503599627370496 + (m - 4503599627370496) = m by omega, show k + 1 - 1 = k by omega]
theorem isR_fin {m : Nat} {q : Int} (h2 : m ≤ 9007199254740992) (hq : -1074 ≤ q) (hs : m < 4503599627370496 → q = -1074) : isR (m * 2 ^ (q + 1074).toNat) (finR m q) := by
  unfold finR
  by_cases h : m = 9007199254740992
  · rw [if_pos h, h]
    have e : 9007199254740992 * 2 ^ (q + 1074).toNat = 4503599627370496 * 2 ^ (q + 1 + 1074).toNat := by
      rw [show (q + 1 + 1074).toNat = (q + 1074).toNat + 1 by omega, Nat.pow_succ, Nat.mul_comm _ 2, ← Nat.mul_assoc]
    rw [e]
    have := isR_nrm (m := 4503599627370496) (q := q + 1) (by decide) (by decide) (by omega)
    by_cases h3 : 2046 < q + 1076
    · rw [if_pos h3]; rwa [if_pos (by omega)] at this
    · rw [if_neg h3]; rw [if_neg (by omega)] at this
      rwa [show (q + 1 + 1074).toNat * 4503599627370496 + 4503599627370496 = (q + 1076).toNat * 4503599627370496 by omega] at this
  · rw [if_neg h]
    by_cases h3 : m < 4503599627370496
    · rw [if_pos h3, hs h3]
      exact .inl ⟨by omega, by rw [mg_sub h3, show ((-1074 : Int) + 1074).toNat = 0 by decide]; omega⟩
    · rw [if_neg h3]
      exact isR_nrm (by omega) (by omega) hq
theorem fl_ex {m : Nat} (h0 : 1 ≤ m) (h : m ≤ 9007199254740992) : ∃ y, 4503599627370496 ≤ y ∧ y < 9218868437227405312 ∧ mg y = m * 2 ^ 1074 ∧ y / 4503599627370496 = 1023 + m.log2 := by
  by_cases h1 : m = 9007199254740992
  · subst h1
    refine ⟨1076 * 4503599627370496, by decide, by decide, ?_, ?_⟩
    · rw [mg_nrm (by decide), show 1076 * 4503599627370496 % 4503599627370496 = 0 by decide, show 1076 * 4503599627370496 / 4503599627370496 - 1 = 1075 by decide, show 2 ^ 1075 = 2 ^ 1074 * 2 from Nat.pow_succ ..]
    · rw [show Nat.log2 9007199254740992 = 53 from (Nat.log2_eq_iff (by decide)).2 ⟨by decide, by decide⟩]
  · have hl : m.log2 < 53 := (Nat.log2_lt (by omega)).2 (by omega)
    have l1 := Nat.log2_self_le (n := m) (by omega)
    have l2 : m < 2 ^ (m.log2 + 1) := Nat.lt_log2_self
    have p := Nat.two_pow_pos (52 - m.log2)
    have e1 : 2 ^ m.log2 * 2 ^ (52 - m.log2) = 4503599627370496 := by rw [← Nat.pow_add, show m.log2 + (52 - m.log2) = 52 by omega]
    have e2 : 2 ^ (m.log2 + 1) * 2 ^ (52 - m.log2) = 9007199254740992 := by rw [← Nat.pow_add, show m.log2 + 1 + (52 - m.log2) = 53 by omega]
    have b1 : 4503599627370496 ≤ m * 2 ^ (52 - m.log2) := by rw [← e1]; exact Nat.mul_le_mul_right _ l1
    have b2 : m * 2 ^ (52 - m.log2) < 9007199254740992 := by rw [← e2]; exact Nat.mul_lt_mul_of_pos_right l2 p
    have hv : m * 2 ^ 1074 = m * 2 ^ (52 - m.log2) * 2 ^ (1022 + m.log2) := by rw [Nat.mul_assoc, ← Nat.pow_add, show 52 - m.log2 + (1022 + m.log2) = 1074 by omega]
    rw [hv]
    generalize m * 2 ^ (52 - m.log2) = M at *
    generalize m.log2 = L at *
    refine ⟨(1022 + L) * 4503599627370496 + M, by omega, by omega, ?_, by omega⟩
    rw [mg_nrm (by omega), show ((1022 + L) * 4503599627370496 + M) % 4503599627370496 = M - 4503599627370496 by omega, show ((1022 + L) * 4503599627370496 + M) / 4503599627370496 - 1 = 1022 + L by omega, show 4503599627370496 + (M - 4503599627370496) = M by omega]
theorem fl_nearest {m y : Nat} (h : y < 9218868437227405312) (hm : mg y = m * 2 ^ 1074) : double.nearest false m 0 = y := by
  rw [near_exact false h (by rw [hm]; simp)]
  rfl
def rnd (man s : Nat) : Nat := man / 2 ^ s + (if 2 ^ (s - 1) < man % 2 ^ s ∨ (man % 2 ^ s = 2 ^ (s - 1) ∧ man / 2 ^ s % 2 = 1) then 1 else 0)
def jq (man : Nat) (exp : Int) : Int := max (exp + ((man.log2 + 1 : Nat) : Int) - 53) (-1074)
def jr (man : Nat) (exp : Int) : Nat :=
  if man = 0 ∨ exp < -3000 then 0 else if 3000 < exp then 9218868437227405312 else if 64 < jq man exp - exp then 0
  else finR (if jq man exp ≤ exp then man * 2 ^ (exp - jq man exp).toNat else rnd man (jq man exp - exp).toNat) (jq man exp)
end Go.Ab
end
section
namespace Go.Ab
open Ieee
set_option exponentiation.threshold 5000
theorem log2_bd {m : Nat} (h : 0 < m) : 2 ^ m.log2 ≤ m ∧ m < 2 ^ (m.log2 + 1) := ⟨Nat.log2_self_le (by omega), Nat.lt_log2_self⟩
theorem log2_le63 {m : Nat} (h0 : 0 < m) (h : m < 18446744073709551616) : m.log2 ≤ 63 := by
  have := (Nat.log2_lt (k := 64) (by omega)).2 h
  omega
theorem jq_le {man : Nat} {exp : Int} : -1074 ≤ jq man exp := by unfold jq; omega
theorem jm_a {man : Nat} {exp : Int} (h0 : 0 < man) (hq : jq man exp ≤ exp) :
    man * 2 ^ (exp - jq man exp).toNat ≤ 9007199254740992 ∧ (man * 2 ^ (exp - jq man exp).toNat < 4503599627370496 → jq man exp = -1074) ∧ man * 2 ^ (exp - jq man exp).toNat * 2 ^ (jq man exp + 1074).toNat = man * 2 ^ (exp + 1074).toNat ∧ man ≤ 9007199254740992 := by
  obtain ⟨b1, b2⟩ := log2_bd h0
  have q1 := jq_le (man := man) (exp := exp)
  have q2 : exp + ((man.log2 + 1 : Nat) : Int) - 53 ≤ jq man exp := by unfold jq; omega
  have q3 : jq man exp = -1074 ∨ jq man exp = exp + ((man.log2 + 1 : Nat) : Int) - 53 := by unfold jq; omega
  generalize jq man exp = q at *
  have p := Nat.two_pow_pos (exp - q).toNat
  refine ⟨?_, ?_, ?_, ?_⟩
  · have h1 : man * 2 ^ (exp - q).toNat < 2 ^ (man.log2 + 1) * 2 ^ (exp - q).toNat := Nat.mul_lt_mul_of_pos_right b2 p
    rw [← Nat.pow_add] at h1
    have h2 : 2 ^ (man.log2 + 1 + (exp - q).toNat) ≤ 2 ^ 53 := Nat.pow_le_pow_right (by decide) (by omega)
    exact Nat.le_of_lt (Nat.lt_of_lt_of_le h1 h2)
  · intro h3
    rcases q3 with q3 | q3
    · exact q3
    · exfalso
      have h1 : 2 ^ man.log2 * 2 ^ (exp - q).toNat ≤ man * 2 ^ (exp - q).toNat := Nat.mul_le_mul_right _ b1
      rw [← Nat.pow_add, show man.log2 + (exp - q).toNat = 52 by omega] at h1
      omega
  · rw [Nat.mul_assoc, ← Nat.pow_add, show (exp - q).toNat + (q + 1074).toNat = (exp + 1074).toNat by omega]
  · have h2 : 2 ^ (man.log2 + 1) ≤ 2 ^ 53 := Nat.pow_le_pow_right (by decide) (by omega)
    exact Nat.le_of_lt (Nat.lt_of_lt_of_le b2 h2)
theorem jm_b {man s : Nat} {exp : Int} (h0 : 0 < man) (hs : jq man exp - exp = s) (h1 : 1 ≤ s) (h2 : s ≤ 64) :
    rnd man s ≤ 9007199254740992 ∧ (rnd man s < 4503599627370496 → jq man exp = -1074) := by
  obtain ⟨b1, b2⟩ := log2_bd h0
  have q2 : exp + ((man.log2 + 1 : Nat) : Int) - 53 ≤ jq man exp := by unfold jq; omega
  have q3 : jq man exp = -1074 ∨ jq man exp = exp + ((man.log2 + 1 : Nat) : Int) - 53 := by unfold jq; omega
  generalize jq man exp = q at *
  have p := Nat.two_pow_pos s
  have hd : man / 2 ^ s < 2 ^ 53 := by
    rw [Nat.div_lt_iff_lt_mul p, ← Nat.pow_add]
    exact Nat.lt_of_lt_of_le b2 (Nat.pow_le_pow_right (by decide) (by omega))
  refine ⟨?_, ?_⟩
  · unfold rnd
    split <;> omega
  · intro h3
    rcases q3 with q3 | q3
    · exact q3
    · exfalso
      have h4 : 2 ^ 52 ≤ man / 2 ^ s := by
        rw [Nat.le_div_iff_mul_le p, ← Nat.pow_add, show 52 + s = man.log2 by omega]
        exact b1
      unfold rnd at h3
      omega
theorem low_cmp {man s : Nat} (h1 : 1 ≤ s) (h2 : s ≤ 64) : (9223372036854775808 < man % 2 ^ s * 2 ^ (64 - s) ↔ 2 ^ (s - 1) < man % 2 ^ s) ∧ (man % 2 ^ s * 2 ^ (64 - s) = 9223372036854775808 ↔ man % 2 ^ s = 2 ^ (s - 1)) := by
  have e : 9223372036854775808 = 2 ^ (s - 1) * 2 ^ (64 - s) := by rw [← Nat.pow_add, show s - 1 + (64 - s) = 63 by omega]
  have p := Nat.two_pow_pos (64 - s)
  rw [e]
  refine ⟨Nat.mul_lt_mul_right p, ?_⟩
  constructor
  · intro h; exact Nat.eq_of_mul_eq_mul_right p h
  · intro h; rw [h]
theorem low_mod {man s : Nat} (h1 : 1 ≤ s) (h2 : s ≤ 64) : man * 2 ^ (64 - s) % 18446744073709551616 = man % 2 ^ s * 2 ^ (64 - s) := by
  have e : 18446744073709551616 = 2 ^ s * 2 ^ (64 - s) := by rw [← Nat.pow_add, show s + (64 - s) = 64 by omega]
  rw [e, Nat.mul_mod_mul_right]
theorem isR_jr {man : Nat} {exp : Int} (h0 : 0 < man) (hm : man < 18446744073709551616) (hc : jq man exp - exp ≤ 64) (m : Nat) (hmm : m = if jq man exp ≤ exp then man * 2 ^ (exp - jq man exp).toNat else rnd man (jq man exp - exp).toNat) :
    isR (m * 2 ^ (jq man exp + 1074).toNat) (jr man exp) := by
  obtain ⟨b1, b2⟩ := log2_bd h0
  have l := log2_le63 h0 hm
  have q1 := jq_le (man := man) (exp := exp)
  have q2 : exp + ((man.log2 + 1 : Nat) : Int) - 53 ≤ jq man exp := by unfold jq; omega
  have q3 : jq man exp = -1074 ∨ jq man exp = exp + ((man.log2 + 1 : Nat) : Int) - 53 := by unfold jq; omega
  have he : -3000 ≤ exp := by omega
  have hmb : m ≤ 9007199254740992 ∧ (m < 4503599627370496 → jq man exp = -1074) := by
    by_cases h : jq man exp ≤ exp
    · rw [if_pos h] at hmm
      have := jm_a h0 h
      rw [hmm]
      exact ⟨this.1, this.2.1⟩
    · rw [if_neg h] at hmm
      rw [hmm]
      exact jm_b h0 (by omega) (by omega) (by omega)
  unfold jr
  rw [if_neg (by omega)]
  by_cases h3 : 3000 < exp
  · rw [if_pos h3]
    refine .inr ⟨rfl, ?_⟩
    have hm2 : 4503599627370496 ≤ m := by
      rcases Nat.lt_or_ge m 4503599627370496 with h | h
      · have := hmb.2 h; omega
      · exact h
    have e : 2 ^ 2098 = 4503599627370496 * 2 ^ 2046 := by rw [show 4503599627370496 = 2 ^ 52 by decide, ← Nat.pow_add]
    rw [e]
    exact Nat.mul_le_mul hm2 (Nat.pow_le_pow_right (by decide) (by omega))
  · rw [if_neg h3, if_neg (by omega), ← hmm]
    exact isR_fin hmb.1 q1 hmb.2
end Go.Ab
end
