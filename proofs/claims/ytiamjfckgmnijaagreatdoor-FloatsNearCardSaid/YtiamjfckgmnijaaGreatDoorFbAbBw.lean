import Derived.Test.YtiamjfckgmnijaaGreatDoorFbAbN
import Derived.Test.YtiamjfckgmnijaaGreatDoorFbD
set_option linter.all false
section
namespace Go.Ab
open Go
theorem ofInt_nat {x : Nat} : BitVec.ofInt 64 (x : Int) = BitVec.ofNat 64 x := BitVec.ofInt_natCast ..
theorem wrap64 {x : Int} (h : -9223372036854775808 ≤ x) (h' : x ≤ 9223372036854775807) : IntKind.i64.wrap x = x := by
  simp only [IntKind.wrap, IntKind.bits, IntKind.signed]
  simp
  omega
theorem wrapu64 {x : Int} (h : 0 ≤ x) (h' : x < 18446744073709551616) : IntKind.u64.wrap x = x := by
  simp only [IntKind.wrap, IntKind.bits, IntKind.signed]
  simp
  omega
theorem and2047 {x : Nat} (hx : x < 9223372036854775808) : bAnd .u64 ((x : Int) / 4503599627370496) 2047 = ((x / 4503599627370496 : Nat) : Int) := by
  have e : (x : Int) / 4503599627370496 = ((x / 4503599627370496 : Nat) : Int) := by omega
  have hq : x / 4503599627370496 < 2048 := by omega
  rw [e]
  generalize x / 4503599627370496 = q at *
  have e2 : (BitVec.ofInt 64 (q : Int) &&& BitVec.ofInt 64 2047).toNat = q := by
    rw [ofInt_nat, show BitVec.ofInt 64 2047 = BitVec.ofNat 64 (2 ^ 11 - 1) by decide, BitVec.toNat_and, BitVec.toNat_ofNat, BitVec.toNat_ofNat, Nat.mod_eq_of_lt (by omega), show (2 ^ 11 - 1) % 2 ^ 64 = 2 ^ 11 - 1 by decide, Nat.and_two_pow_sub_one_eq_mod]
    omega
  show IntKind.u64.wrap ((BitVec.ofInt 64 (q : Int) &&& BitVec.ofInt 64 2047).toNat : Int) = q
  rw [e2, wrapu64 (by omega) (by omega)]
theorem and2047i {x : Nat} (hx : x < 9223372036854775808) : bAnd .i64 ((x : Int) / 4503599627370496) 2047 = ((x / 4503599627370496 : Nat) : Int) := by
  have e : (x : Int) / 4503599627370496 = ((x / 4503599627370496 : Nat) : Int) := by omega
  have hq : x / 4503599627370496 < 2048 := by omega
  rw [e]
  generalize x / 4503599627370496 = q at *
  have e2 : (BitVec.ofInt 64 (q : Int) &&& BitVec.ofInt 64 2047).toNat = q := by
    rw [ofInt_nat, show BitVec.ofInt 64 2047 = BitVec.ofNat 64 (2 ^ 11 - 1) by decide, BitVec.toNat_and, BitVec.toNat_ofNat, BitVec.toNat_ofNat, Nat.mod_eq_of_lt (by omega), show (2 ^ 11 - 1) % 2 ^ 64 = 2 ^ 11 - 1 by decide, Nat.and_two_pow_sub_one_eq_mod]
    omega
  show IntKind.i64.wrap ((BitVec.ofInt 64 (q : Int) &&& BitVec.ofInt 64 2047).toNat : Int) = q
  rw [e2, wrap64 (by omega) (by omega)]
theorem nat_andnot {x : Nat} (hx : x < 9223372036854775808) : x &&& 9227875636482146303 = x % 4503599627370496 := by
  rw [show 9227875636482146303 = 2 ^ 63 * 1 ||| (2 ^ 52 - 1) by decide, Nat.and_or_distrib_left, Nat.and_two_pow_sub_one_eq_mod]
  have : x &&& 2 ^ 63 * 1 = 0 := by
    refine Nat.eq_of_testBit_eq fun i => ?_
    rw [Nat.testBit_and, Nat.mul_one, Nat.testBit_two_pow, Nat.zero_testBit]
    by_cases h : 63 = i
    · subst h; rw [Nat.testBit_lt_two_pow (by omega)]; rfl
    · simp [h]
  rw [this, Nat.zero_or]
theorem andnot_exp {x : Nat} (hx : x < 9223372036854775808) : ((BitVec.ofInt 64 (x : Int) &&& ~~~BitVec.ofInt 64 9218868437227405312).toNat : Int) = ((x % 4503599627370496 : Nat) : Int) := by
  rw [show (~~~BitVec.ofInt 64 9218868437227405312) = BitVec.ofNat 64 9227875636482146303 by decide, ofInt_nat, BitVec.toNat_and, BitVec.toNat_ofNat, BitVec.toNat_ofNat, Nat.mod_eq_of_lt (show x < 2 ^ 64 by omega), Nat.mod_eq_of_lt (show 9227875636482146303 < 2 ^ 64 by decide), nat_andnot hx]
theorem or_exp {f E : Nat} (hf : f < 4503599627370496) (hE : E < 2048) : bOr .u64 (f : Int) (((E * 4503599627370496 : Nat) : Int)) = ((E * 4503599627370496 + f : Nat) : Int) := by
  have e2 : (BitVec.ofInt 64 (f : Int) ||| BitVec.ofInt 64 ((E * 4503599627370496 : Nat) : Int)).toNat = E * 4503599627370496 + f := by
    rw [ofInt_nat, ofInt_nat, BitVec.toNat_or, BitVec.toNat_ofNat, BitVec.toNat_ofNat, Nat.mod_eq_of_lt (by omega), Nat.mod_eq_of_lt (by omega), Nat.or_comm]
    have := Nat.two_pow_add_eq_or_of_lt (show f < 2 ^ 52 from hf) E
    rw [show E * 4503599627370496 = 2 ^ 52 * E by omega]
    exact this.symm
  show IntKind.u64.wrap ((BitVec.ofInt 64 (f : Int) ||| BitVec.ofInt 64 ((E * 4503599627370496 : Nat) : Int)).toNat : Int) = _
  rw [e2, wrapu64 (by omega) (by omega)]
end Go.Ab
end
