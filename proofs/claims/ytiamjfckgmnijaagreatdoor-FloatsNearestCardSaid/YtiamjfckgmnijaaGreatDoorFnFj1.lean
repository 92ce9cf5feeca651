import Derived.Test.YtiamjfckgmnijaaGreatDoorFnNd
import Derived.Test.YtiamjfckgmnijaaGreatDoorFnNa
import Derived.Test.YtiamjfckgmnijaaGreatDoorFnNb
import Derived.Test.YtiamjfckgmnijaaGreatDoorFnI
import Derived.Lib.ItoaNum
set_option linter.all false
section
namespace Go.Ab
open Go Go.Proofs
set_option maxRecDepth 100000
set_option exponentiation.threshold 5000
set_option maxHeartbeats 4000000
theorem bl_log2 {x : Nat} (h0 : 0 < x) (hx : x < 18446744073709551616) : Lib.bitLen x = x.log2 + 1 := by
  obtain ⟨h1, h2, h3⟩ := Lib.bitLenAux_bounds 64 x hx (by omega)
  have e : Lib.bitLen x = Lib.bitLenAux 64 x := rfl
  rw [e]
  have : x.log2 = Lib.bitLenAux 64 x - 1 := (Nat.log2_eq_iff (by omega)).2 ⟨h2, by rw [show Lib.bitLenAux 64 x - 1 + 1 = Lib.bitLenAux 64 x by omega]; exact h3⟩
  omega
theorem s_Len64 (x : Nat) (hx : x < 18446744073709551616) : Spec Tryz.prog 94 [u64 x] (.sc (.int .i64 (Lib.bitLen x))) := by
  refine spec_of_awp mixed Tryz.func94 rfl Tryz.call94 (by kernel_rfl) (by simp) rfl ?_
  have tab : ∀ n : Nat, n < 256 → Lib.bitLen n ≤ 8 := fun n h => Lib.bitLen_le n 8 (by decide) h
  by_cases h32 : 4294967296 ≤ (x : Int)
  · by_cases h16 : 65536 ≤ (x : Int) / 4294967296
    · by_cases h8 : 256 ≤ (x : Int) / 4294967296 / 65536
      · refine T ?_
        refine ix_tab Lib.bitLen rfl (by decide +kernel) (by omega) (by omega) ?_
        have t1 := tab ((x : Int) / 4294967296 / 65536 / 256).toNat (by omega)
        have e := Lib.bitLen_shift56 x (by omega) (by omega)
        rw [show x / 72057594037927936 = ((x : Int) / 4294967296 / 65536 / 256).toNat by omega] at e
        refine TR ?_
        rw [e]; simp
      · refine T ?_
        refine ix_tab Lib.bitLen rfl (by decide +kernel) (by omega) (by omega) ?_
        have t1 := tab ((x : Int) / 4294967296 / 65536).toNat (by omega)
        have e := Lib.bitLen_shift48 x (by omega) (by omega)
        rw [show x / 281474976710656 = ((x : Int) / 4294967296 / 65536).toNat by omega] at e
        refine TR ?_
        rw [e]; simp
    · by_cases h8 : 256 ≤ (x : Int) / 4294967296
      · refine T ?_
        refine ix_tab Lib.bitLen rfl (by decide +kernel) (by omega) (by omega) ?_
        have t1 := tab ((x : Int) / 4294967296 / 256).toNat (by omega)
        have e := Lib.bitLen_shift40 x (by omega) (by omega)
        rw [show x / 1099511627776 = ((x : Int) / 4294967296 / 256).toNat by omega] at e
        refine TR ?_
        rw [e]; simp
      · refine T ?_
        refine ix_tab Lib.bitLen rfl (by decide +kernel) (by omega) (by omega) ?_
        have t1 := tab ((x : Int) / 4294967296).toNat (by omega)
        have e := Lib.bitLen_shift32 x (by omega) (by omega)
        rw [show x / 4294967296 = ((x : Int) / 4294967296).toNat by omega] at e
        refine TR ?_
        rw [e]; simp
  · by_cases h16 : 65536 ≤ (x : Int)
    · by_cases h8 : 256 ≤ (x : Int) / 65536
      · refine T ?_
        refine ix_tab Lib.bitLen rfl (by decide +kernel) (by omega) (by omega) ?_
        have t1 := tab ((x : Int) / 65536 / 256).toNat (by omega)
        have e := Lib.bitLen_shift24 x (by omega) (by omega)
        rw [show x / 16777216 = ((x : Int) / 65536 / 256).toNat by omega] at e
        refine TR ?_
        rw [e]; simp
      · refine T ?_
        refine ix_tab Lib.bitLen rfl (by decide +kernel) (by omega) (by omega) ?_
        have t1 := tab ((x : Int) / 65536).toNat (by omega)
        have e := Lib.bitLen_shift16 x (by omega) (by omega)
        rw [show x / 65536 = ((x : Int) / 65536).toNat by omega] at e
        refine TR ?_
        rw [e]; simp
    · by_cases h8 : 256 ≤ (x : Int)
      · refine T ?_
        refine ix_tab Lib.bitLen rfl (by decide +kernel) (by omega) (by omega) ?_
        have t1 := tab ((x : Int) / 256).toNat (by omega)
        have e := Lib.bitLen_shift8 x (by omega) (by omega)
        rw [show x / 256 = ((x : Int) / 256).toNat by omega] at e
        refine TR ?_
        rw [e]; simp
      · refine T ?_
        refine ix_tab Lib.bitLen rfl (by decide +kernel) (by omega) (by omega) ?_
        have t1 := tab x (by omega)
        refine TR ?_
        simp
theorem s_shift64 (m : Nat) : Spec Tryz.prog 95 [u64 m, .sc (.int .u64 64)] (.tup [u64 0, u64 m]) := by
  refine spec_of_awp mixed Tryz.func95 rfl Tryz.call95 (by kernel_rfl) (by simp) rfl ?_
  exact TR rfl
theorem s_shift (m n : Nat) (_hm : m < 18446744073709551616) (h1 : 1 ≤ n) (h2 : n < 64) : Spec Tryz.prog 95 [u64 m, .sc (.int .u64 n)] (.tup [u64 (m / 2 ^ n), u64 (m * 2 ^ (64 - n) % 18446744073709551616)]) := by
  refine spec_of_awp mixed Tryz.func95 rfl Tryz.call95 (by kernel_rfl) (by simp) rfl ?_
  refine T (r_ret ?_)
  rw [Tryz.results95]
  refine R (wk_eq ?_)
  have e : ((2 : Int) ^ n) = ((2 ^ n : Nat) : Int) := by rw [Int.natCast_pow]; rfl
  have e2 : (m : Int) * 2 ^ (64 - (n : Int)).toNat % 18446744073709551616 = ((m * 2 ^ (64 - n) % 18446744073709551616 : Nat) : Int) := by
    rw [show (64 - (n : Int)).toNat = 64 - n by omega, show ((2 : Int) ^ (64 - n)) = ((2 ^ (64 - n) : Nat) : Int) by rw [Int.natCast_pow]; rfl, ← Int.natCast_mul]
    rfl
  rw [e, e2, Int.fdiv_eq_ediv_of_nonneg _ (Int.natCast_nonneg _), ← Int.natCast_ediv]
end Go.Ab
end
