import Derived.Test.YtiamjfckgmnijaaGreatDoorFbFp2
set_option linter.all false
section
namespace Go.Ab
open Go Go.Proofs
set_option maxRecDepth 100000
set_option maxHeartbeats 4000000
def tzi (z : Nat) : Nat := 2 ^ z * 285870213051353865 % 18446744073709551616 / 288230376151711744
def tzV : List AV := match tabAV 1 with | .vp l => l | _ => []
theorem tz_ok : ((List.range 64).all fun z => match tzV.drop (tzi z) with | .sc (.int .u8 n) :: _ => n == (z : Int) | _ => false) = true := by decide +kernel
theorem tz_at {z : Nat} (h : z < 64) : ∃ tl, tzV.drop (tzi z) = .sc (.int .u8 z) :: tl := by
  have h1 := List.all_eq_true.1 tz_ok z (List.mem_range.2 h)
  split at h1
  · rename_i n tl e
    exact ⟨tl, by rw [e, eq_of_beq h1]⟩
  · cases h1
theorem tz_len : tzV.length = 64 := by decide +kernel
theorem ixTab (xs : List AV) (k : IntKind) (i : Int) : aindexAddr Tryz.prog 106 (.vp xs) (.sc (.int k i)) = (if 0 ≤ i ∧ i < (64 : Nat) ∧ i.toNat * 1 < xs.length then some (.vp (xs.drop (i.toNat * 1))) else none) := by kernel_rfl
theorem tz_addr {z : Nat} (h : z < 64) : ∃ tl, aindexAddr Tryz.prog 106 (tabAV 1) (.sc (.int .u64 (tzi z : Nat))) = some (.vp (.sc (.int .u8 z) :: tl)) := by
  obtain ⟨tl, e⟩ := tz_at h
  have hi : tzi z < 64 := by unfold tzi; omega
  refine ⟨tl, ?_⟩
  show aindexAddr Tryz.prog 106 (.vp tzV) _ = _
  rw [ixTab, if_pos ⟨by omega, by omega, by rw [tz_len]; omega⟩, Nat.mul_one, Int.toNat_natCast, e]
theorem and_negI {M k z : Nat} (hM : (2 * k + 1) * 2 ^ z = M) (h : M < 18446744073709551616) (h0 : 0 < M) : bAnd .u64 (M : Int) ((0 - (M : Int)) % 18446744073709551616) = ((2 ^ z : Nat) : Int) := by
  have e1 : (0 - (M : Int)) % 18446744073709551616 = ((18446744073709551616 - M : Nat) : Int) := by omega
  have e2 := and_neg (k := k) (z := z) (N := 64) (by rw [hM]; exact h)
  rw [hM] at e2
  have hz : 2 ^ z ≤ M := by rw [← hM]; exact Nat.le_mul_of_pos_left _ (by omega)
  have e3 : (BitVec.ofInt 64 (M : Int) &&& BitVec.ofInt 64 ((18446744073709551616 - M : Nat) : Int)).toNat = 2 ^ z := by
    rw [ofInt_nat, ofInt_nat, BitVec.toNat_and, BitVec.toNat_ofNat, BitVec.toNat_ofNat, Nat.mod_eq_of_lt (by omega), Nat.mod_eq_of_lt (by omega)]
    exact e2
  rw [e1]
  show IntKind.u64.wrap ((BitVec.ofInt 64 (M : Int) &&& BitVec.ofInt 64 ((18446744073709551616 - M : Nat) : Int)).toNat : Int) = _
  rw [e3]
  generalize 2 ^ z = A at *
  rw [wrapu64 (by omega) (by omega)]
theorem s_tz (k z M : Nat) (hM : (2 * k + 1) * 2 ^ z = M) (h : M < 18446744073709551616) : Spec Tryz.prog 50 [u64 M] (.sc (.int .i64 z)) := by
  refine spec_of_awp mixed Tryz.func50 rfl Tryz.call50 (by kernel_rfl) (by simp) rfl ?_
  have h0 : 0 < M := by rw [← hM]; exact Nat.mul_pos (by omega) (Nat.two_pow_pos z)
  have hz : z < 64 := by
    have : 2 ^ z < 2 ^ 64 := Nat.lt_of_le_of_lt (by rw [← hM]; exact Nat.le_mul_of_pos_left _ (by omega)) h
    exact (Nat.pow_lt_pow_iff_right (by decide)).1 this
  obtain ⟨tl, ta⟩ := tz_addr hz
  refine T ?_
  rw [and_negI hM h h0, show ((2 ^ z : Nat) : Int) * 285870213051353865 % 18446744073709551616 / 288230376151711744 = ((tzi z : Nat) : Int) by unfold tzi; generalize 2 ^ z = A; omega, ta]
  refine T (r_ret ?_)
  rw [Tryz.results50]
  refine R ?_
  exact Wk.refl _
end Go.Ab
end
