import Derived.Test.YtiamjfckgmnijaaGreatDoorFbF
set_option linter.all false
section
namespace Go.Ab
open Go
section
variable {P : Program} {k : Nat} {t : TypeId} {x : AV}
theorem top_W (hu : P.underlying t = some (.int .u64)) (h : Top P k t x) : ∃ z : Nat, x = .sc (.int .u64 z) ∧ z < 18446744073709551616 := by
  cases k with
  | zero => simp [Top, hu, Typed] at h
  | succ k =>
    simp only [Top, hu, Typed] at h
    obtain ⟨z, e, hw⟩ := h
    cases e
    have hw' : 0 ≤ z ∧ z ≤ 18446744073709551615 := by
      have := (Bool.and_eq_true_iff.1 hw)
      exact ⟨of_decide_eq_true this.1, of_decide_eq_true this.2⟩
    exact ⟨z.toNat, by rw [Int.toNat_of_nonneg hw'.1], by omega⟩
theorem top_I (hu : P.underlying t = some (.int .i64)) (h : Top P k t x) : ∃ z : Int, x = .sc (.int .i64 z) ∧ -9223372036854775808 ≤ z ∧ z ≤ 9223372036854775807 := by
  cases k with
  | zero => simp [Top, hu, Typed] at h
  | succ k =>
    simp only [Top, hu, Typed] at h
    obtain ⟨z, e, hw⟩ := h
    cases e
    have := (Bool.and_eq_true_iff.1 hw)
    exact ⟨z, rfl, of_decide_eq_true this.1, of_decide_eq_true this.2⟩
theorem top_B (hu : P.underlying t = some .bool) (h : Top P k t x) : ∃ b : Bool, x = .sc (.bool b) := by
  cases k with
  | zero => simp [Top, hu, Typed] at h
  | succ k =>
    simp only [Top, hu, Typed] at h
    obtain ⟨b, e⟩ := h
    cases e
    exact ⟨b, rfl⟩
theorem top_S (hu : P.underlying t = some .string) (h : Top P k t x) : ∃ s : ByteArray, x = .sc (.string s) ∧ s.size ≤ reachBytes := by
  cases k with
  | zero => simp [Top, hu, Typed] at h
  | succ k =>
    simp only [Top, hu, Typed] at h
    obtain ⟨s, e, hs⟩ := h
    cases e
    exact ⟨s, rfl, hs⟩
end
end Go.Ab
end
