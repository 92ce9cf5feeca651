import Derived.Test.YtiamjfckgmnijaaDoorFtN
import Derived.Test.YtiamjfckgmnijaaDoorFtA
import Derived.Test.YtiamjfckgmnijaaDoorFtO
import Derived.Test.YtiamjfckgmnijaaDoorFtP
set_option linter.all false
section
namespace Go.Ab
open Go Go.Proofs Go.Proofs.YtiamjfckgmnijaaDoor.Pl
set_option maxRecDepth 100000
set_option maxHeartbeats 8000000
end Go.Ab
end
section
namespace Go.Ab
open Go Go.Proofs Go.Proofs.YtiamjfckgmnijaaDoor.Pl
set_option maxRecDepth 100000
set_option maxHeartbeats 8000000
theorem top_pos {l : List Int} (hw : Wf l) (h : trim l = l) (hl : l.length ≠ 0) : 1 ≤ l.getD (l.length - 1) 0 := by
  have h1 := (nm_iff hl).1 h
  have h2 := hw.at (l.length - 1)
  omega
theorem bitsL_lt {l : List Int} (hw : Wf l) (h : trim l = l) : val l < 2 ^ (bitsL l).toNat := by
  unfold bitsL
  by_cases hl : l.length = 0
  · rw [if_pos hl, List.eq_nil_of_length_eq_zero hl]
    simp [val]
  · rw [if_neg hl]
    obtain ⟨m, hm⟩ : ∃ m, l.length = m + 1 := ⟨l.length - 1, by omega⟩
    have wt := top_pos hw h hl
    have wtt := hw.at (l.length - 1)
    rw [show l.length - 1 = m from by omega] at wt wtt ⊢
    obtain ⟨n, hn⟩ := Int.eq_ofNat_of_zero_le (show 0 ≤ l.getD m 0 by omega)
    have hb := (Lib.bitLenAux_bounds 64 n (by omega) (by omega)).2.2
    have eV : val l = val (l.take m) + 4294967296 ^ m * l.getD m 0 := by rw [← val_take_at l, List.take_of_length_le (by omega)]
    have hX := take_lt hw m (by omega)
    rw [hn, Int.toNat_natCast] at *
    have e : (32 * ((l.length : Int) - 1) + (Lib.bitLen n : Int)).toNat = 32 * m + Lib.bitLen n := by omega
    rw [e, Int.pow_add, ← pow32, eV]
    have h2 : ((n : Int) + 1) ≤ 2 ^ Lib.bitLen n := by
      have : ((n + 1 : Nat) : Int) ≤ ((2 ^ Lib.bitLen n : Nat) : Int) := Int.ofNat_le.2 hb
      simpa using this
    have h3 : 4294967296 ^ m * ((n : Int) + 1) ≤ 4294967296 ^ m * 2 ^ Lib.bitLen n := Int.mul_le_mul_of_nonneg_left h2 (Int.le_of_lt (pow_pos' m))
    rw [Int.mul_add, Int.mul_one] at h3
    omega
theorem bitsL_bd {l : List Int} (hw : Wf l) : 0 ≤ bitsL l ∧ bitsL l ≤ 32 * l.length := by
  unfold bitsL
  split
  · omega
  · have wt := hw.at (l.length - 1)
    have hb := Lib.bitLen_le (l.getD (l.length - 1) 0).toNat 32 (by decide) (by omega)
    omega
theorem bitL_eq {l : List Int} (hw : Wf l) (n : Nat) : bitL l n = decide (val l / 2 ^ n % 2 = 1) := by
  unfold bitL
  by_cases h : n / 32 < l.length
  · rw [← bit_at l hw (n / 32) (n % 32) h (by omega), show 32 * (n / 32) + n % 32 = n from by omega]
  · rw [getD_big (by omega), bit_none l hw n (by omega)]
    simp
end Go.Ab
end
