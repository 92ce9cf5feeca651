import Derived.Test.YtiamjfckgmnijaaGreatDoorFnN
import Derived.Test.YtiamjfckgmnijaaGreatDoorFnA
import Derived.Test.YtiamjfckgmnijaaGreatDoorFnO
import Derived.Test.YtiamjfckgmnijaaGreatDoorFnP
set_option linter.all false
section
namespace Go.Ab
open Go Go.Proofs Go.Proofs.YtiamjfckgmnijaaGreatDoor.Pl
set_option maxRecDepth 100000
set_option maxHeartbeats 8000000
theorem q_Shl (a : List Int) (n : Nat) (ha : Wf a) (la : a.length ≤ 35184372088000) (hn : a.length + n / 32 ≤ 35184372088800) : Spec Tryz.prog 30 [U a, .sc (.int .i64 n)] (U (N (val a * 2 ^ n))) := by
  refine spec_of_awp mixed Tryz.func30 rfl Tryz.call30 (by kernel_rfl) (by simp) rfl ?_
  have hs : n % 32 < 32 := Nat.mod_lt _ (by decide)
  have hp := pow_bd (s := n % 32) (by omega)
  refine T ?_
  refine w_loop (α := Nat × Int × List Int) (fun p => [(.t 0, U a), (.t 1, .sc (.int .i64 n)), (.t 5, .hs 11 (p.1 + 1) 0 (n / 32 + p.1) 1), (.t 6, .sc (.int .u64 p.2.1)), (.t 7, .sc (.int .i64 p.1)), (.h 11, .blk (p.1 + 1) 2 (p.2.2.map u32))])
    (fun p => p.1 ≤ a.length ∧ p.2.2.length = n / 32 + p.1 ∧ Wf p.2.2 ∧ 0 ≤ p.2.1 ∧ p.2.1 < 2 ^ (n % 32) ∧ val p.2.2 + 4294967296 ^ (n / 32 + p.1) * p.2.1 = 4294967296 ^ (n / 32) * (val (a.take p.1) * 2 ^ (n % 32)))
    (fun p => a.length - p.1) (0, 0, List.replicate (n / 32) 0) ⟨Nat.zero_le _, by simp, Wf.zeros _, Int.le_refl 0, by show (0 : Int) < _; omega, by simp [val, val_zeros]⟩ ?_ ?_
  · refine H ?_
    exact rfl
  rintro ⟨i, c, o⟩ r ⟨h1, h2, h3, h4, h5, h6⟩ J hJ
  simp only at h1 h2 h3 h4 h5 h6
  have H6 := Hd.mk h6
  clear h6
  by_cases hi : i < a.length
  · have hai := ha.at i
    obtain ⟨y, z, ey, ez, hy, hz, hyz, b1⟩ := rshlstep hs hai ⟨h4, h5⟩
    have b2 : 0 ≤ a.getD i 0 * 2 ^ (n % 32) := Int.mul_nonneg hai.1 (by omega)
    have fin : ∀ s', Has [(.t 0, U a), (.t 1, .sc (.int .i64 n)), (.t 5, .hs 11 (i + 1 + 1) 0 (n / 32 + i + 1) 1), (.t 6, .sc (.int .u64 ((a.getD i 0 * 2 ^ (n % 32) + c) / 4294967296))), (.t 7, .sc (.int .i64 ((i : Int) + 1))), (.h 11, .blk (i + 1 + 1) 2 ((o ++ [(a.getD i 0 * 2 ^ (n % 32) + c) % 4294967296]).map u32))] s' → J s' := by
      intro s' hs'
      rw [ey.out, ez.out] at hs'
      refine hJ s' (i + 1, z, o ++ [y]) (by show _ - (i + 1) < _ - i; omega) ⟨hi, by simp [h2]; omega, Wf.append h3 (Wf.one hy.1 hy.2), hz.1, hz.2, ?_⟩ hs'
      show val (o ++ [y]) + 4294967296 ^ (n / 32 + (i + 1)) * z = 4294967296 ^ (n / 32) * (val (a.take (i + 1)) * 2 ^ (n % 32))
      have e1 := H6.out
      have e2 := hyz.out
      rw [val_snoc, h2, val_take_at a, show n / 32 + (i + 1) = n / 32 + i + 1 from rfl, pow_snoc]
      rw [Int.pow_add] at e1 ⊢
      generalize (4294967296 : Int) ^ (n / 32) = K at *
      generalize (4294967296 : Int) ^ i = P at *
      generalize (2 : Int) ^ (n % 32) = S at *
      have e3 : K * P * (y + 4294967296 * z) = K * P * (a.getD i 0 * S + c) := by rw [e2]
      clear ey ez b1 b2
      grind
    clear ey ez hyz
    refine T ?_
    refine fin _ ?_
    exact Hv
  · have hi' : i = a.length := by omega
    subst hi'
    refine T ?_
    refine call_eq (by rw [show n / 32 + a.length + 1 = (o ++ [c]).length by simp [h2]]) (q_Trim (o ++ [c]) (by simp; omega)) ?_
    refine TR ?_
    have h6 := H6.out
    rw [List.take_length] at h6
    rw [trim_N (Wf.append h3 (Wf.one h4 (by omega))), val_snoc, h2, h6, pow_parts n, show 4294967296 ^ (n / 32) * (val a * 2 ^ (n % 32)) = val a * (4294967296 ^ (n / 32) * 2 ^ (n % 32)) from by grind]
theorem q_Shr (a : List Int) (n : Nat) (ha : Wf a) (la : a.length ≤ 35184372088000) (hn : n ≤ 1200000000000000) : Spec Tryz.prog 77 [U a, .sc (.int .i64 n)] (U (N (val a / 2 ^ n))) := by
  refine spec_of_awp mixed Tryz.func77 rfl Tryz.call77 (by kernel_rfl) (by simp) rfl ?_
  have hs : n % 32 < 32 := Nat.mod_lt _ (by decide)
  have hp := pow_bd (s := n % 32) (by omega)
  refine T ?_
  refine w_loop (α := Nat × Nat × List Int) (fun p => [(.t 0, U a), (.t 1, .sc (.int .i64 n)), (.t 6, .sc (.int .i64 p.2.1)), (.t 5, oV 44 p.1), (.h 44, oB p.1 p.2.2)])
    (fun p => p.2.1 = n / 32 + p.1 ∧ p.1 ≤ a.length - n / 32 ∧ p.2.2.length = p.1 ∧ Wf p.2.2 ∧ 2 ^ (n % 32) * val p.2.2 + a.getD (n / 32) 0 % 2 ^ (n % 32) = val ((a.drop (n / 32)).take p.1) + 4294967296 ^ p.1 * (a.getD p.2.1 0 % 2 ^ (n % 32)))
    (fun p => a.length - n / 32 - p.1) (0, n / 32, []) ⟨rfl, Nat.zero_le _, rfl, Wf.nil, by simp [val]⟩ ?_ ?_
  · dsimp only [oV, oB]
    exact Hv
  rintro ⟨i, j, o⟩ r ⟨ej, h1, h2, h3, h5⟩ J hJ
  simp only at ej h1 h2 h3 h5
  have H5 := Hd.mk h5
  clear h5
  by_cases hi : j < a.length
  · have hai := ha.at j
    have hbi := ha.at (j + 1)
    obtain ⟨z, ez, hz, hyz⟩ := shrstep hs hai hbi
    have fin : ∀ v, v = a.getD j 0 + a.getD (j + 1) 0 * 4294967296 → ∀ s', Has [(.t 0, U a), (.t 1, .sc (.int .i64 n)), (.t 6, .sc (.int .i64 ((j : Int) + 1))), (.t 5, .hs 44 (i + 1) 0 (i + 1) 1), (.h 44, .blk (i + 1) 2 ((o ++ [v / 2 ^ (n % 32) % 4294967296]).map u32))] s' → J s' := by
      intro v hv s' hs'
      rw [hv, Int.add_comm (a.getD j 0), ez.out] at hs'
      refine hJ s' (i + 1, j + 1, o ++ [z]) (by show _ - (i + 1) < _ - i; omega) ⟨by show j + 1 = n / 32 + (i + 1); omega, by show i + 1 ≤ _; omega, by simp [h2], Wf.append h3 (Wf.one hz.1 hz.2), ?_⟩ hs'
      show 2 ^ (n % 32) * val (o ++ [z]) + a.getD (n / 32) 0 % 2 ^ (n % 32) = val ((a.drop (n / 32)).take (i + 1)) + 4294967296 ^ (i + 1) * (a.getD (j + 1) 0 % 2 ^ (n % 32))
      rw [val_snoc, h2, val_take_at (a.drop _), getD_drop, ← ej, pow_snoc]
      have e := H5.out
      have := hyz.out
      clear ez hs'
      generalize (4294967296 : Int) ^ i = P at *
      generalize (2 : Int) ^ (n % 32) = S at *
      generalize a.getD j 0 = X at *
      generalize a.getD (j + 1) 0 = Y at *
      generalize a.getD (n / 32) 0 % S = X0 at *
      have e2 : P * (S * z + X % S) = P * (X + 4294967296 * (Y % S)) := by rw [this]
      grind
    clear ez hyz
    by_cases hj : j + 1 < a.length
    · have v0 : 0 ≤ (a.getD j 0 + a.getD (j + 1) 0 * 4294967296) / 2 ^ (n % 32) := Int.ediv_nonneg (by omega) (by omega)
      rcases i with _ | i
      · have : o = [] := List.eq_nil_of_length_eq_zero h2
        subst this
        dsimp only [oV, oB]
        refine T ?_
        refine fin _ rfl _ (H ?_)
        exact rfl
      · dsimp only [oV, oB]
        refine T ?_
        refine fin _ rfl _ ?_
        exact Hv
    · have v0 : 0 ≤ a.getD j 0 / 2 ^ (n % 32) := Int.ediv_nonneg hai.1 (by omega)
      have hy0 : a.getD (j + 1) 0 = 0 := getD_big (by omega)
      rw [hy0, Int.zero_mul] at fin
      rcases i with _ | i
      · have : o = [] := List.eq_nil_of_length_eq_zero h2
        subst this
        dsimp only [oV, oB]
        refine T ?_
        refine fin _ (Int.add_zero _).symm _ (H ?_)
        exact rfl
      · dsimp only [oV, oB]
        refine T ?_
        refine fin _ (Int.add_zero _).symm _ ?_
        exact Hv
  · have key : val a / 2 ^ n = val o := by
      have h5 := H5.out
      rcases Nat.lt_or_ge a.length (n / 32 + 1) with hc | hc
      · have hi0 : i = 0 := by omega
        subst hi0
        rw [List.eq_nil_of_length_eq_zero h2]
        have h1 := val_nonneg ha
        have h2 := val_lt ha
        have h3 := pow_le (show a.length ≤ n / 32 by omega)
        have h4 : (4294967296 : Int) ^ (n / 32) * 1 ≤ 4294967296 ^ (n / 32) * 2 ^ (n % 32) := Int.mul_le_mul_of_nonneg_left hp.1 (Int.le_of_lt (pow_pos' _))
        rw [← pow_parts] at h4
        exact Int.ediv_eq_zero_of_lt h1 (by omega)
      · rw [getD_big (l := a) (n := j) (by omega), List.take_of_length_le (by simp; omega), Int.zero_emod, Int.mul_zero, Int.add_zero] at h5
        rw [pow_parts n, ← Int.ediv_ediv_of_nonneg (Int.le_of_lt (pow_pos' _)), val_div a ha _ (by omega)]
        rw [← h5, Int.add_comm, Int.add_mul_ediv_left _ _ (by omega), Int.ediv_eq_zero_of_lt (Int.emod_nonneg _ (by omega)) (Int.emod_lt_of_pos _ (by omega)), Int.zero_add]
    rcases i with _ | i
    · have : o = [] := List.eq_nil_of_length_eq_zero h2
      subst this
      dsimp only [oV, oB]
      refine T (call_wk (WkL.cons Wk.nil (WkL.refl _)) (q_Trim [] (by simp)) ?_)
      refine TR ?_
      rw [key]
      show U (trim []) = U (N 0)
      rw [N_zero]; rfl
    · dsimp only [oV, oB]
      refine T ?_
      refine call_eq (by rw [← h2]) (q_Trim o (by omega)) ?_
      refine TR ?_
      rw [trim_N h3, key]
end Go.Ab
end
section
namespace Go.Ab
open Go Go.Proofs Go.Proofs.YtiamjfckgmnijaaGreatDoor.Pl
set_option maxRecDepth 100000
set_option maxHeartbeats 8000000
theorem top_pos {l : List Int} (hw : Wf l) (h : trim l = l) (hl : l.length ≠ 0) : 1 ≤ l.getD (l.length - 1) 0 := by
  have h1 := (nm_iff hl).1 h
  have h2 := hw.at (l.length - 1)
  omega
theorem q_Bits (a : List Int) (ha : Wf a) (la : a.length ≤ 35184372087900) : Spec Tryz.prog 35 [U a] (.sc (.int .i64 (bitsL (N (val a))))) := by
  refine spec_of_awp mixed Tryz.func35 rfl Tryz.call35 (by kernel_rfl) (by simp) rfl ?_
  refine T (call_by (q_Trim a (by omega)) ?_)
  have la' := trim_len a
  rw [trim_N ha] at *
  have hx := N_wf (val a)
  generalize N (val a) = x at *
  by_cases h : x.length = 0
  · refine TR ?_
    rw [bitsL, if_pos h]
  · have wt := hx.at (x.length - 1)
    have hb := Lib.bitLen_le (x.getD (x.length - 1) 0).toNat 32 (by decide) (by omega)
    have ei : ((x.length : Int) - 1).toNat = x.length - 1 := by omega
    rw [bitsL, if_neg h]
    refine T ?_
    refine w_loop (α := Int × Int) (fun p => [(.t 5, .sc (.int .u32 p.1)), (.t 4, .sc (.int .i64 p.2))]) (fun p => 0 ≤ p.1 ∧ p.1 < 4294967296 ∧ 0 ≤ p.2 ∧ p.2 + (Lib.bitLen p.1.toNat : Int) = 32 * ((x.length : Int) - 1) + (Lib.bitLen (x.getD (x.length - 1) 0).toNat : Int)) (fun p => p.1.toNat) (x.getD (x.length - 1) 0, 32 * ((x.length : Int) - 1)) ⟨wt.1, wt.2, by show (0 : Int) ≤ 32 * _; omega, rfl⟩ ?_ ?_
    · refine H ?_
      rw [ei]
    rintro ⟨y, n⟩ r ⟨h1, h2, h3, h4⟩ J hJ
    simp only at h1 h2 h3 h4
    by_cases hy : 0 < y
    · have e := Lib.bitLen_half y.toNat (by omega) (by omega)
      rw [show y.toNat / 2 = (y / 2).toNat from by omega] at e
      refine T ?_
      refine hJ _ (y / 2, n + 1) (by show (y / 2).toNat < y.toNat; omega) ⟨by show 0 ≤ y / 2; omega, by show y / 2 < _; omega, by show 0 ≤ n + 1; omega, by show n + 1 + (Lib.bitLen (y / 2).toNat : Int) = _; omega⟩ Hv
    · have hy0 : y = 0 := by omega
      have e0 : Lib.bitLen 0 = 0 := by decide +kernel
      rw [hy0, Int.toNat_zero, e0] at h4
      refine TR ?_
      rw [show n = 32 * ((x.length : Int) - 1) + (Lib.bitLen (x.getD (x.length - 1) 0).toNat : Int) by omega]
theorem bitsL_lt {l : List Int} (hw : Wf l) (h : trim l = l) : val l < 2 ^ (bitsL l).toNat := by
  unfold bitsL
  by_cases hl : l.length = 0
  · rw [if_pos hl, List.eq_nil_of_length_eq_zero hl]
    simp [val]
  · rw [if_neg hl]
    obtain ⟨m, hm⟩ : ∃ m, l.length = m + 1 := ⟨l.length - 1, by omega⟩
    have wt := top_pos hw h hl
    have wtt := hw.at (l.length - 1)
    rw [show l.length - 1 = m from by omega] at wt wtt ⊢
    obtain ⟨n, hn⟩ := Int.eq_ofNat_of_zero_le (show 0 ≤ l.getD m 0 by omega)
    have hb := (Lib.bitLenAux_bounds 64 n (by omega) (by omega)).2.2
    have eV : val l = val (l.take m) + 4294967296 ^ m * l.getD m 0 := by rw [← val_take_at l, List.take_of_length_le (by omega)]
    have hX := take_lt hw m (by omega)
    rw [hn, Int.toNat_natCast] at *
    have e : (32 * ((l.length : Int) - 1) + (Lib.bitLen n : Int)).toNat = 32 * m + Lib.bitLen n := by omega
    rw [e, Int.pow_add, ← pow32, eV]
    have h2 : ((n : Int) + 1) ≤ 2 ^ Lib.bitLen n := by
      have : ((n + 1 : Nat) : Int) ≤ ((2 ^ Lib.bitLen n : Nat) : Int) := Int.ofNat_le.2 hb
      simpa using this
    have h3 : 4294967296 ^ m * ((n : Int) + 1) ≤ 4294967296 ^ m * 2 ^ Lib.bitLen n := Int.mul_le_mul_of_nonneg_left h2 (Int.le_of_lt (pow_pos' m))
    rw [Int.mul_add, Int.mul_one] at h3
    omega
theorem bitsL_bd {l : List Int} (hw : Wf l) : 0 ≤ bitsL l ∧ bitsL l ≤ 32 * l.length := by
  unfold bitsL
  split
  · omega
  · have wt := hw.at (l.length - 1)
    have hb := Lib.bitLen_le (l.getD (l.length - 1) 0).toNat 32 (by decide) (by omega)
    omega
theorem bitL_eq {l : List Int} (hw : Wf l) (n : Nat) : bitL l n = decide (val l / 2 ^ n % 2 = 1) := by
  unfold bitL
  by_cases h : n / 32 < l.length
  · rw [← bit_at l hw (n / 32) (n % 32) h (by omega), show 32 * (n / 32) + n % 32 = n from by omega]
  · rw [getD_big (by omega), bit_none l hw n (by omega)]
    simp
end Go.Ab
end
