import Derived.Test.YtgffficaoioljaaRbOc
import Derived.Test.YtgffficaoioljaaRbOb
import Derived.Test.YtgffficaoioljaaRbK
import Derived.Test.YtgffficaoioljaaRbR
set_option linter.all false
section
namespace Go.Ab
open Go Go.Proofs Go.Proofs.Ytgffficaoioljaa.Pl
set_option maxRecDepth 100000
set_option maxHeartbeats 8000000
theorem g_Gcd (a b : List Int) (ha : Wf a) (hb : Wf b) (la : a.length ≤ 35184372087900) (lb : b.length ≤ 35184372087900) (h0 : Int.gcd (val a) (val b) ≠ 0) : SpecG Try.prog 91 [U a, U b] [] (.hs 1000000 1 0 (N (Int.gcd (val a) (val b) : Nat)).length 1) [(1, (N (Int.gcd (val a) (val b) : Nat)).map u32)] := by
  refine specG_of_awp mixed Try.func91 rfl Try.call91 (by kernel_rfl) (by simp) rfl rfl (by simp) ?_
  refine T (call_by (s_Trim a (by omega)) ?_)
  refine T (call_by (s_Trim b (by omega)) ?_)
  have la' := trim_len a
  have lb' := trim_len b
  rw [trim_N ha] at *
  rw [trim_N hb] at *
  have a0 := val_nonneg ha
  have b0 := val_nonneg hb
  refine T ?_
  refine w_loop (α := Int × Int) (fun p => [(.t 0, U (N p.1)), (.t 1, U (N p.2)), (.h 23, .blk 0 0 [])]) (fun p => 0 ≤ p.1 ∧ 0 ≤ p.2 ∧ (N p.1).length ≤ 35184372087900 ∧ (N p.2).length ≤ 35184372087900 ∧ Int.gcd p.1 p.2 = Int.gcd (val a) (val b)) (fun p => p.2.toNat) (val a, val b) ⟨a0, b0, by show (N (val a)).length ≤ _; omega, by show (N (val b)).length ≤ _; omega, rfl⟩ ?_ ?_
  · exact Hv
  rintro ⟨u, v⟩ r ⟨u0, v0, lu, lv, hg⟩ J hJ
  simp only at u0 v0 lu lv hg
  rcases Int.lt_or_le 0 v with h | h
  · have hp := N_pos h
    refine T (call_by (s_QuoRem (N u) (N v) (N_wf u) (N_wf v) lu lv (by rw [N_val v0]; omega)) ?_)
    rw [N_val u0, N_val v0]
    have m0 := Int.emod_nonneg u (show v ≠ 0 by omega)
    have m1 := Int.emod_lt_of_pos u h
    refine T ?_
    refine hJ _ (v, u % v) (by show (u % v).toNat < v.toNat; omega) ⟨v0, m0, lv, ?_, ?_⟩ Hv
    · show (N (u % v)).length ≤ _
      have := N_len m0 (Int.le_of_lt m1)
      omega
    · show Int.gcd v (u % v) = _
      rw [← hg, gcd_step u0 v0]
  · have hv : v = 0 := by omega
    subst hv
    rw [N_zero] at lv ⊢
    have eg : ((Int.gcd (val a) (val b) : Nat) : Int) = u := by
      rw [← hg]
      simp [Int.natAbs_of_nonneg u0]
    have et : trim (N u) = N u := N_trim u0
    have gt := g_Trim (N u) (by omega) (by
      rw [et]
      intro h
      have := N_pos (show 0 < u by omega)
      rw [h] at this
      exact absurd this (by decide))
    rw [et] at gt
    rw [eg]
    refine T ?_
    refine call_g [] false gt trivial rfl (by simp) (by simp [pOf]) rfl rfl rfl nofun ?_
    refine T (r_retG [(23, 1)] (by simp) ?_ ?_)
    · trivial
    rw [Try.results91]
    refine RG ?_
    exact ⟨Nat.le_refl _, Wk.refl _⟩
theorem n_Gcd (a b : List Int) (ha : Wf a) (hb : Wf b) (la : a.length ≤ 35184372087900) (lb : b.length ≤ 35184372087900) (h0 : Int.gcd (val a) (val b) = 0) : Spec Try.prog 91 [U a, U b] (.sc (.slice none 0 0)) := by
  refine spec_of_awp mixed Try.func91 rfl Try.call91 (by kernel_rfl) (by simp) rfl ?_
  refine T (call_by (s_Trim a (by omega)) ?_)
  refine T (call_by (s_Trim b (by omega)) ?_)
  have la' := trim_len a
  have lb' := trim_len b
  rw [trim_N ha] at *
  rw [trim_N hb] at *
  have a0 := val_nonneg ha
  have b0 := val_nonneg hb
  refine T ?_
  refine w_loop (α := Int × Int) (fun p => [(.t 0, U (N p.1)), (.t 1, U (N p.2)), (.h 23, .blk 0 0 [])]) (fun p => 0 ≤ p.1 ∧ 0 ≤ p.2 ∧ (N p.1).length ≤ 35184372087900 ∧ (N p.2).length ≤ 35184372087900 ∧ Int.gcd p.1 p.2 = Int.gcd (val a) (val b)) (fun p => p.2.toNat) (val a, val b) ⟨a0, b0, by show (N (val a)).length ≤ _; omega, by show (N (val b)).length ≤ _; omega, rfl⟩ ?_ ?_
  · exact Hv
  rintro ⟨u, v⟩ r ⟨u0, v0, lu, lv, hg⟩ J hJ
  simp only at u0 v0 lu lv hg
  rcases Int.lt_or_le 0 v with h | h
  · have hp := N_pos h
    refine T (call_by (s_QuoRem (N u) (N v) (N_wf u) (N_wf v) lu lv (by rw [N_val v0]; omega)) ?_)
    rw [N_val u0, N_val v0]
    have m0 := Int.emod_nonneg u (show v ≠ 0 by omega)
    have m1 := Int.emod_lt_of_pos u h
    refine T ?_
    refine hJ _ (v, u % v) (by show (u % v).toNat < v.toNat; omega) ⟨v0, m0, lv, ?_, ?_⟩ Hv
    · show (N (u % v)).length ≤ _
      have := N_len m0 (Int.le_of_lt m1)
      omega
    · show Int.gcd v (u % v) = _
      rw [← hg, gcd_step u0 v0]
  · have hv : v = 0 := by omega
    subst hv
    rw [N_zero] at lv ⊢
    have eg : ((Int.gcd (val a) (val b) : Nat) : Int) = u := by
      rw [← hg]
      simp [Int.natAbs_of_nonneg u0]
    have et : trim (N u) = N u := N_trim u0
    have eu : u = 0 := by omega
    rw [eu, N_zero] at et
    rw [eu, N_zero]
    refine T (call_by (n_Trim [] (by simp) et) ?_)
    refine T (r_ret ?_)
    rw [Try.results91]
    refine R ?_
    exact Wk.refl _
theorem gcd_len2 {a b : List Int} (ha : Wf a) (hb : Wf b) : (N (Int.gcd (val a) (val b) : Nat)).length ≤ a.length ∨ (N (Int.gcd (val a) (val b) : Nat)).length ≤ b.length := by
  have a0 := val_nonneg ha
  have b0 := val_nonneg hb
  by_cases h : val a = 0
  · right
    have e : ((Int.gcd (val a) (val b) : Nat) : Int) = val b := by rw [h, Int.gcd_zero_left]; omega
    rw [e, ← trim_N hb]
    exact trim_len b
  · left
    have e : ((Int.gcd (val a) (val b) : Nat) : Int) ≤ val a := Int.le_of_dvd (by omega) (Int.gcd_dvd_left ..)
    have := N_len (by omega) e
    rw [← trim_N ha] at this
    exact Nat.le_trans this (trim_len a)
theorem l_Gcd (a b : List Int) (ha : Wf a) (hb : Wf b) (la : a.length ≤ 35184372087900) (lb : b.length ≤ 35184372087900) : Lim 40 [U a, U b] (N (Int.gcd (val a) (val b) : Nat)) := by
  have lt : (N (Int.gcd (val a) (val b) : Nat)).length ≤ 140000000000000 := by
    rcases gcd_len2 ha hb with h | h
    · omega
    · omega
  by_cases h0 : Int.gcd (val a) (val b) = 0
  · refine Lim.nil (by rw [h0]; exact N_zero) rfl ?_
    refine spec_of_awp mixed Try.func40 rfl Try.call40 (by kernel_rfl) (by simp) rfl ?_
    refine T (call_by (n_Gcd a b ha hb la lb h0) ?_)
    refine T (call_by n_fit ?_)
    refine T (r_ret ?_)
    rw [Try.results40]
    refine R ?_
    exact Wk.refl _
  by_cases h1 : (N (Int.gcd (val a) (val b) : Nat)).length ≤ 16
  · refine Lim.row h1 ?_
    refine specG_of_awp mixed Try.func40 rfl Try.call40 (by kernel_rfl) (by simp) rfl rfl (by simp) ?_
    refine T ?_
    refine call_g [] false (g_Gcd a b ha hb la lb h0) trivial rfl (by simp) (by simp [pOf]) rfl rfl rfl nofun ?_
    refine T ?_
    refine call_fit0 (N (Int.gcd (val a) (val b) : Nat)) 8 rfl h1 rfl Hv ?_
    refine T (r_retG [(8, 1)] (by simp) ?_ ?_)
    · trivial
    rw [Try.results40]
    refine RG ?_
    exact ⟨Nat.le_refl _, Wk.refl _⟩
  · refine Lim.big (by omega) rfl ?_
    refine spec_of_awp mixed Try.func40 rfl Try.call40 (by kernel_rfl) (by simp) rfl ?_
    refine T ?_
    refine call_g [] false (g_Gcd a b ha hb la lb h0) trivial rfl (by simp) (by simp [pOf]) rfl rfl rfl nofun ?_
    refine T ?_
    refine call_fit1 (N (Int.gcd (val a) (val b) : Nat)) 8 rfl (by omega) (by omega) rfl Hv ?_
    refine T (r_ret ?_)
    rw [Try.results40]
    refine R ?_
    exact Wk.refl _
end Go.Ab
end
section
namespace Go.Ab
open Go Go.Proofs Go.Proofs.Ytgffficaoioljaa.Pl
set_option maxRecDepth 100000
set_option maxHeartbeats 8000000
theorem bits_zero {v : Int} (h : 0 ≤ v) (hb : bitsL (N v) = 0) : v = 0 := by
  have h1 := bitsL_lt (N_wf v) (N_trim h)
  rw [hb, N_val h] at h1
  have h2 : v < 1 := h1
  omega
theorem bits_pos {v : Int} (h : 0 < v) : ¬ bitsL (N v) = 0 := fun hb => by
  have := bits_zero (Int.le_of_lt h) hb
  omega
def LimQ (F : FuncId) (xs : List AV) (u v : Int) : Prop := ∃ (fq fr : Bool) (q r : List Int) (e : Int), (fq = false → q = []) ∧ (fr = false → r = []) ∧ q.length ≤ 16 ∧ r.length ≤ 16 ∧ (e = 0 ∧ r = N (u % v) ∧ v ≠ 0 ∨ e = 4 ∨ e = 10) ∧
  SpecG Try.prog F xs [] (.tup [oX 1000000 fq q, oX (if fq then 1000001 else 1000000) fr r, .sc (.int .i64 e)]) (oO fq q ++ oO fr r)
theorem LimQ.none {F : FuncId} {xs : List AV} {u v : Int} (e : Int) (he : e = 0 ∧ [] = N (u % v) ∧ v ≠ 0 ∨ e = 4 ∨ e = 10) (hp : AV.pureL xs = true) (h : Spec Try.prog F xs (.tup [.sc (.slice none 0 0), .sc (.slice none 0 0), .sc (.int .i64 e)])) : LimQ F xs u v :=
  ⟨false, false, [], [], e, fun _ => rfl, fun _ => rfl, by decide, by decide, he, SpecG.of_spec h hp rfl⟩
theorem lq0 (a b : List Int) (ha : Wf a) (hb : Wf b) (la : a.length ≤ 35184372087900) (lb : b.length ≤ 35184372087900) (hb0 : val b = 0) : LimQ 26 [U a, U b] (val a) (val b) := by
  refine LimQ.none 10 (.inr (.inr rfl)) rfl ?_
  refine spec_of_awp mixed Try.func26 rfl Try.call26 (by kernel_rfl) (by simp) rfl ?_
  refine T (call_by (s_Bits b hb lb) ?_)
  rw [show bitsL (N (val b)) = 0 by rw [hb0, N_zero]; rfl]
  refine T (r_ret ?_)
  rw [Try.results26]
  refine R ?_
  exact Wk.refl _
theorem lq1 (a b : List Int) (ha : Wf a) (hb : Wf b) (la : a.length ≤ 35184372087900) (lb : b.length ≤ 35184372087900) (hb0 : val b ≠ 0) (hlt : val a < val b) (h0 : val a = 0) : LimQ 26 [U a, U b] (val a) (val b) := by
  refine LimQ.none 0 (.inl ⟨rfl, by rw [h0, Int.zero_emod, N_zero], hb0⟩) rfl ?_
  refine spec_of_awp mixed Try.func26 rfl Try.call26 (by kernel_rfl) (by simp) rfl ?_
  refine T (call_by (s_Bits b hb lb) ?_)
  have hz := bits_pos (show 0 < val b by have := val_nonneg hb; omega)
  refine T (call_by (n_QR a b ha hb la lb hb0 hlt h0) ?_)
  refine T (r_ret ?_)
  rw [Try.results26]
  refine R ?_
  exact Wk.refl _
theorem lq2 (a b : List Int) (ha : Wf a) (hb : Wf b) (la : a.length ≤ 35184372087900) (lb : b.length ≤ 35184372087900) (hb0 : val b ≠ 0) (hlt : val a < val b) (h0 : val a ≠ 0) : LimQ 26 [U a, U b] (val a) (val b) := by
  have a0 := val_nonneg ha
  have b0 := val_nonneg hb
  by_cases h16 : (N (val a)).length ≤ 16
  · refine ⟨false, true, [], N (val a), 0, fun _ => rfl, nofun, by decide, h16, .inl ⟨rfl, by rw [Int.emod_eq_of_lt a0 hlt], hb0⟩, ?_⟩
    show SpecG Try.prog _ _ [] (.tup [.sc (.slice none 0 0), .hs 1000000 1 0 (N (val a)).length 1, .sc (.int .i64 0)]) [(1, (N (val a)).map u32)]
    refine specG_of_awp mixed Try.func26 rfl Try.call26 (by kernel_rfl) (by simp) rfl rfl (by simp) ?_
    refine T (call_by (s_Bits b hb lb) ?_)
    have hz := bits_pos (show 0 < val b by have := val_nonneg hb; omega)
    refine T ?_
    refine call_g [] false (g_QR1 a b ha hb la lb hb0 hlt h0) trivial rfl (by simp) (by simp [pOf]) rfl rfl rfl nofun ?_
    refine T (r_retG [(15, 1)] (by simp) ?_ ?_)
    · trivial
    rw [Try.results26]
    refine RG ?_
    exact ⟨Nat.le_refl _, Wk.refl _⟩
  · refine LimQ.none 4 (.inr (.inl rfl)) rfl ?_
    refine spec_of_awp mixed Try.func26 rfl Try.call26 (by kernel_rfl) (by simp) rfl ?_
    refine T (call_by (s_Bits b hb lb) ?_)
    have hz := bits_pos (show 0 < val b by have := val_nonneg hb; omega)
    refine T ?_
    refine call_g [] false (g_QR1 a b ha hb la lb hb0 hlt h0) trivial rfl (by simp) (by simp [pOf]) rfl rfl rfl nofun ?_
    refine T (r_ret ?_)
    rw [Try.results26]
    refine R ?_
    exact Wk.refl _
theorem lq3 (a b : List Int) (ha : Wf a) (hb : Wf b) (la : a.length ≤ 35184372087900) (lb : b.length ≤ 35184372087900) (hb0 : val b ≠ 0) (hlt : ¬ val a < val b) (h1 : (trim b).length = 1) : LimQ 26 [U a, U b] (val a) (val b) := by
  have a0 := val_nonneg ha
  have b0 := val_nonneg hb
  by_cases h16 : (N (val a / val b)).length ≤ 16 ∧(N (val a % val b)).length ≤ 16
  · refine ⟨true, true, N (val a / val b), N (val a % val b), 0, nofun, nofun, h16.1, h16.2, .inl ⟨rfl, rfl, hb0⟩, ?_⟩
    show SpecG Try.prog _ _ [] (.tup [.hs 1000000 1 0 (N (val a / val b)).length 1, .hs 1000001 1 0 (N (val a % val b)).length 1, .sc (.int .i64 0)]) [(1, (N (val a / val b)).map u32), (1, (N (val a % val b)).map u32)]
    obtain ⟨h16, h17⟩ := h16
    refine specG_of_awp mixed Try.func26 rfl Try.call26 (by kernel_rfl) (by simp) rfl rfl (by simp) ?_
    refine T (call_by (s_Bits b hb lb) ?_)
    have hz := bits_pos (show 0 < val b by have := val_nonneg hb; omega)
    refine T ?_
    refine call_g [] false (g_QR2 a b ha hb la lb hb0 hlt h1) trivial rfl (by simp) (by simp [pOf]) rfl rfl rfl nofun ?_
    refine T (r_retG [(15, 1), (3000015, 1)] (by simp) ?_ ?_)
    · trivial
    rw [Try.results26]
    refine RG ?_
    exact ⟨⟨Nat.le_refl _, Nat.le_refl _⟩, Wk.refl _⟩
  · refine LimQ.none 4 (.inr (.inl rfl)) rfl ?_
    by_cases h17 : (N (val a / val b)).length ≤ 16
    · have h18 : ¬ (N (val a % val b)).length ≤ 16 := fun h => h16 ⟨h17, h⟩
      clear h16
      refine spec_of_awp mixed Try.func26 rfl Try.call26 (by kernel_rfl) (by simp) rfl ?_
      refine T (call_by (s_Bits b hb lb) ?_)
      have hz := bits_pos (show 0 < val b by have := val_nonneg hb; omega)
      refine T ?_
      refine call_g [] false (g_QR2 a b ha hb la lb hb0 hlt h1) trivial rfl (by simp) (by simp [pOf]) rfl rfl rfl nofun ?_
      refine T (r_ret ?_)
      rw [Try.results26]
      refine R ?_
      exact Wk.refl _
    · clear h16
      refine spec_of_awp mixed Try.func26 rfl Try.call26 (by kernel_rfl) (by simp) rfl ?_
      refine T (call_by (s_Bits b hb lb) ?_)
      have hz := bits_pos (show 0 < val b by have := val_nonneg hb; omega)
      refine T ?_
      refine call_g [] false (g_QR2 a b ha hb la lb hb0 hlt h1) trivial rfl (by simp) (by simp [pOf]) rfl rfl rfl nofun ?_
      refine T (r_ret ?_)
      rw [Try.results26]
      refine R ?_
      exact Wk.refl _
theorem lq4 (a b : List Int) (ha : Wf a) (hb : Wf b) (la : a.length ≤ 35184372087900) (lb : b.length ≤ 35184372087900) (hb0 : val b ≠ 0) (hlt : ¬ val a < val b) (h1 : (trim b).length ≠ 1) (hr : val a % val b ≠ 0) : LimQ 26 [U a, U b] (val a) (val b) := by
  have a0 := val_nonneg ha
  have b0 := val_nonneg hb
  by_cases h16 : (N (val a / val b)).length ≤ 16 ∧(N (val a % val b)).length ≤ 16
  · refine ⟨true, true, N (val a / val b), N (val a % val b), 0, nofun, nofun, h16.1, h16.2, .inl ⟨rfl, rfl, hb0⟩, ?_⟩
    show SpecG Try.prog _ _ [] (.tup [.hs 1000000 1 0 (N (val a / val b)).length 1, .hs 1000001 1 0 (N (val a % val b)).length 1, .sc (.int .i64 0)]) [(1, (N (val a / val b)).map u32), (1, (N (val a % val b)).map u32)]
    obtain ⟨h16, h17⟩ := h16
    refine specG_of_awp mixed Try.func26 rfl Try.call26 (by kernel_rfl) (by simp) rfl rfl (by simp) ?_
    refine T (call_by (s_Bits b hb lb) ?_)
    have hz := bits_pos (show 0 < val b by have := val_nonneg hb; omega)
    refine T ?_
    refine call_g [] false (g_QR3 a b ha hb la lb hb0 hlt h1 hr) trivial rfl (by simp) (by simp [pOf]) rfl rfl rfl nofun ?_
    refine T (r_retG [(15, 1), (3000015, 1)] (by simp) ?_ ?_)
    · trivial
    rw [Try.results26]
    refine RG ?_
    exact ⟨⟨Nat.le_refl _, Nat.le_refl _⟩, Wk.refl _⟩
  · refine LimQ.none 4 (.inr (.inl rfl)) rfl ?_
    by_cases h17 : (N (val a / val b)).length ≤ 16
    · have h18 : ¬ (N (val a % val b)).length ≤ 16 := fun h => h16 ⟨h17, h⟩
      clear h16
      refine spec_of_awp mixed Try.func26 rfl Try.call26 (by kernel_rfl) (by simp) rfl ?_
      refine T (call_by (s_Bits b hb lb) ?_)
      have hz := bits_pos (show 0 < val b by have := val_nonneg hb; omega)
      refine T ?_
      refine call_g [] false (g_QR3 a b ha hb la lb hb0 hlt h1 hr) trivial rfl (by simp) (by simp [pOf]) rfl rfl rfl nofun ?_
      refine T (r_ret ?_)
      rw [Try.results26]
      refine R ?_
      exact Wk.refl _
    · clear h16
      refine spec_of_awp mixed Try.func26 rfl Try.call26 (by kernel_rfl) (by simp) rfl ?_
      refine T (call_by (s_Bits b hb lb) ?_)
      have hz := bits_pos (show 0 < val b by have := val_nonneg hb; omega)
      refine T ?_
      refine call_g [] false (g_QR3 a b ha hb la lb hb0 hlt h1 hr) trivial rfl (by simp) (by simp [pOf]) rfl rfl rfl nofun ?_
      refine T (r_ret ?_)
      rw [Try.results26]
      refine R ?_
      exact Wk.refl _
theorem lq5 (a b : List Int) (ha : Wf a) (hb : Wf b) (la : a.length ≤ 35184372087900) (lb : b.length ≤ 35184372087900) (hb0 : val b ≠ 0) (hlt : ¬ val a < val b) (h1 : (trim b).length ≠ 1) (hr : val a % val b = 0) : LimQ 26 [U a, U b] (val a) (val b) := by
  have a0 := val_nonneg ha
  have b0 := val_nonneg hb
  by_cases h16 : (N (val a / val b)).length ≤ 16
  · refine ⟨true, false, N (val a / val b), [], 0, nofun, fun _ => rfl, h16, by decide, .inl ⟨rfl, by rw [hr, N_zero], hb0⟩, ?_⟩
    show SpecG Try.prog _ _ [] (.tup [.hs 1000000 1 0 (N (val a / val b)).length 1, .sc (.slice none 0 0), .sc (.int .i64 0)]) [(1, (N (val a / val b)).map u32)]
    refine specG_of_awp mixed Try.func26 rfl Try.call26 (by kernel_rfl) (by simp) rfl rfl (by simp) ?_
    refine T (call_by (s_Bits b hb lb) ?_)
    have hz := bits_pos (show 0 < val b by have := val_nonneg hb; omega)
    refine T ?_
    refine call_g [] false (g_QR4 a b ha hb la lb hb0 hlt h1 hr) trivial rfl (by simp) (by simp [pOf]) rfl rfl rfl nofun ?_
    refine T (r_retG [(15, 1)] (by simp) ?_ ?_)
    · trivial
    rw [Try.results26]
    refine RG ?_
    exact ⟨Nat.le_refl _, Wk.refl _⟩
  · refine LimQ.none 4 (.inr (.inl rfl)) rfl ?_
    refine spec_of_awp mixed Try.func26 rfl Try.call26 (by kernel_rfl) (by simp) rfl ?_
    refine T (call_by (s_Bits b hb lb) ?_)
    have hz := bits_pos (show 0 < val b by have := val_nonneg hb; omega)
    refine T ?_
    refine call_g [] false (g_QR4 a b ha hb la lb hb0 hlt h1 hr) trivial rfl (by simp) (by simp [pOf]) rfl rfl rfl nofun ?_
    refine T (r_ret ?_)
    rw [Try.results26]
    refine R ?_
    exact Wk.refl _
theorem l_QuoRem (a b : List Int) (ha : Wf a) (hb : Wf b) (la : a.length ≤ 35184372087900) (lb : b.length ≤ 35184372087900) : LimQ 26 [U a, U b] (val a) (val b) := by
  by_cases hb0 : val b = 0
  · exact lq0 a b ha hb la lb hb0
  by_cases hlt : val a < val b
  · by_cases h0 : val a = 0
    · exact lq1 a b ha hb la lb hb0 hlt h0
    · exact lq2 a b ha hb la lb hb0 hlt h0
  by_cases h1 : (trim b).length = 1
  · exact lq3 a b ha hb la lb hb0 hlt h1
  by_cases hr : val a % val b = 0
  · exact lq5 a b ha hb la lb hb0 hlt h1 hr
  · exact lq4 a b ha hb la lb hb0 hlt h1 hr
end Go.Ab
end
section
namespace Go.Ab
open Go Go.Proofs Go.Proofs.Ytgffficaoioljaa.Pl
set_option maxRecDepth 100000
set_option maxHeartbeats 8000000
def oS (f : Bool) (v : List Int) : AV := if f then .blk 1 2 (v.map u32) else .blk 0 0 []
section
variable {P : Program} {B : Nat} {ops : Array Oper} {K : S → Prop} {rest : List Oper} {s : S} {x : Option (List AV × List Nat)}
theorem appH_snoc (s : S) (l : List (Nat × AV)) (k : Nat) (x : AV) : appH s (l ++ [(k, x)]) = upd (appH s l) (.h k) x := by
  rw [appH, appH, List.map_append, app_append]
  rfl
theorem upd_self {s : S} {l : Loc} {x : AV} (h : s l = x) : upd s l x = s := by
  funext m
  by_cases e : m = l
  · subst e; simp [upd, h]
  · simp [upd, e]
theorem call_lim (k : Nat) {d : Tmp} {F : FuncId} {raw xs : List AV} {ks : List Nat} {v : List Int} (hP : P = Try.prog) (hk : B + d = k) (hL : Lim F xs v) (h4 : frzGL (hall s) [] raw = some (xs, ks)) (h6 : AV.kpL (okL []) xs = true) (h7 : AV.renL (asg [] []) xs = xs)
    (hS : hall s k = .blk 0 0 []) (hS' : appH s (fzs s ks) (.h k) = .blk 0 0 [])
    (hK : ∀ f : Bool, (f = false → (fitV v).1 = []) → AOps0 P B ops K rest (put (upd (appH s (fzs s ks)) (.h k) (oS f (fitV v).1)) (some d) (.tup [oX k f (fitV v).1, .sc (.int .i64 (fitV v).2)]))) : ACall P B ops K rest s (some d) F raw x := by
  subst hP hk
  obtain ⟨f, hf, hG⟩ := hL
  cases f with
  | false =>
    have := hK false hf
    rw [oS, if_neg (by decide), upd_self hS'] at this
    refine call_g [] false hG trivial h4 (by simp [oO]) (by simp [oO, pOf]) (by simp) h6 h7 nofun ?_
    have e : oO false (fitV v).1 = [] := rfl
    rw [e]
    simp only [Bool.false_eq_true, if_false, upsOf, pOf, List.append_nil]
    exact this
  | true =>
    have := hK true hf
    refine call_g [] false hG trivial h4 (by simp [oO]) (by simp [oO, pOf]) (by simp) h6 h7 nofun ?_
    have e : oO true (fitV v).1 = [(1, (fitV v).1.map u32)] := rfl
    rw [e]
    simp only [Bool.false_eq_true, if_false, upsOf, pOf]
    rw [appH_snoc, hS]
    exact this
theorem call_limq (k k' : Nat) {d : Tmp} {F : FuncId} {raw xs : List AV} {ks : List Nat} {u v : Int} (hP : P = Try.prog) (hk : B + d = k) (hk' : B + d + 3000000 = k') (hL : LimQ F xs u v) (h4 : frzGL (hall s) [] raw = some (xs, ks)) (h6 : AV.kpL (okL []) xs = true) (h7 : AV.renL (asg [] []) xs = xs)
    (hS : hall s k = .blk 0 0 []) (hS' : appH s (fzs s ks) (.h k) = .blk 0 0 []) (hT : hall s k' = .blk 0 0 []) (hT' : appH s (fzs s ks) (.h k') = .blk 0 0 [])
    (hK : ∀ (f g : Bool) (q r : List Int) (e : Int), (f = false → q = []) → (g = false → r = []) → q.length ≤ 16 → r.length ≤ 16 → (e = 0 ∧ r = N (u % v) ∧ v ≠ 0 ∨ e = 4 ∨ e = 10) →
      AOps0 P B ops K rest (put (upd (upd (appH s (fzs s ks)) (.h k) (oS f q)) (.h k') (oS g r)) (some d) (.tup [oX k f q, oX k' g r, .sc (.int .i64 e)]))) : ACall P B ops K rest s (some d) F raw x := by
  subst hP hk hk'
  obtain ⟨f, g, q, r, e, h1, h2, h3, h5, he, hG⟩ := hL
  have := hK f g q r e h1 h2 h3 h5 he
  have ne : B + d + 3000000 ≠ B + d := by omega
  cases f with
  | false =>
    cases g with
    | false =>
      rw [oS, if_neg (by decide), upd_self hS', oS, if_neg (by decide), upd_self hT'] at this
      refine call_g [] false hG trivial h4 (by simp [oO]) (by simp [oO, pOf]) (by simp) h6 h7 nofun ?_
      have e : oO false q ++ oO false r = [] := rfl
      rw [e]
      simp only [Bool.false_eq_true, if_false, upsOf, pOf, List.append_nil]
      exact this
    | true =>
      rw [oS, if_neg (by decide), upd_self hS'] at this
      refine call_gj 1 [] false hG trivial h4 (by simp [oO]) (by simp [oO, pOf]) (by simp) h6 h7 nofun ?_
      have e : oO false q ++ oO true r = [(1, r.map u32)] := rfl
      rw [e]
      simp only [Bool.false_eq_true, if_false, upsOf, pOf, Nat.mul_one]
      rw [appH_snoc, hT]
      exact this
  | true =>
    cases g with
    | false =>
      rw [oS, oS, if_neg (show ¬ false = true by decide), upd_self (by show upd _ (.h (B + d)) _ (.h (B + d + 3000000)) = _; simp only [upd, Loc.h.injEq, if_neg ne]; exact hT')] at this
      refine call_g [] false hG trivial h4 (by simp [oO]) (by simp [oO, pOf]) (by simp) h6 h7 nofun ?_
      have e : oO true q ++ oO false r = [(1, q.map u32)] := rfl
      rw [e]
      simp only [Bool.false_eq_true, if_false, upsOf, pOf]
      rw [appH_snoc, hS]
      exact this
    | true =>
      refine call_g [] false hG trivial h4 (by simp [oO]) (by simp [oO, pOf]) (by simp) h6 h7 nofun ?_
      have e : oO true q ++ oO true r = [(1, q.map u32), (1, r.map u32)] := rfl
      rw [e]
      simp only [Bool.false_eq_true, if_false, upsOf, pOf]
      rw [show ∀ (l : List (Nat × AV)) (a b : Nat × AV), l ++ [a, b] = (l ++ [a]) ++ [b] from fun l a b => by simp, appH_snoc, appH_snoc, hS, hT]
      exact this
theorem call_spoil {d : Option Tmp} (k : Nat) (f : Bool) (v : List Int) (hP : P = Try.prog) (hf : f = false → v = []) (hl : v.length ≤ 16) (h0 : hall s k = oS f v)
    (hK : ∀ Z, AOps0 P B ops K rest (put (upd s (.h k) Z) d (.tup []))) (hx : f = false → x = some ([.sc (.slice none 0 0)], [])) : ACall P B ops K rest s d 43 [oX k f v] x := by
  subst hP
  cases f with
  | false =>
    have := hK (.blk 0 0 [])
    rw [upd_self (show s (.h k) = .blk 0 0 [] from h0)] at this
    rw [hx rfl]
    exact call_by n_spoil this
  | true =>
    have e1 : frzHL (hall s) k [.hs k 1 0 v.length 1] = some ([.hs k 1 0 v.length 1], []) := by simp [frzHL, frzH]
    have e2 : AV.keepL k 1 [.hs k 1 0 v.length 1] = true := by simp [AV.keepL, AV.keep]
    refine call_h (as' := [.hs 1000000 1 0 v.length 1]) (cs := v.map u32) h0 (all_u32f _) e1 rfl e2 rfl (h_spoil v (by omega)) ?_
    exact hK _
end
end Go.Ab
end
