import Derived.Test.YtiamjfckgmnijaaGreatDoorFnR
set_option linter.all false
section
namespace Go.Ab
open Go Go.Proofs Go.Proofs.YtiamjfckgmnijaaGreatDoor.Pl
set_option maxRecDepth 100000
set_option maxHeartbeats 8000000
theorem NN_len {m n : Nat} (h : m ≤ n) : (N (m : Int)).length ≤ (N (n : Int)).length := N_len (Int.natCast_nonneg _) (by omega)
theorem NN_zero {m : Nat} : (N (m : Int)).length = 0 ↔ m = 0 := by
  constructor
  · intro h
    rcases Nat.eq_zero_or_pos m with h1 | h1
    · exact h1
    · have := N_pos (show (0 : Int) < (m : Int) by omega)
      omega
  · rintro rfl
    rw [show ((0 : Nat) : Int) = 0 from rfl, N_zero]; rfl
theorem bit_of {m T : Nat} : bitL (N (m : Int)) T = decide (m / 2 ^ T % 2 = 1) := by
  rw [bitL_eq (N_wf _), N_val (Int.natCast_nonneg _)]
  apply decide_eq_decide.2
  have e : (m : Int) / 2 ^ T % 2 = ((m / 2 ^ T % 2 : Nat) : Int) := by simp
  rw [e]
  omega
theorem shr_of {m T : Nat} : val (N (m : Int)) / 2 ^ T = ((m / 2 ^ T : Nat) : Int) := by
  rw [N_val (Int.natCast_nonneg _)]; simp
theorem dvd_up {v T : Nat} (hv : 2 ^ T ∣ v) (h : ¬ v / 2 ^ T % 2 = 1) : 2 ^ (T + 1) ∣ v := by
  have e : v / 2 ^ T * 2 ^ T = v := Nat.div_mul_cancel hv
  refine ⟨v / 2 ^ T / 2, ?_⟩
  have e2 : v / 2 ^ T = 2 * (v / 2 ^ T / 2) := by omega
  generalize v / 2 ^ T / 2 = w at *
  rw [← e, e2, Nat.pow_succ]
  grind
theorem dvd_lt {m T : Nat} (hm : m ≠ 0) (h : 2 ^ T ∣ m) : T < 32 * (N (m : Int)).length := by
  have h1 := (N_is (Int.natCast_nonneg m)).lt
  have h2 : 2 ^ T ≤ m := Nat.le_of_dvd (by omega) h
  rcases Nat.lt_or_ge T (32 * (N (m : Int)).length) with h3 | h3
  · exact h3
  · have h4 : (2 : Nat) ^ (32 * (N (m : Int)).length) ≤ 2 ^ T := Nat.pow_le_pow_right (by decide) h3
    rw [pow32] at h1
    have h5 : (m : Int) < ((2 ^ (32 * (N (m : Int)).length) : Nat) : Int) := by simpa using h1
    omega
theorem q_Common (a b : List Int) (ha : Wf a) (hb : Wf b) (la : a.length ≤ 900000000) (lb : b.length ≤ 900000000) : Spec Tryz.prog 40 [U a, U b] (U (N (Int.gcd (val a) (val b) : Nat))) := by
  refine spec_of_awp mixed Tryz.func40 rfl Tryz.call40 (by kernel_rfl) (by simp) rfl ?_
  refine T (call_by (q_Trim a (by omega)) ?_)
  refine T (call_by (q_Trim b (by omega)) ?_)
  have la' := trim_len a
  have lb' := trim_len b
  rw [trim_N ha] at *
  rw [trim_N hb] at *
  obtain ⟨m, hm⟩ := Int.eq_ofNat_of_zero_le (val_nonneg ha)
  obtain ⟨n, hn⟩ := Int.eq_ofNat_of_zero_le (val_nonneg hb)
  rw [hm] at la'
  rw [hn] at lb'
  rw [hm, hn]
  have eg : Int.gcd (m : Int) (n : Int) = Nat.gcd m n := by simp [Int.gcd]
  rw [eg]
  have zm := NN_zero (m := m)
  have zn := NN_zero (m := n)
  by_cases hm0 : (N (m : Int)).length = 0
  · refine TR ?_
    rw [zm.1 hm0, Nat.gcd_zero_left]
  by_cases hn0 : (N (n : Int)).length = 0
  · refine TR ?_
    rw [zn.1 hn0, Nat.gcd_zero_right]
  have hm1 : m ≠ 0 := fun h => hm0 (zm.2 h)
  refine TB ?_
  refine w_cut (α := Nat) (fun t => [(.t 5, U (N (m : Int))), (.t 6, U (N (n : Int))), (.t 7, .sc (.int .i64 t))]) (fun t => 2 ^ t ∣ m ∧ 2 ^ t ∣ n ∧ (m / 2 ^ t % 2 = 1 ∨ n / 2 ^ t % 2 = 1)) ?_ ?_
  · intro J hJ
    refine T (w_loop (α := Nat) (fun t => [(.t 5, U (N (m : Int))), (.t 6, U (N (n : Int))), (.t 7, .sc (.int .i64 t))]) (fun t => 2 ^ t ∣ m ∧ 2 ^ t ∣ n) (fun t => 32 * (N (m : Int)).length - t) 0 ⟨by simp, by simp⟩ ?_ ?_)
    · exact Hv
    rintro t r ⟨d1, d2⟩ J2 hJ2
    have tl := dvd_lt hm1 d1
    refine T (call_by (q_Bit (N (m : Int)) t (N_wf _) (by omega) (by omega)) ?_)
    rw [bit_of]
    by_cases c1 : m / 2 ^ t % 2 = 1
    · rw [decide_eq_true c1]
      refine T ?_
      exact hJ _ t ⟨d1, d2, .inl c1⟩ Hv
    · rw [decide_eq_false c1]
      refine T (call_by (q_Bit (N (n : Int)) t (N_wf _) (by omega) (by omega)) ?_)
      rw [bit_of]
      by_cases c2 : n / 2 ^ t % 2 = 1
      · rw [decide_eq_true c2]
        refine T ?_
        exact hJ _ t ⟨d1, d2, .inr c2⟩ Hv
      · rw [decide_eq_false c2]
        refine T ?_
        exact hJ2 _ (t + 1) (by show _ - (t + 1) < _ - t; omega) ⟨dvd_up d1 c1, dvd_up d2 c2⟩ Hv
  rintro t r ⟨d1, d2, d3⟩
  have tl := dvd_lt hm1 d1
  have ltm : (N ((m / 2 ^ t : Nat) : Int)).length ≤ (N (m : Int)).length := NN_len (Nat.div_le_self _ _)
  have ltn : (N ((n / 2 ^ t : Nat) : Int)).length ≤ (N (n : Int)).length := NN_len (Nat.div_le_self _ _)
  have gt : Nat.gcd (m / 2 ^ t) (n / 2 ^ t) * 2 ^ t = Nat.gcd m n := by
    rw [← Nat.gcd_mul_right, Nat.div_mul_cancel d1, Nat.div_mul_cancel d2]
  refine T (call_by (q_Shr (N (m : Int)) t (N_wf _) (by omega) (by omega)) ?_)
  rw [shr_of]
  refine T (call_by (q_Shr (N (n : Int)) t (N_wf _) (by omega) (by omega)) ?_)
  rw [shr_of]
  generalize m / 2 ^ t = m1 at *
  generalize n / 2 ^ t = n1 at *
  refine TB ?_
  refine w_cut (α := Nat × Nat) (fun p => [(.t 5, U (N (p.1 : Int))), (.t 6, U (N (p.2 : Int))), (.t 7, .sc (.int .i64 t))]) (fun p => p.1 + p.2 = Nat.gcd m1 n1 ∧ (N (p.1 : Int)).length ≤ 900000000 ∧ (N (p.2 : Int)).length ≤ 900000000 ∧ (N ((p.1 + p.2 : Nat) : Int)).length ≤ 900000000) ?_ ?_
  · intro J hJ
    refine T (w_loop (α := Nat × Nat) (fun p => [(.t 5, U (N (p.1 : Int))), (.t 6, U (N (p.2 : Int))), (.t 7, .sc (.int .i64 t))]) (fun p => (p.1 % 2 = 1 ∨ p.2 % 2 = 1) ∧ Nat.gcd p.1 p.2 = Nat.gcd m1 n1 ∧ (N (p.1 : Int)).length ≤ 900000000 ∧ (N (p.2 : Int)).length ≤ 900000000) (fun p => p.1 + p.2) (m1, n1) ⟨d3, rfl, by show (N (m1 : Int)).length ≤ _; omega, by show (N (n1 : Int)).length ≤ _; omega⟩ ?_ ?_)
    · exact Hv
    rintro ⟨x, y⟩ r ⟨o1, o2, o3, o4⟩ J2 hJ2
    simp only at o1 o2 o3 o4
    have zx := NN_zero (m := x)
    have zy := NN_zero (m := y)
    by_cases hx0 : (N (x : Int)).length = 0
    · refine T ?_
      refine hJ _ (x, y) ⟨?_, o3, o4, ?_⟩ Hv
      · show x + y = _
        rw [← o2, zx.1 hx0, Nat.gcd_zero_left, Nat.zero_add]
      · show (N ((x + y : Nat) : Int)).length ≤ _
        rw [zx.1 hx0, Nat.zero_add]; exact o4
    by_cases hy0 : (N (y : Int)).length = 0
    · refine T ?_
      refine hJ _ (x, y) ⟨?_, o3, o4, ?_⟩ Hv
      · show x + y = _
        rw [← o2, zy.1 hy0, Nat.gcd_zero_right, Nat.add_zero]
      · show (N ((x + y : Nat) : Int)).length ≤ _
        rw [zy.1 hy0, Nat.add_zero]; exact o3
    have hx1 : x ≠ 0 := fun h => hx0 (zx.2 h)
    have hy1 : y ≠ 0 := fun h => hy0 (zy.2 h)
    refine T (call_by (q_Bit (N (x : Int)) 0 (N_wf _) (by omega) (by omega)) ?_)
    rw [bit_of, Nat.pow_zero, Nat.div_one]
    by_cases c1 : x % 2 = 1
    · rw [decide_eq_true c1]
      refine T (call_by (q_Bit (N (y : Int)) 0 (N_wf _) (by omega) (by omega)) ?_)
      rw [bit_of, Nat.pow_zero, Nat.div_one]
      by_cases c2 : y % 2 = 1
      · rw [decide_eq_true c2]
        refine T (call_by (q_Cmp (N (x : Int)) (N (y : Int)) (N_wf _) (N_wf _) (by omega) (by omega)) ?_)
        rw [N_val (Int.natCast_nonneg _), N_val (Int.natCast_nonneg _)]
        by_cases c3 : y ≤ x
        · have e3 := sgn_ge.2 (show (y : Int) ≤ x by omega)
          refine T (call_by (q_Minus (N (x : Int)) (N (y : Int)) (N_wf _) (N_wf _) (by omega) (by omega) (by rw [N_val (Int.natCast_nonneg _), N_val (Int.natCast_nonneg _)]; omega)) ?_)
          rw [N_val (Int.natCast_nonneg _), N_val (Int.natCast_nonneg _), show (x : Int) - y = ((x - y : Nat) : Int) by omega]
          have := NN_len (show x - y ≤ x by omega)
          refine T ?_
          refine hJ2 _ (x - y, y) (by show x - y + y < x + y; omega) ⟨.inr c2, ?_, by show (N ((x - y : Nat) : Int)).length ≤ _; omega, o4⟩ Hv
          show Nat.gcd (x - y) y = _
          rw [← o2, Nat.gcd_sub_self_left c3]
        · have e3 : ¬ sgn (x : Int) y ≥ 0 := fun h => c3 (by have := sgn_ge.1 h; omega)
          refine T (call_by (q_Minus (N (y : Int)) (N (x : Int)) (N_wf _) (N_wf _) (by omega) (by omega) (by rw [N_val (Int.natCast_nonneg _), N_val (Int.natCast_nonneg _)]; omega)) ?_)
          rw [N_val (Int.natCast_nonneg _), N_val (Int.natCast_nonneg _), show (y : Int) - x = ((y - x : Nat) : Int) by omega]
          have := NN_len (show y - x ≤ y by omega)
          refine T ?_
          refine hJ2 _ (x, y - x) (by show x + (y - x) < x + y; omega) ⟨.inl c1, ?_, o3, by show (N ((y - x : Nat) : Int)).length ≤ _; omega⟩ Hv
          show Nat.gcd x (y - x) = _
          rw [← o2, Nat.gcd_sub_self_right (by omega)]
      · rw [decide_eq_false c2]
        refine T (call_by (q_Shr (N (y : Int)) 1 (N_wf _) (by omega) (by omega)) ?_)
        rw [shr_of, Nat.pow_one]
        have := NN_len (show y / 2 ≤ y by omega)
        refine T ?_
        refine hJ2 _ (x, y / 2) (by show x + y / 2 < x + y; omega) ⟨.inl c1, ?_, o3, by show (N ((y / 2 : Nat) : Int)).length ≤ _; omega⟩ Hv
        show Nat.gcd x (y / 2) = _
        rw [← o2, Nat.gcd_comm, gcd_half (by omega) c1, Nat.gcd_comm]
    · rw [decide_eq_false c1]
      refine T (call_by (q_Shr (N (x : Int)) 1 (N_wf _) (by omega) (by omega)) ?_)
      rw [shr_of, Nat.pow_one]
      have := NN_len (show x / 2 ≤ x by omega)
      refine T ?_
      refine hJ2 _ (x / 2, y) (by show x / 2 + y < x + y; omega) ⟨by right; omega, ?_, by show (N ((x / 2 : Nat) : Int)).length ≤ _; omega, o4⟩ Hv
      show Nat.gcd (x / 2) y = _
      rw [← o2, gcd_half (by omega) (by omega)]
  rintro ⟨x, y⟩ r ⟨o1, o3, o4, o5⟩
  simp only at o1 o3 o4 o5
  rw [show ((x + y : Nat) : Int) = (x : Int) + y by omega] at o5
  refine T (call_by (q_Plus (N (x : Int)) (N (y : Int)) (N_wf _) (N_wf _) (by omega) (by omega)) ?_)
  rw [N_val (Int.natCast_nonneg _), N_val (Int.natCast_nonneg _)]
  refine T (call_by (q_Shl (N ((x : Int) + y)) t (N_wf _) (by omega) (by omega)) ?_)
  refine TR ?_
  rw [N_val (by omega), show (x : Int) + y = ((x + y : Nat) : Int) by omega, o1, ← gt]
  simp
end Go.Ab
end
