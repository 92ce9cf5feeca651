import Derived.Test.YtiamjfckgmnijaaGreatDoorFnFj1
import Derived.Test.YtiamjfckgmnijaaGreatDoorFnNa
set_option linter.all false
section
namespace Go.Ab
open Go Go.Proofs
set_option maxRecDepth 100000
set_option exponentiation.threshold 5000
set_option maxHeartbeats 4000000
theorem acv_uf {B : Nat} {d : Option Tmp} {h : Nat → AV} {m y : Nat} (hy : Ieee.double.nearest false m 0 = y) : aconv Tryz.prog B d h 22 30 (u64 m) = some (f64 y, []) := by
  have e : aconv Tryz.prog B d h 22 30 (u64 m) = some (f64 (FloatKind.f64.nearest (m : Int)), []) := by kernel_rfl
  have e2 : FloatKind.f64.nearest (m : Int) = Ieee.double.nearest (decide ((m : Int) < 0)) (m : Int).natAbs 0 := rfl
  rw [e, e2, decide_eq_false (by omega), Int.natAbs_natCast, hy]
theorem ldexpM (y m : Nat) (e : Int) (hy : 4503599627370496 ≤ y) (hy' : y < 9218868437227405312) (hm : mg y = m * 2 ^ 1074) (hE : y / 4503599627370496 = 1023 + m.log2) (h1 : 1 ≤ m) (h53 : m ≤ 9007199254740992) (he : -1074 ≤ e) (he' : e ≤ 5000) :
    ∃ r, Spec Tryz.prog 49 [f64 y, .sc (.int .i64 e)] (f64 r) ∧ isR (m * 2 ^ (e + 1074).toNat) r := by
  obtain ⟨b1, b2⟩ := log2_bd h1
  have hf : y % 4503599627370496 < 4503599627370496 := Nat.mod_lt _ (by decide)
  rw [mg_nrm hy, hE] at hm
  rcases Int.lt_or_le 2046 (e + ((y / 4503599627370496 : Nat) : Int)) with hA | hA
  · refine ⟨_, s_Ldexp _ _ _ (s_ldexpA y e hy hy' (by omega) (by omega)), .inr ⟨rfl, ?_⟩⟩
    have h2 : 2 ^ m.log2 * 2 ^ (e + 1074).toNat ≤ m * 2 ^ (e + 1074).toNat := Nat.mul_le_mul_right _ b1
    rw [← Nat.pow_add] at h2
    exact Nat.le_trans (Nat.pow_le_pow_right (by decide) (by omega)) h2
  · rcases Int.lt_or_le 0 (e + ((y / 4503599627370496 : Nat) : Int)) with hB | hB
    · obtain ⟨k, hk⟩ : ∃ k : Nat, e + ((y / 4503599627370496 : Nat) : Int) = k := ⟨(e + ((y / 4503599627370496 : Nat) : Int)).toNat, by omega⟩
      refine ⟨_, s_Ldexp _ _ _ (s_ldexpB y k e hy hy' hk (by omega) (by omega)), .inl ⟨by omega, ?_⟩⟩
      rw [mg_nrm (by omega), show (k * 4503599627370496 + y % 4503599627370496) % 4503599627370496 = y % 4503599627370496 by omega, show (k * 4503599627370496 + y % 4503599627370496) / 4503599627370496 = k by omega]
      refine Nat.eq_of_mul_eq_mul_right (Nat.two_pow_pos 1074) ?_
      rw [Nat.mul_right_comm m, ← hm, Nat.mul_assoc, Nat.mul_assoc, ← Nat.pow_add, ← Nat.pow_add, show k - 1 + 1074 = 1023 + m.log2 - 1 + (e + 1074).toNat by omega]
    · obtain ⟨k, hk⟩ : ∃ k : Nat, e + ((y / 4503599627370496 : Nat) : Int) + 53 = k := ⟨(e + ((y / 4503599627370496 : Nat) : Int) + 53).toNat, by omega⟩
      have e1 : (4503599627370496 + y % 4503599627370496) * 2 ^ (k - 1) = m * 2 ^ (e + 1074).toNat * 2 ^ 53 := by
        refine Nat.eq_of_mul_eq_mul_right (Nat.two_pow_pos 1074) ?_
        rw [Nat.mul_right_comm _ (2 ^ 53), Nat.mul_right_comm m, ← hm, Nat.mul_assoc, Nat.mul_assoc, Nat.mul_assoc, ← Nat.pow_add, ← Nat.pow_add, ← Nat.pow_add, show k - 1 + 1074 = 1023 + m.log2 - 1 + ((e + 1074).toNat + 53) by omega]
      have hr : m * 2 ^ (e + 1074).toNat < 4503599627370496 := by
        have h2 : (4503599627370496 + y % 4503599627370496) * 2 ^ (k - 1) < 2 ^ 53 * 2 ^ 52 := Nat.mul_lt_mul_of_lt_of_le (by omega) (Nat.pow_le_pow_right (by decide) (by omega)) (by decide)
        rw [e1] at h2
        omega
      refine ⟨_, s_Ldexp _ _ _ (s_ldexpC y k (m * 2 ^ (e + 1074).toNat) e hy hy' hk (by omega) (by omega) (by omega) ?_), .inl ⟨by omega, mg_sub hr⟩⟩
      rw [mg_nrm (by omega), show (k * 4503599627370496 + y % 4503599627370496) % 4503599627370496 = y % 4503599627370496 by omega, show (k * 4503599627370496 + y % 4503599627370496) / 4503599627370496 = k by omega, mg_sub hr]
      exact e1
theorem ldexp0 (e : Int) : Spec Tryz.prog 49 [f64 0, .sc (.int .i64 e)] (f64 0) := by
  refine s_Ldexp _ _ _ ?_
  refine spec_of_awp mixed Tryz.func87 rfl Tryz.call87 (by kernel_rfl) (by simp) rfl ?_
  refine T ?_
  rw [pr_eq, Option.map_some, eq_pos (by omega) (by omega), decide_eq_true rfl]
  refine T (r_ret ?_)
  rw [Tryz.results87]
  refine R ?_
  exact Wk.refl _
theorem fl_all (m : Nat) (e : Int) (h53 : m ≤ 9007199254740992) (he : -1074 ≤ e) (he' : e ≤ 5000) :
    ∃ y r, Ieee.double.nearest false m 0 = y ∧ Spec Tryz.prog 49 [f64 y, .sc (.int .i64 e)] (f64 r) ∧ isR (m * 2 ^ (e + 1074).toNat) r := by
  rcases Nat.eq_zero_or_pos m with h | h
  · subst h
    exact ⟨0, 0, rfl, ldexp0 e, .inl ⟨by decide, by rw [mg_zero, Nat.zero_mul]⟩⟩
  · obtain ⟨y, y1, y2, y3, y4⟩ := fl_ex h h53
    obtain ⟨r, r1, r2⟩ := ldexpM y m e y1 y2 y3 y4 h h53 he he'
    exact ⟨y, r, fl_nearest y2 y3, r1, r2⟩
theorem and_one (m : Nat) (hm : m < 18446744073709551616) : bAnd .u64 (m : Int) 1 = ((m % 2 : Nat) : Int) := by
  have e2 : (BitVec.ofInt 64 (m : Int) &&& BitVec.ofInt 64 1).toNat = m % 2 := by
    rw [ofInt_nat, show BitVec.ofInt 64 1 = BitVec.ofNat 64 (2 ^ 1 - 1) by decide, BitVec.toNat_and, BitVec.toNat_ofNat, BitVec.toNat_ofNat, Nat.mod_eq_of_lt (by omega), show (2 ^ 1 - 1) % 2 ^ 64 = 2 ^ 1 - 1 by decide, Nat.and_two_pow_sub_one_eq_mod]
  show IntKind.u64.wrap ((BitVec.ofInt 64 (m : Int) &&& BitVec.ofInt 64 1).toNat : Int) = _
  rw [e2, wrapu64 (by omega) (by omega)]
theorem s_shiftU (m s : Nat) (hm : m < 18446744073709551616) (h1 : 1 ≤ s) (h2 : s ≤ 64) : Spec Tryz.prog 95 [u64 m, .sc (.int .u64 s)] (.tup [u64 (m / 2 ^ s), u64 (m % 2 ^ s * 2 ^ (64 - s))]) := by
  rcases Nat.lt_or_ge s 64 with h | h
  · have := s_shift m s hm h1 h
    rwa [low_mod h1 h2] at this
  · have : s = 64 := by omega
    subst this
    have h := s_shift64 m
    rw [show m / 2 ^ 64 = 0 from Nat.div_eq_of_lt hm, Nat.mod_eq_of_lt (show m < 2 ^ 64 from hm), show 64 - 64 = 0 by decide, Nat.pow_zero, Nat.mul_one]
    exact h
theorem s_size (man : Nat) (exp : Int) (hm : man < 18446744073709551616) (he : -4000 ≤ exp ∧ exp ≤ 4000) : Spec Tryz.prog 58 [u64 man, .sc (.int .i64 exp)] (f64 (jr man exp)) := by
  refine spec_of_awp mixed Tryz.func58 rfl Tryz.call58 (by kernel_rfl) (by simp) rfl ?_
  rcases Nat.eq_zero_or_pos man with h0 | h0
  · have e : jr man exp = 0 := by unfold jr; rw [if_pos (.inl h0)]
    rw [e]
    exact TR rfl
  have cL := s_Len64 man hm
  rw [bl_log2 h0 hm] at cL
  have l := log2_le63 h0 hm
  have q1 := jq_le (man := man) (exp := exp)
  have q2 : exp + ((man.log2 + 1 : Nat) : Int) - 53 ≤ jq man exp := by unfold jq; omega
  have q3 : jq man exp = -1074 ∨ jq man exp = exp + ((man.log2 + 1 : Nat) : Int) - 53 := by unfold jq; omega
  have ja := jm_a (man := man) (exp := exp) h0
  have jb := fun s => jm_b (man := man) (exp := exp) (s := s) h0
  have ij := isR_jr (man := man) (exp := exp) h0 hm
  have j0 : 64 < jq man exp - exp → jr man exp = 0 := by
    intro h
    unfold jr
    by_cases c : man = 0 ∨ exp < -3000
    · rw [if_pos c]
    · rw [if_neg c, if_neg (by omega), if_pos h]
  have hL : man.log2 + 1 ≤ 64 := by omega
  generalize jr man exp = R at *
  generalize hq : jq man exp = q at *
  generalize man.log2 + 1 = L at *
  clear hq
  by_cases hc : q ≤ exp
  · rw [if_pos hc] at ij
    obtain ⟨a1, a2, a3, a4⟩ := ja hc
    have i2 := ij (by omega) _ rfl
    rw [a3] at i2
    obtain ⟨y, r, y1, r1, r2⟩ := fl_all man exp a4 (by omega) (by omega)
    have := isR_uniq r2 i2
    subst this
    clear ja jb ij j0 a1 a2 a3 i2 r2
    by_cases hx : exp + (L : Int) - 53 < -1074
    · refine T (call_by cL ?_)
      refine TM ?_
      rw [acv_uf y1]
      refine TM (call_by r1 ?_)
      refine TM (r_ret ?_)
      rw [Tryz.results58]
      refine R ?_
      exact Wk.refl _
    · refine T (call_by cL ?_)
      refine TM ?_
      rw [acv_uf y1]
      refine TM (call_by r1 ?_)
      refine TM (r_ret ?_)
      rw [Tryz.results58]
      refine R ?_
      exact Wk.refl _
  · by_cases h64 : 64 < q - exp
    · rw [j0 h64]
      clear ja jb ij j0
      by_cases hx : exp + (L : Int) - 53 < -1074
      · refine T (call_by cL ?_)
        exact TMR rfl
      · exfalso
        omega
    · obtain ⟨s, hs⟩ : ∃ s : Nat, q - exp = s := ⟨(q - exp).toNat, by omega⟩
      have hs1 : 1 ≤ s := by omega
      have hs2 : s ≤ 64 := by omega
      have sh := s_shiftU man s hm hs1 hs2
      obtain ⟨lc1, lc2⟩ := low_cmp (man := man) hs1 hs2
      have i2 := ij (by omega) _ rfl
      rw [if_neg hc, show (q - exp).toNat = s by omega] at i2
      obtain ⟨m1, _⟩ := jb s hs hs1 hs2
      have hhi : man / 2 ^ s ≤ man / 2 := by
        rw [show s = 1 + (s - 1) by omega, Nat.pow_add, ← Nat.div_div_eq_div_mul]
        exact Nat.div_le_self _ _
      obtain ⟨y, r, y1, r1, r2⟩ := fl_all (rnd man s) q m1 (by omega) (by omega)
      have := isR_uniq r2 i2
      subst this
      clear ja jb ij j0 i2 r2 m1
      unfold rnd at y1
      simp only [← lc1, ← lc2] at y1
      generalize man % 2 ^ s * 2 ^ (64 - s) = lo at *
      generalize man / 2 ^ s = hi at *
      have hh : hi < 9223372036854775808 := by omega
      clear lc1 lc2
      by_cases hx : exp + (L : Int) - 53 < -1074
      · have q4 : q = -1074 := by omega
        subst q4
        by_cases c1 : 9223372036854775808 < lo
        · rw [if_pos (.inl c1)] at y1
          refine T (call_by cL ?_)
          refine TM (call_eq (congrArg (fun z => [u64 man, AV.sc (Value.int .u64 z)]) (by omega)) sh ?_)
          refine TM ?_
          rw [show ((hi : Int) + 1) = ((hi + 1 : Nat) : Int) by omega, acv_uf y1]
          refine TM (call_by r1 ?_)
          refine TM (r_ret ?_)
          rw [Tryz.results58]
          refine R ?_
          exact Wk.refl _
        by_cases c2 : lo = 9223372036854775808
        · by_cases c3 : hi % 2 = 1
          · rw [if_pos (.inr ⟨c2, c3⟩)] at y1
            refine T (call_by cL ?_)
            refine TM (call_eq (congrArg (fun z => [u64 man, AV.sc (Value.int .u64 z)]) (by omega)) sh ?_)
            refine TM ?_
            rw [and_one hi (by omega)]
            refine TM ?_
            rw [show ((hi : Int) + 1) = ((hi + 1 : Nat) : Int) by omega, acv_uf y1]
            refine TM (call_by r1 ?_)
            refine TM (r_ret ?_)
            rw [Tryz.results58]
            refine R ?_
            exact Wk.refl _
          · rw [if_neg (by omega), Nat.add_zero] at y1
            refine T (call_by cL ?_)
            refine TM (call_eq (congrArg (fun z => [u64 man, AV.sc (Value.int .u64 z)]) (by omega)) sh ?_)
            refine TM ?_
            rw [and_one hi (by omega)]
            refine TM ?_
            rw [acv_uf y1]
            refine TM (call_by r1 ?_)
            refine TM (r_ret ?_)
            rw [Tryz.results58]
            refine R ?_
            exact Wk.refl _
        rw [if_neg (by omega), Nat.add_zero] at y1
        refine T (call_by cL ?_)
        refine TM (call_eq (congrArg (fun z => [u64 man, AV.sc (Value.int .u64 z)]) (by omega)) sh ?_)
        refine TM ?_
        rw [acv_uf y1]
        refine TM (call_by r1 ?_)
        refine TM (r_ret ?_)
        rw [Tryz.results58]
        refine R ?_
        exact Wk.refl _
      · have q4 : q = exp + (L : Int) - 53 := by omega
        subst q4
        by_cases c1 : 9223372036854775808 < lo
        · rw [if_pos (.inl c1)] at y1
          refine T (call_by cL ?_)
          refine TM (call_eq (congrArg (fun z => [u64 man, AV.sc (Value.int .u64 z)]) (by omega)) sh ?_)
          refine TM ?_
          rw [show ((hi : Int) + 1) = ((hi + 1 : Nat) : Int) by omega, acv_uf y1]
          refine TM (call_by r1 ?_)
          refine TM (r_ret ?_)
          rw [Tryz.results58]
          refine R ?_
          exact Wk.refl _
        by_cases c2 : lo = 9223372036854775808
        · by_cases c3 : hi % 2 = 1
          · rw [if_pos (.inr ⟨c2, c3⟩)] at y1
            refine T (call_by cL ?_)
            refine TM (call_eq (congrArg (fun z => [u64 man, AV.sc (Value.int .u64 z)]) (by omega)) sh ?_)
            refine TM ?_
            rw [and_one hi (by omega)]
            refine TM ?_
            rw [show ((hi : Int) + 1) = ((hi + 1 : Nat) : Int) by omega, acv_uf y1]
            refine TM (call_by r1 ?_)
            refine TM (r_ret ?_)
            rw [Tryz.results58]
            refine R ?_
            exact Wk.refl _
          · rw [if_neg (by omega), Nat.add_zero] at y1
            refine T (call_by cL ?_)
            refine TM (call_eq (congrArg (fun z => [u64 man, AV.sc (Value.int .u64 z)]) (by omega)) sh ?_)
            refine TM ?_
            rw [and_one hi (by omega)]
            refine TM ?_
            rw [acv_uf y1]
            refine TM (call_by r1 ?_)
            refine TM (r_ret ?_)
            rw [Tryz.results58]
            refine R ?_
            exact Wk.refl _
        rw [if_neg (by omega), Nat.add_zero] at y1
        refine T (call_by cL ?_)
        refine TM (call_eq (congrArg (fun z => [u64 man, AV.sc (Value.int .u64 z)]) (by omega)) sh ?_)
        refine TM ?_
        rw [acv_uf y1]
        refine TM (call_by r1 ?_)
        refine TM (r_ret ?_)
        rw [Tryz.results58]
        refine R ?_
        exact Wk.refl _
end Go.Ab
end
