import Derived.Test.YtiamjfckgmnijaaGreatDoorFnFj3
set_option linter.all false
section
namespace Go.Ab
open Go Go.Proofs
set_option maxRecDepth 100000
set_option exponentiation.threshold 5000
set_option maxHeartbeats 8000000
theorem sw_eq (b : Bool) : ∃ sg : Nat, (sg = 0 ∨ sg = 9223372036854775808) ∧ (∀ r, sw b r = sg + r) ∧ (b = false → sg = 0) ∧ (b = true → sg = 9223372036854775808) := by
  cases b
  · exact ⟨0, .inl rfl, fun r => (Nat.zero_add r).symm, fun _ => rfl, (fun h => Bool.noConfusion h)⟩
  · exact ⟨9223372036854775808, .inr rfl, fun r => rfl, (fun h => Bool.noConfusion h), fun _ => rfl⟩
theorem pow2I (s : Nat) : ((2 : Int) ^ s) = ((2 ^ s : Nat) : Int) := by rw [Int.natCast_pow]; rfl
theorem fdivI (man s : Nat) : (man : Int).fdiv (2 ^ s) = ((man / 2 ^ s : Nat) : Int) := by
  rw [pow2I, Int.fdiv_eq_ediv_of_nonneg _ (Int.natCast_nonneg _), ← Int.natCast_ediv]
theorem halfI {s : Nat} (h1 : 1 ≤ s) (h2 : s ≤ 64) : (1 : Int) * 2 ^ (s - 1) % 18446744073709551616 = ((2 ^ (s - 1) : Nat) : Int) := by
  have h : 2 ^ (s - 1) ≤ 2 ^ 63 := Nat.pow_le_pow_right (by decide) (by omega)
  rw [pow2I]
  generalize 2 ^ (s - 1) = H at *
  omega
theorem restI {man s : Nat} (hm : man < 18446744073709551616) : ((man : Int) - ((man / 2 ^ s : Nat) : Int) * 2 ^ s % 18446744073709551616) % 18446744073709551616 = ((man % 2 ^ s : Nat) : Int) := by
  have h1 := Nat.div_add_mod man (2 ^ s)
  have e : ((man / 2 ^ s : Nat) : Int) * 2 ^ s = ((2 ^ s * (man / 2 ^ s) : Nat) : Int) := by rw [pow2I, Int.natCast_mul, Int.mul_comm]
  rw [e]
  generalize 2 ^ s * (man / 2 ^ s) = A at *
  generalize man % 2 ^ s = B at *
  omega
theorem w_joinJ {P : Program} {B : Nat} {x : Code} {N : S → Prop} {Q : Exit → S → Prop} {s : S} {α : Type} (l : α → List (Loc × AV)) (C : α → Prop) (h1 : ∀ J : S → Prop, (∀ s a, C a → Has (l a) s → J s) → AWP P B x (thenQ J Q) s) (h2 : ∀ a r, C a → N (kn (l a) r)) : AWP P B x (thenQ N Q) s := by
  refine AWP.mono x ?_ (h1 (fun s => ∃ a, C a ∧ Has (l a) s) fun s a hc hh => ⟨a, hc, hh⟩)
  intro e s h
  cases e with
  | normal =>
    obtain ⟨a, hc, hh⟩ := h
    have := h2 a s hc
    rwa [kn_self hh] at this
  | _ => exact h
theorem q_Join2 (b : Bool) (man : Nat) (e : Int) (hm : man < 18446744073709551616) (h0 : 0 < man) (he : -3000 ≤ e) (he' : e ≤ 3000) : Spec Tryz.prog 37 [.sc (.bool b), u64 man, .sc (.int .i64 e)] (u64 (sw b (jr man e))) := by
  refine spec_of_awp mixed Tryz.func37 rfl Tryz.call37 (by kernel_rfl) (by simp) rfl ?_
  have cL := q_length man hm
  rw [bl_log2 h0 hm] at cL
  have l := log2_le63 h0 hm
  have q1 := jq_le (man := man) (exp := e)
  have q2 : e + ((man.log2 + 1 : Nat) : Int) - 53 ≤ jq man e := by unfold jq; omega
  have q3 : jq man e = -1074 ∨ jq man e = e + ((man.log2 + 1 : Nat) : Int) - 53 := by unfold jq; omega
  have ja := jm_a (man := man) (exp := e) h0
  have jb := fun s => jm_b (man := man) (exp := e) (s := s) h0
  have ej : jr man e = if 64 < jq man e - e then 0 else finR (if jq man e ≤ e then man * 2 ^ (e - jq man e).toNat else rnd man (jq man e - e).toNat) (jq man e) := by
    unfold jr
    rw [if_neg (by omega), if_neg (by omega)]
  obtain ⟨sg, sg1, sg2, sg3, sg4⟩ := sw_eq b
  rw [ej, sg2]
  have hL : man.log2 + 1 ≤ 64 := by omega
  generalize hq : jq man e = q at *
  generalize man.log2 + 1 = L at *
  clear hq ej sg2 l
  have hqe : q ≤ 3011 := by omega
  generalize hK : (e - q).toNat = K at *
  have mK : man * 2 ^ K < 18446744073709551616 := by
    by_cases hc : q ≤ e
    · have := (ja hc).1; omega
    · rw [show K = 0 by omega, Nat.pow_zero, Nat.mul_one]; exact hm
  refine w_seq ?_
  refine TS ?_
  refine w_seq ?_
  refine TS ?_
  refine w_joinJ (α := Unit) (fun _ => [(.t 1, u64 man), (.t 2, .sc (.int .i64 e)), (.t 7, u64 sg)]) (fun _ => True) ?_ ?_
  · intro J hJ
    cases b
    · rw [sg3 rfl] at hJ ⊢
      refine T ?_
      exact hJ _ () trivial (Hk rfl <| Hk rfl <| Hk rfl trivial)
    · rw [sg4 rfl] at hJ ⊢
      refine T ?_
      exact hJ _ () trivial (Hk rfl <| Hk rfl <| Hk rfl trivial)
  rintro ⟨⟩ r _
  clear sg3 sg4
  refine w_seq ?_
  refine w_seq ?_
  refine TS ?_
  refine w_seq ?_
  refine TS ?_
  refine w_seq ?_
  refine TS (call_by cL ?_)
  refine TS ?_
  refine w_joinJ (α := Unit) (fun _ => [(.t 1, u64 man), (.t 2, .sc (.int .i64 e)), (.t 7, u64 sg), (.t 8, .sc (.int .i64 q))]) (fun _ => True) ?_ ?_
  · intro J hJ
    by_cases hx : e + (L : Int) - 53 < -1074
    · have q4 : q = -1074 := by omega
      rw [q4] at hJ
      refine T ?_
      exact hJ _ () trivial (Hk rfl <| Hk rfl <| Hk rfl <| Hk rfl trivial)
    · have q4 : q = e + (L : Int) - 53 := by omega
      rw [q4] at hJ
      refine T ?_
      exact hJ _ () trivial (Hk rfl <| Hk rfl <| Hk rfl <| Hk rfl trivial)
  rintro ⟨⟩ r _
  refine w_seq ?_
  refine TS ?_
  refine w_cut (α := Unit) (fun _ => [(.t 1, u64 man), (.t 2, .sc (.int .i64 (e - K))), (.t 7, u64 sg), (.t 8, .sc (.int .i64 q)), (.t 9, u64 (man * 2 ^ K))]) (fun _ => True) ?_ ?_
  · intro J hJ
    refine T (w_loop (α := Nat) (fun j => [(.t 1, u64 man), (.t 2, .sc (.int .i64 (e - j))), (.t 7, u64 sg), (.t 8, .sc (.int .i64 q)), (.t 9, u64 (man * 2 ^ j))]) (fun j => j ≤ K) (fun j => K - j) 0 (Nat.zero_le _) ?_ ?_)
    · exact Hk rfl <| Hk (congrArg (fun z => AV.sc (Value.int .i64 z)) (by omega)) <| Hk rfl <| Hk rfl <| Hk (congrArg u64 (by rw [Nat.pow_zero, Nat.mul_one])) trivial
    rintro j r c J2 hJ2
    by_cases hj : j = K
    · rw [hj]
      have : e - (K : Int) ≤ q := by omega
      refine T ?_
      exact hJ _ () trivial (Hk rfl <| Hk rfl <| Hk rfl <| Hk rfl <| Hk rfl trivial)
    · have hN : man * 2 ^ (j + 1) = man * 2 ^ j * 2 := by rw [Nat.pow_succ, Nat.mul_assoc]
      have hle : man * 2 ^ (j + 1) ≤ man * 2 ^ K := Nat.mul_le_mul_left _ (Nat.pow_le_pow_right (by decide) (by omega))
      generalize hA : man * 2 ^ j = A at *
      refine T ?_
      exact hJ2 _ (j + 1) (by omega) (by omega) (Hk rfl <| Hk (congrArg (fun z => AV.sc (Value.int .i64 z)) (by omega)) <| Hk rfl <| Hk rfl <| Hk (congrArg (fun z => AV.sc (Value.int .u64 z)) (by rw [hN]; omega)) trivial)
  rintro ⟨⟩ r _
  refine w_seq ?_
  refine w_joinJ (α := Unit) (fun _ => [(.t 7, u64 sg), (.t 8, .sc (.int .i64 q)), (.t 9, u64 (if q ≤ e then man * 2 ^ K else rnd man (q - e).toNat))]) (fun _ => q - e ≤ 64) ?_ ?_
  · intro J hJ
    by_cases hc : q ≤ e
    · rw [if_pos hc] at hJ
      refine T ?_
      exact hJ _ () (by omega) (Hk rfl <| Hk rfl <| Hk rfl trivial)
    · have hK0 : K = 0 := by omega
      rw [if_neg hc] at hJ
      by_cases h64 : 64 < q - e
      · rw [if_pos h64, Nat.add_zero]
        exact TR rfl
      · obtain ⟨s, hs⟩ : ∃ s : Nat, q - e = s := ⟨(q - e).toNat, by omega⟩
        have hs1 : 1 ≤ s := by omega
        rw [show (q - e).toNat = s by omega] at hJ
        have rA : (2 ^ (s - 1) < man % 2 ^ s ∨ (man % 2 ^ s = 2 ^ (s - 1) ∧ man / 2 ^ s % 2 = 1)) → rnd man s = man / 2 ^ s + 1 := by
          intro h; unfold rnd; rw [if_pos h]
        have rB : ¬ (2 ^ (s - 1) < man % 2 ^ s ∨ (man % 2 ^ s = 2 ^ (s - 1) ∧ man / 2 ^ s % 2 = 1)) → rnd man s = man / 2 ^ s := by
          intro h; unfold rnd; rw [if_neg h]; rfl
        have hhi : man / 2 ^ s ≤ man / 2 := by
          rw [show s = 1 + (s - 1) by omega, Nat.pow_add, ← Nat.div_div_eq_div_mul]
          exact Nat.div_le_self _ _
        have e1 : (q - (e - (K : Int)) - 1).toNat = s - 1 := by omega
        have e2 : (q - (e - (K : Int))).toNat = s := by omega
        have e3 := halfI hs1 (show s ≤ 64 by omega)
        have e4 := restI (man := man) (s := s) hm
        by_cases hs64 : s = 64
        · refine T ?_
          rw [e1, e3]
          have z0 : man / 2 ^ s = 0 := by rw [hs64]; exact Nat.div_eq_of_lt hm
          have z1 : man % 2 ^ s = man := by rw [hs64]; exact Nat.mod_eq_of_lt hm
          rw [z0] at rA rB
          rw [z1] at rA rB
          generalize 2 ^ (s - 1) = H at *
          generalize rnd man s = R at *
          clear e4 z0 z1 hhi
          by_cases c1 : H < man
          · have := rA (.inl c1)
            refine T ?_
            exact hJ _ () (by omega) (Hk rfl <| Hk rfl <| Hk (congrArg (fun z => AV.sc (Value.int .u64 z)) (by omega)) trivial)
          · have := rB (by omega)
            by_cases c2 : man = H
            · refine T ?_
              exact hJ _ () (by omega) (Hk rfl <| Hk rfl <| Hk (congrArg (fun z => AV.sc (Value.int .u64 z)) (by omega)) trivial)
            · refine T ?_
              exact hJ _ () (by omega) (Hk rfl <| Hk rfl <| Hk (congrArg (fun z => AV.sc (Value.int .u64 z)) (by omega)) trivial)
        · refine T ?_
          rw [e1, e2, e3, fdivI, e4]
          generalize 2 ^ (s - 1) = H at *
          generalize rnd man s = R at *
          generalize man / 2 ^ s = D at *
          generalize man % 2 ^ s = B at *
          by_cases c1 : H < B
          · have := rA (.inl c1)
            refine T ?_
            exact hJ _ () (by omega) (Hk rfl <| Hk rfl <| Hk (congrArg (fun z => AV.sc (Value.int .u64 z)) (by omega)) trivial)
          by_cases c2 : B = H
          · by_cases c3 : D % 2 = 1
            · have := rA (.inr ⟨c2, c3⟩)
              rw [show (decide ((B : Int) > (H : Int))) = false from decide_eq_false (by omega)]
              refine TL ?_
              exact hJ _ () (by omega) (Hk rfl <| Hk rfl <| Hk (congrArg (fun z => AV.sc (Value.int .u64 z)) (by omega)) trivial)
            · have := rB (by omega)
              subst this
              rw [show (decide ((B : Int) > (H : Int))) = false from decide_eq_false (by omega)]
              refine TL ?_
              exact hJ _ () (by omega) (Hk rfl <| Hk rfl <| Hk rfl trivial)
          have := rB (by omega)
          subst this
          refine T ?_
          exact hJ _ () (by omega) (Hk rfl <| Hk rfl <| Hk rfl trivial)
  rintro ⟨⟩ r hq64
  rw [if_neg (show ¬ 64 < q - e by omega)]
  have hM : (if q ≤ e then man * 2 ^ K else rnd man (q - e).toNat) ≤ 9007199254740992 ∧ ((if q ≤ e then man * 2 ^ K else rnd man (q - e).toNat) < 4503599627370496 → q = -1074) := by
    by_cases hc : q ≤ e
    · rw [if_pos hc]
      have := ja hc
      exact ⟨this.1, this.2.1⟩
    · rw [if_neg hc]
      exact jb (q - e).toNat (by omega) (by omega) (by omega)
  generalize (if q ≤ e then man * 2 ^ K else rnd man (q - e).toNat) = M at *
  obtain ⟨m1, m2⟩ := hM
  clear ja jb mK cL
  unfold finR
  by_cases h1 : M = 9007199254740992
  · rw [if_pos h1]
    by_cases h2 : 2046 < q + 1076
    · rw [if_pos h2]
      refine T (r_ret ?_)
      rw [Tryz.results37]
      refine R (wk_eq ?_)
      exact congrArg (fun z => AV.sc (Value.int .u64 z)) (by omega)
    · rw [if_neg h2]
      refine T (r_ret ?_)
      rw [Tryz.results37]
      refine R (wk_eq ?_)
      exact congrArg (fun z => AV.sc (Value.int .u64 z)) (by omega)
  · rw [if_neg h1]
    by_cases h3 : M < 4503599627370496
    · rw [if_pos h3]
      refine T (r_ret ?_)
      rw [Tryz.results37]
      refine R (wk_eq ?_)
      exact congrArg (fun z => AV.sc (Value.int .u64 z)) (by omega)
    · rw [if_neg h3]
      by_cases h2 : 2046 < q + 1075
      · rw [if_pos h2]
        refine T (r_ret ?_)
        rw [Tryz.results37]
        refine R (wk_eq ?_)
        exact congrArg (fun z => AV.sc (Value.int .u64 z)) (by omega)
      · rw [if_neg h2]
        refine T (r_ret ?_)
        rw [Tryz.results37]
        refine R (wk_eq ?_)
        exact congrArg (fun z => AV.sc (Value.int .u64 z)) (by omega)
theorem q_Join (b : Bool) (man : Nat) (e : Int) (hm : man < 18446744073709551616) : Spec Tryz.prog 37 [.sc (.bool b), u64 man, .sc (.int .i64 e)] (u64 (sw b (jr man e))) := by
  by_cases h : man = 0 ∨ e < -3000
  · exact q_Join0 b man e hm h
  · by_cases h2 : 3000 < e
    · exact q_Join1 b man e hm (by omega) h2
    · exact q_Join2 b man e hm (by omega) (by omega) (by omega)
end Go.Ab
end
