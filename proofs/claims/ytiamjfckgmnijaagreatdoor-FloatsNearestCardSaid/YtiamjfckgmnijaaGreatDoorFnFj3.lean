import Derived.Test.YtiamjfckgmnijaaGreatDoorFnFj2
import Derived.Test.YtiamjfckgmnijaaGreatDoorFnNd
import Derived.Test.YtiamjfckgmnijaaGreatDoorFnNb
set_option linter.all false
section
namespace Go.Ab
open Go Go.Proofs
set_option maxRecDepth 100000
set_option exponentiation.threshold 5000
set_option maxHeartbeats 4000000
theorem isR_le {v r : Nat} (h : isR v r) : r ≤ 9218868437227405312 := by
  rcases h with ⟨h, _⟩ | ⟨h, _⟩ <;> omega
theorem jr_le (man : Nat) (exp : Int) (hm : man < 18446744073709551616) : jr man exp ≤ 9218868437227405312 := by
  by_cases h0 : man = 0
  · unfold jr; rw [if_pos (.inl h0)]; omega
  · by_cases h : 64 < jq man exp - exp
    · unfold jr
      by_cases c : man = 0 ∨ exp < -3000
      · rw [if_pos c]; omega
      · rw [if_neg c]
        by_cases c2 : 3000 < exp
        · rw [if_pos c2]; omega
        · rw [if_neg c2, if_pos h]; omega
    · exact isR_le (isR_jr (by omega) hm (by omega) _ rfl)
theorem jr_lo {man : Nat} {exp : Int} (h : exp < -3000) : jr man exp = 0 := by unfold jr; rw [if_pos (.inr h)]
theorem jr_hi {man : Nat} {exp : Int} (h : 3000 < exp) (h0 : man ≠ 0) : jr man exp = 9218868437227405312 := by unfold jr; rw [if_neg (by omega), if_pos h]
theorem jr_zero {exp : Int} : jr 0 exp = 0 := by unfold jr; rw [if_pos (.inl rfl)]
def sw (b : Bool) (r : Nat) : Nat := if b = true then 9223372036854775808 + r else r
def clamp (e : Int) : Int := if e < -4000 then -4000 else if 4000 < e then 4000 else e
theorem jr_clamp (man : Nat) (e : Int) : jr man (clamp e) = jr man e := by
  unfold clamp
  by_cases h1 : e < -4000
  · rw [if_pos h1, jr_lo (by omega), jr_lo (by omega)]
  · rw [if_neg h1]
    by_cases h2 : 4000 < e
    · rw [if_pos h2]
      by_cases h0 : man = 0
      · subst h0; rw [jr_zero, jr_zero]
      · rw [jr_hi (by omega) h0, jr_hi (by omega) h0]
    · rw [if_neg h2]
theorem xor_top {r : Nat} (h : r < 9223372036854775808) : r ^^^ 2 ^ 63 = 9223372036854775808 + r := by
  have e := Nat.two_pow_add_eq_or_of_lt (i := 63) h 1
  rw [Nat.mul_one] at e
  rw [show 9223372036854775808 + r = 2 ^ 63 ||| r from e]
  refine Nat.eq_of_testBit_eq fun i => ?_
  rw [Nat.testBit_xor, Nat.testBit_or, Nat.testBit_two_pow]
  by_cases hi : 63 = i
  · subst hi
    rw [Nat.testBit_lt_two_pow h]
    rfl
  · simp [hi]
theorem pr_neg {P : Program} {r : Nat} (h : r < 9223372036854775808) : pureRun P (Op.unary .neg (.float .f64 r)) = some (.float .f64 (9223372036854775808 + r)) := by
  show some (Value.float .f64 (r ^^^ 2 ^ 63)) = _
  rw [xor_top h]
theorem s_Join (b : Bool) (man : Nat) (e : Int) (hm : man < 18446744073709551616) (he : -9223372036854775808 ≤ e ∧ e ≤ 9223372036854775807) : Spec Tryz.prog 24 [.sc (.bool b), u64 man, .sc (.int .i64 e)] (f64 (sw b (jr man e))) := by
  refine spec_of_awp mixed Tryz.func24 rfl Tryz.call24 (by kernel_rfl) (by simp) rfl ?_
  have h := s_size man (clamp e) hm (by
    unfold clamp
    split
    · omega
    · split <;> omega)
  have hr := jr_le man e hm
  rw [jr_clamp] at h
  unfold sw
  generalize jr man e = r at *
  unfold clamp at h
  cases b
  · by_cases h1 : e < -4000
    · rw [if_pos h1] at h
      refine TM (call_by h ?_)
      exact TMR rfl
    · rw [if_neg h1] at h
      by_cases h2 : 4000 < e
      · rw [if_pos h2] at h
        refine TM (call_by h ?_)
        exact TMR rfl
      · rw [if_neg h2] at h
        refine TM (call_by h ?_)
        exact TMR rfl
  · by_cases h1 : e < -4000
    · rw [if_pos h1] at h
      refine TM (call_by h ?_)
      refine TM ?_
      rw [pr_neg (by omega), Option.map_some]
      exact TMR rfl
    · rw [if_neg h1] at h
      by_cases h2 : 4000 < e
      · rw [if_pos h2] at h
        refine TM (call_by h ?_)
        refine TM ?_
        rw [pr_neg (by omega), Option.map_some]
        exact TMR rfl
      · rw [if_neg h2] at h
        refine TM (call_by h ?_)
        refine TM ?_
        rw [pr_neg (by omega), Option.map_some]
        exact TMR rfl
theorem q_length (x : Nat) (hx : x < 18446744073709551616) : Spec Tryz.prog 76 [u64 x] (.sc (.int .i64 (Lib.bitLen x))) := by
  refine spec_of_awp mixed Tryz.func76 rfl Tryz.call76 (by kernel_rfl) (by simp) rfl ?_
  have b0 := Lib.bitLen_le x 64 (by decide) hx
  refine T (w_loop (α := Nat × Nat) (fun p => [(.t 0, u64 p.1), (.t 3, .sc (.int .i64 p.2))]) (fun p => p.1 < 18446744073709551616 ∧ Lib.bitLen p.1 + p.2 = Lib.bitLen x) (fun p => p.1) (x, 0) ⟨hx, rfl⟩ ?_ ?_)
  · exact Hk rfl <| Hk rfl trivial
  rintro ⟨n, j⟩ r ⟨c1, c2⟩ J hJ
  simp only at c1 c2 ⊢
  rcases Nat.eq_zero_or_pos n with h0 | h0
  · subst h0
    have e0 : Lib.bitLen 0 = 0 := rfl
    rw [e0, Nat.zero_add] at c2
    subst c2
    exact TR rfl
  · have hh := Lib.bitLen_half n (by omega) c1
    refine T ?_
    refine hJ _ (n / 2, j + 1) (Nat.div_lt_self h0 (by decide)) ⟨by simp only; omega, by simp only; omega⟩ (Hk (congrArg (fun z => AV.sc (Value.int .u64 z)) ?_) <| Hk (congrArg (fun z => AV.sc (Value.int .i64 z)) ?_) trivial)
    · simp only; omega
    · simp only; omega
theorem q_Join0 (b : Bool) (man : Nat) (e : Int) (hm : man < 18446744073709551616) (h : man = 0 ∨ e < -3000) : Spec Tryz.prog 37 [.sc (.bool b), u64 man, .sc (.int .i64 e)] (u64 (sw b (jr man e))) := by
  refine spec_of_awp mixed Tryz.func37 rfl Tryz.call37 (by kernel_rfl) (by simp) rfl ?_
  have hj : jr man e = 0 := by unfold jr; rw [if_pos h]
  rw [hj]
  unfold sw
  cases b <;> by_cases h0 : man = 0
  · exact TR rfl
  · have : e < -3000 := by omega
    exact TR rfl
  · exact TR rfl
  · have : e < -3000 := by omega
    exact TR rfl
theorem q_Join1 (b : Bool) (man : Nat) (e : Int) (hm : man < 18446744073709551616) (h0 : man ≠ 0) (h : 3000 < e) : Spec Tryz.prog 37 [.sc (.bool b), u64 man, .sc (.int .i64 e)] (u64 (sw b (jr man e))) := by
  refine spec_of_awp mixed Tryz.func37 rfl Tryz.call37 (by kernel_rfl) (by simp) rfl ?_
  rw [jr_hi h h0]
  unfold sw
  cases b <;> exact TR rfl
end Go.Ab
end
