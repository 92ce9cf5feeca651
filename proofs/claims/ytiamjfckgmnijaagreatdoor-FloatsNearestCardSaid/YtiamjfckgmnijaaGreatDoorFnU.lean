import Derived.Test.YtiamjfckgmnijaaGreatDoorFnS
import Derived.Test.YtiamjfckgmnijaaGreatDoorFnT
import Derived.Test.YtiamjfckgmnijaaGreatDoorFnQ
import Derived.Test.YtiamjfckgmnijaaGreatDoorFnN
import Derived.Test.YtiamjfckgmnijaaGreatDoorFnM
set_option linter.all false
section
namespace Go.Ab
open Go Go.Proofs Go.Proofs.YtiamjfckgmnijaaGreatDoor.Pl
set_option maxRecDepth 100000
set_option maxHeartbeats 8000000
theorem q2_Form (b : Bool) (n d : List Int) (hn : Wf n) (hd : Wf d) (ln : n.length ≤ 4611686018427387904) (ld : d.length ≤ 4611686018427387904) : Spec Tryz.prog 15 [RA b n d] (.sc (.bool (formB b n d))) := by
  refine spec_of_awp mixed Tryz.func15 rfl Tryz.call15 (by kernel_rfl) (by simp) rfl ?_
  refine T (call_by (q_Form n ln) ?_)
  cases h1 : natB n with
  | false =>
    refine TR ?_
    rw [formB, decide_eq_false]
    rintro ⟨h, _⟩
    rw [h1] at h; cases h
  | true =>
    refine T (call_by (q_Form d ld) ?_)
    cases h2 : natB d with
    | false =>
      refine TR ?_
      rw [formB, decide_eq_false]
      rintro ⟨_, h, _⟩
      rw [h2] at h; cases h
    | true =>
      have k1 : n.length ≤ 16 := (of_decide_eq_true h1).1
      have k2 : d.length ≤ 16 := (of_decide_eq_true h2).1
      by_cases h3 : d.length = 0
      · refine TR ?_
        rw [formB, decide_eq_false]
        rintro ⟨_, _, h, _⟩
        exact h h3
      · have vd := val_ne hd (of_decide_eq_true h2).2 h3
        have gl := gcd_len (n := n) hd vd
        cases b with
        | true =>
          by_cases h4 : n.length = 0
          · refine TR ?_
            rw [formB, decide_eq_false]
            rintro ⟨_, _, _, h, _⟩
            exact h rfl h4
          · refine T (call_by (q_Common n d hn hd (by omega) (by omega)) ?_)
            refine T (call_by (q_Same1 (N (Int.gcd (val n) (val d) : Nat)) [1] (by omega) (by decide)) ?_)
            refine TR ?_
            have e : decide (N (Int.gcd (val n) (val d) : Nat) = [1]) = formB true n d := by
              rw [formB]
              apply decide_eq_decide.2
              rw [N_eq_one (Int.natCast_nonneg _)]
              simp [h1, h2, h3, h4]
              omega
            rw [e]
        | false =>
          refine T (call_by (q_Common n d hn hd (by omega) (by omega)) ?_)
          refine T (call_by (q_Same1 (N (Int.gcd (val n) (val d) : Nat)) [1] (by omega) (by decide)) ?_)
          refine TR ?_
          have e : decide (N (Int.gcd (val n) (val d) : Nat) = [1]) = formB false n d := by
            rw [formB]
            apply decide_eq_decide.2
            rw [N_eq_one (Int.natCast_nonneg _)]
            simp [h1, h2, h3]
            omega
          rw [e]
theorem q2_Make (b : Bool) (n d : List Int) (hn : Wf n) (hd : Wf d) (ln : n.length ≤ 900000000) (ld : d.length ≤ 900000000) : Spec Tryz.prog 29 [.sc (.bool b), U n, U d] (resR (mkR b (val n) (val d))) := by
  refine spec_of_awp mixed Tryz.func29 rfl Tryz.call29 (by kernel_rfl) (by simp) rfl ?_
  refine T (call_by (q_Trim n (by omega)) ?_)
  refine T (call_by (q_Trim d (by omega)) ?_)
  have ln' := trim_len n
  have ld' := trim_len d
  rw [trim_N hn] at *
  rw [trim_N hd] at *
  have u0 := val_nonneg hn
  have v0 := val_nonneg hd
  generalize val n = u at *
  generalize val d = v at *
  by_cases hv : v = 0
  · subst hv
    rw [N_zero]
    refine T (r_ret ?_)
    refine R ?_
    rw [mkR, if_pos rfl]
    exact wk_zero _
  have vp := N_pos (show 0 < v by omega)
  by_cases hu : u = 0
  · subst hu
    rw [N_zero]
    refine T (r_ret ?_)
    refine R ?_
    rw [mkR, if_neg hv, if_pos rfl]
    exact Wk.tup (WkL.cons (Wk.agg (WkL.cons (Wk.refl _) (WkL.cons Wk.nil (WkL.refl _)))) (WkL.refl _))
  have up := N_pos (show 0 < u by omega)
  refine T (call_by (q_Common (N u) (N v) (N_wf u) (N_wf v) (by omega) (by omega)) ?_)
  rw [N_val u0, N_val v0]
  have g0 : (0 : Int) ≤ (Int.gcd u v : Nat) := Int.natCast_nonneg _
  have gv : ((Int.gcd u v : Nat) : Int) ≤ v := by
    have := Nat.gcd_le_right u.natAbs (show 0 < v.natAbs by omega)
    show ((Nat.gcd u.natAbs v.natAbs : Nat) : Int) ≤ _
    omega
  have gp : (0 : Int) < (Int.gcd u v : Nat) := by
    have := Nat.gcd_pos_of_pos_right u.natAbs (show 0 < v.natAbs by omega)
    show (0 : Int) < ((Nat.gcd u.natAbs v.natAbs : Nat) : Int)
    omega
  have gl := N_len g0 gv
  have e : mkR b u v = if (N (u / (Int.gcd u v : Nat))).length ≤ 16 ∧ (N (v / (Int.gcd u v : Nat))).length ≤ 16 then ((b, N (u / (Int.gcd u v : Nat)), N (v / (Int.gcd u v : Nat))), 0) else ((false, [], []), 4) := by rw [mkR, if_neg hv, if_neg hu]
  rw [e]
  clear e
  generalize ((Int.gcd u v : Nat) : Int) = g at *
  refine T (call_by (q_Divide (N u) (N g) (N_wf u) (N_wf g) (by omega) (by omega) (by rw [N_val g0]; omega)) ?_)
  rw [N_val u0, N_val g0]
  refine T (call_by (q_Divide (N v) (N g) (N_wf v) (N_wf g) (by omega) (by omega) (by rw [N_val g0]; omega)) ?_)
  rw [N_val v0, N_val g0]
  by_cases k1 : (N (u / g)).length ≤ 16
  · by_cases k2 : (N (v / g)).length ≤ 16
    · rw [if_pos ⟨k1, k2⟩]
      exact TR rfl
    · rw [if_neg (fun h => k2 h.2)]
      refine T (r_ret ?_)
      exact R (wk_zero _)
  · rw [if_neg (fun h => k1 h.1)]
    refine T (r_ret ?_)
    exact R (wk_zero _)
theorem q2_Same (p q : RT) (hp : p.2.1.length ≤ 4611686018427387904 ∧ p.2.2.length ≤ 4611686018427387904) (hq : q.2.1.length ≤ 4611686018427387904 ∧ q.2.2.length ≤ 4611686018427387904) : Spec Tryz.prog 10 [RA p.1 p.2.1 p.2.2, RA q.1 q.2.1 q.2.2] (.sc (.bool (decide (p = q)))) := by
  refine spec_of_awp mixed Tryz.func10 rfl Tryz.call10 (by kernel_rfl) (by simp) rfl ?_
  obtain ⟨b1, n1, d1⟩ := p
  obtain ⟨b2, n2, d2⟩ := q
  simp only at hp hq ⊢
  have eb : (b1 == b2) = decide (b1 = b2) := by cases b1 <;> cases b2 <;> rfl
  by_cases h1 : b1 = b2
  · subst h1
    refine T (call_by (q_Same1 n1 n2 hp.1 hq.1) ?_)
    by_cases h2 : n1 = n2
    · rw [decide_eq_true h2]
      refine T (call_by (q_Same1 d1 d2 hp.2 hq.2) ?_)
      refine TR ?_
      rw [show decide (d1 = d2) = decide (((b1, n1, d1) : RT) = (b1, n2, d2)) from decide_eq_decide.2 (by rw [h2]; simp)]
    · rw [decide_eq_false h2]
      refine TR ?_
      rw [decide_eq_false]
      intro h; cases h; exact h2 rfl
  · have e1 : (b1 == b2) = false := by rw [eb, decide_eq_false h1]
    refine T ?_
    rw [e1]
    refine TR ?_
    rw [decide_eq_false]
    intro h; cases h; exact h1 rfl
end Go.Ab
end
section
namespace Go.Ab
open Go Go.Proofs Go.Proofs.YtiamjfckgmnijaaGreatDoor.Pl
set_option maxRecDepth 100000
set_option maxHeartbeats 8000000
theorem q2_Copy (p : RT) (hp : p.2.1.length ≤ 35184372088832 ∧ p.2.2.length ≤ 35184372088832) : Spec Tryz.prog 12 [RA p.1 p.2.1 p.2.2] (RA p.1 p.2.1 p.2.2) := by
  refine spec_of_awp mixed Tryz.func12 rfl Tryz.call12 (by kernel_rfl) (by simp) rfl ?_
  obtain ⟨b, n, d⟩ := p
  simp only at hp ⊢
  obtain ⟨l1, l2⟩ := hp
  by_cases h1 : n.length = 0
  · by_cases h2 : d.length = 0
    · refine TR ?_
      rw [List.eq_nil_of_length_eq_zero h1, List.eq_nil_of_length_eq_zero h2]
      rfl
    · refine TR ?_
      rw [List.eq_nil_of_length_eq_zero h1]
      rfl
  · by_cases h2 : d.length = 0
    · refine TR ?_
      rw [List.eq_nil_of_length_eq_zero h2]
      rfl
    · exact TR rfl
end Go.Ab
end
