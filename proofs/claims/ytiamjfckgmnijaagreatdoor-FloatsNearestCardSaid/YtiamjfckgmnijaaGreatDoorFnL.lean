import Derived.Test.YtiamjfckgmnijaaGreatDoorFnK
set_option linter.all false
section
namespace Go.Ab
open Go Go.Proofs Go.Proofs.YtiamjfckgmnijaaGreatDoor.Pl
set_option maxRecDepth 100000
set_option maxHeartbeats 8000000
abbrev RA (b : Bool) (n d : List Int) : AV := .agg [.sc (.bool b), U n, U d]
theorem nm_iff {l : List Int} (h : l.length ≠ 0) : trim l = l ↔ l.getD (l.length - 1) 0 ≠ 0 := by
  obtain ⟨m, x, rfl⟩ := snoc_of_ne (l := l) (by intro e; rw [e] at h; simp at h)
  have e : (m ++ [x]).getD ((m ++ [x]).length - 1) 0 = x := by simp [List.getD_eq_getElem?_getD]
  rw [e]
  constructor
  · intro h1 h2
    subst h2
    rw [trim_zero] at h1
    have := congrArg List.length h1
    have l := trim_len m
    simp at this
    omega
  · exact trim_snoc m x
def natB (l : List Int) : Bool := decide (l.length ≤ 16 ∧ trim l = l)
theorem s_natural (l : List Int) (hl : l.length ≤ 4611686018427387904) : Spec Tryz.prog 65 [U l] (.sc (.bool (natB l))) := by
  refine spec_of_awp mixed Tryz.func65 rfl Tryz.call65 (by kernel_rfl) (by simp) rfl ?_
  by_cases h1 : l.length ≤ 16
  · by_cases h2 : l.length = 0
    · refine TR ?_
      have : l = [] := List.eq_nil_of_length_eq_zero h2
      subst this
      rfl
    · obtain ⟨n, hn⟩ : ∃ n, l.length = n + 1 := ⟨l.length - 1, by omega⟩
      have hi : ((l.length : Int) - 1).toNat = n := by omega
      by_cases h3 : l.getD ((l.length : Int) - 1).toNat 0 = 0
      · refine TR ?_
        rw [natB, decide_eq_false]
        rintro ⟨_, h4⟩
        have := (nm_iff h2).1 h4
        rw [hi] at h3
        rw [show l.length - 1 = n by omega] at this
        exact this h3
      · refine TR ?_
        rw [natB, decide_eq_true]
        refine ⟨h1, (nm_iff h2).2 ?_⟩
        rw [hi] at h3
        rwa [show l.length - 1 = n by omega]
  · refine TR ?_
    rw [natB, decide_eq_false]
    exact fun h => h1 h.1
theorem s_one (l : List Int) (hl : l.length ≤ 4611686018427387904) : Spec Tryz.prog 62 [U l] (.sc (.bool (decide (l = [1])))) := by
  refine spec_of_awp mixed Tryz.func62 rfl Tryz.call62 (by kernel_rfl) (by simp) rfl ?_
  by_cases h1 : l.length = 1
  · by_cases h2 : l.getD 0 0 = 1
    · refine TR ?_
      rw [decide_eq_true]
      match l, h1 with
      | [x], _ => simp at h2; rw [h2]
    · refine TR ?_
      rw [decide_eq_false]
      intro h
      rw [h] at h2
      exact h2 rfl
  · refine TR ?_
    rw [decide_eq_false]
    intro h
    rw [h] at h1
    exact h1 rfl
def formB (b : Bool) (n d : List Int) : Bool := decide (natB n = true ∧ natB d = true ∧ d.length ≠ 0 ∧ (b = true → n.length ≠ 0) ∧ Int.gcd (val n) (val d) = 1)
theorem N_eq_one {v : Int} (h : 0 ≤ v) : N v = [1] ↔ v = 1 := by
  constructor
  · intro e
    rw [← N_val h, e]; rfl
  · rintro rfl
    exact ((N_is h).unique ⟨Wf.one (by decide) (by decide), by decide, by decide⟩)
theorem gcd_len {n d : List Int} (hd : Wf d) (h : val d ≠ 0) : (N (Int.gcd (val n) (val d) : Nat)).length ≤ d.length := by
  have h0 := val_nonneg hd
  refine (N_is (Int.natCast_nonneg _)).len (Int.lt_of_le_of_lt ?_ (val_lt hd))
  have := Nat.gcd_le_right (val n).natAbs (show 0 < (val d).natAbs by omega)
  show ((Nat.gcd (val n).natAbs (val d).natAbs : Nat) : Int) ≤ _
  omega
theorem val_ne {d : List Int} (hd : Wf d) (h : trim d = d) (h0 : d.length ≠ 0) : val d ≠ 0 := by
  intro e
  have := trim_nil_val hd e
  rw [h] at this
  exact h0 (by rw [this]; rfl)
theorem s_Form (b : Bool) (n d : List Int) (hn : Wf n) (hd : Wf d) (ln : n.length ≤ 4611686018427387904) (ld : d.length ≤ 4611686018427387904) : Spec Tryz.prog 32 [RA b n d] (.sc (.bool (formB b n d))) := by
  refine spec_of_awp mixed Tryz.func32 rfl Tryz.call32 (by kernel_rfl) (by simp) rfl ?_
  refine T (call_by (s_natural n ln) ?_)
  cases h1 : natB n with
  | false =>
    refine TR ?_
    rw [formB, decide_eq_false]
    rintro ⟨h, _⟩
    rw [h1] at h; cases h
  | true =>
    refine T (call_by (s_natural d ld) ?_)
    cases h2 : natB d with
    | false =>
      refine TR ?_
      rw [formB, decide_eq_false]
      rintro ⟨_, h, _⟩
      rw [h2] at h; cases h
    | true =>
      have k1 : n.length ≤ 16 := (of_decide_eq_true h1).1
      have k2 : d.length ≤ 16 := (of_decide_eq_true h2).1
      by_cases h3 : d.length = 0
      · refine TR ?_
        rw [formB, decide_eq_false]
        rintro ⟨_, _, h, _⟩
        exact h h3
      · cases b with
        | true =>
          by_cases h4 : n.length = 0
          · refine TR ?_
            rw [formB, decide_eq_false]
            rintro ⟨_, _, _, h, _⟩
            exact h rfl h4
          · refine T (call_by (s_Gcd n d hn hd (by omega) (by omega)) ?_)
            have vd := val_ne hd (of_decide_eq_true h2).2 h3
            have gl := gcd_len (n := n) hd vd
            refine T (call_by (s_one (N (Int.gcd (val n) (val d) : Nat)) (by omega)) ?_)
            refine TR ?_
            have e : decide (N (Int.gcd (val n) (val d) : Nat) = [1]) = formB true n d := by
              rw [formB]
              apply decide_eq_decide.2
              rw [N_eq_one (Int.natCast_nonneg _)]
              simp [h1, h2, h3, h4]
              omega
            rw [e]
        | false =>
          refine T (call_by (s_Gcd n d hn hd (by omega) (by omega)) ?_)
          have vd := val_ne hd (of_decide_eq_true h2).2 h3
          have gl := gcd_len (n := n) hd vd
          refine T (call_by (s_one (N (Int.gcd (val n) (val d) : Nat)) (by omega)) ?_)
          refine TR ?_
          have e : decide (N (Int.gcd (val n) (val d) : Nat) = [1]) = formB false n d := by
            rw [formB]
            apply decide_eq_decide.2
            rw [N_eq_one (Int.natCast_nonneg _)]
            simp [h1, h2, h3]
            omega
          rw [e]
end Go.Ab
end
section
namespace Go.Ab
open Go Go.Proofs Go.Proofs.YtiamjfckgmnijaaGreatDoor.Pl
set_option maxRecDepth 100000
set_option maxHeartbeats 8000000
def mkR (b : Bool) (u v : Int) : (Bool × List Int × List Int) × Int :=
  if v = 0 then ((false, [], []), 10) else if u = 0 then ((false, [], [1]), 0) else
    if (N (u / (Int.gcd u v : Nat))).length ≤ 16 ∧ (N (v / (Int.gcd u v : Nat))).length ≤ 16 then ((b, N (u / (Int.gcd u v : Nat)), N (v / (Int.gcd u v : Nat))), 0) else ((false, [], []), 4)
abbrev resR (p : (Bool × List Int × List Int) × Int) : AV := .tup [RA p.1.1 p.1.2.1 p.1.2.2, .sc (.int .i64 p.2)]
theorem wk_zero (z : Int) : Wk (.tup [.agg [.sc (.bool false), .sc (.slice none 0 0), .sc (.slice none 0 0)], .sc (.int .i64 z)]) (resR ((false, [], []), z)) :=
  Wk.tup (WkL.cons (Wk.agg (WkL.cons (Wk.refl _) (WkL.cons Wk.nil (WkL.cons Wk.nil (WkL.refl _))))) (WkL.refl _))
theorem s_Make (b : Bool) (n d : List Int) (hn : Wf n) (hd : Wf d) (ln : n.length ≤ 900000000) (ld : d.length ≤ 900000000) : Spec Tryz.prog 26 [.sc (.bool b), U n, U d] (resR (mkR b (val n) (val d))) := by
  refine spec_of_awp mixed Tryz.func26 rfl Tryz.call26 (by kernel_rfl) (by simp) rfl ?_
  refine T (call_by (s_Trim n (by omega)) ?_)
  refine T (call_by (s_Trim d (by omega)) ?_)
  have ln' := trim_len n
  have ld' := trim_len d
  rw [trim_N hn] at *
  rw [trim_N hd] at *
  have u0 := val_nonneg hn
  have v0 := val_nonneg hd
  generalize val n = u at *
  generalize val d = v at *
  by_cases hv : v = 0
  · subst hv
    rw [N_zero]
    refine T (r_ret ?_)
    refine R ?_
    rw [mkR, if_pos rfl]
    exact wk_zero _
  have vp := N_pos (show 0 < v by omega)
  by_cases hu : u = 0
  · subst hu
    rw [N_zero]
    refine T (r_ret ?_)
    refine R ?_
    rw [mkR, if_neg hv, if_pos rfl]
    exact Wk.tup (WkL.cons (Wk.agg (WkL.cons (Wk.refl _) (WkL.cons Wk.nil (WkL.refl _)))) (WkL.refl _))
  have up := N_pos (show 0 < u by omega)
  refine T (call_by (s_Gcd (N u) (N v) (N_wf u) (N_wf v) (by omega) (by omega)) ?_)
  rw [N_val u0, N_val v0]
  have g0 : (0 : Int) ≤ (Int.gcd u v : Nat) := Int.natCast_nonneg _
  have gv : ((Int.gcd u v : Nat) : Int) ≤ v := by
    have := Nat.gcd_le_right u.natAbs (show 0 < v.natAbs by omega)
    show ((Nat.gcd u.natAbs v.natAbs : Nat) : Int) ≤ _
    omega
  have gp : (0 : Int) < (Int.gcd u v : Nat) := by
    have := Nat.gcd_pos_of_pos_right u.natAbs (show 0 < v.natAbs by omega)
    show (0 : Int) < ((Nat.gcd u.natAbs v.natAbs : Nat) : Int)
    omega
  have gl := N_len g0 gv
  have e : mkR b u v = if (N (u / (Int.gcd u v : Nat))).length ≤ 16 ∧ (N (v / (Int.gcd u v : Nat))).length ≤ 16 then ((b, N (u / (Int.gcd u v : Nat)), N (v / (Int.gcd u v : Nat))), 0) else ((false, [], []), 4) := by rw [mkR, if_neg hv, if_neg hu]
  rw [e]
  clear e
  generalize ((Int.gcd u v : Nat) : Int) = g at *
  refine T (call_by (s_one (N g) (by omega)) ?_)
  by_cases h1 : N g = [1]
  · rw [decide_eq_true h1]
    have hg : g = 1 := (N_eq_one g0).1 h1
    subst hg
    rw [Int.ediv_one, Int.ediv_one]
    by_cases k1 : (N u).length ≤ 16
    · by_cases k2 : (N v).length ≤ 16
      · rw [if_pos ⟨k1, k2⟩]
        exact TR rfl
      · rw [if_neg (fun h => k2 h.2)]
        refine T (r_ret ?_)
        exact R (wk_zero _)
    · rw [if_neg (fun h => k1 h.1)]
      refine T (r_ret ?_)
      exact R (wk_zero _)
  · rw [decide_eq_false h1]
    refine T (call_by (s_QuoRem (N u) (N g) (N_wf u) (N_wf g) (by omega) (by omega) (by rw [N_val g0]; omega)) ?_)
    rw [N_val u0, N_val g0]
    refine T (call_by (s_QuoRem (N v) (N g) (N_wf v) (N_wf g) (by omega) (by omega) (by rw [N_val g0]; omega)) ?_)
    rw [N_val v0, N_val g0]
    by_cases k1 : (N (u / g)).length ≤ 16
    · by_cases k2 : (N (v / g)).length ≤ 16
      · rw [if_pos ⟨k1, k2⟩]
        exact TR rfl
      · rw [if_neg (fun h => k2 h.2)]
        refine T (r_ret ?_)
        exact R (wk_zero _)
    · rw [if_neg (fun h => k1 h.1)]
      refine T (r_ret ?_)
      exact R (wk_zero _)
end Go.Ab
end
