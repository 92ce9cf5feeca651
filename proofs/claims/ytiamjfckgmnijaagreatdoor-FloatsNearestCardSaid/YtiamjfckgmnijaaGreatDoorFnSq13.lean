import Derived.Test.YtiamjfckgmnijaaGreatDoorFnSr6
import Derived.Test.YtiamjfckgmnijaaGreatDoorFnU
set_option linter.all false
section
namespace Go.Ab
open Go Go.Proofs Go.Proofs.YtiamjfckgmnijaaGreatDoor.Pl
set_option maxRecDepth 100000
set_option maxHeartbeats 8000000
theorem mk_form {b : Bool} {u v : Int} (u0 : 0 ≤ u) (v0 : 0 ≤ v) (h : (mkR b u v).2 = 0) : formR (mkR b u v).1 = true := by
  unfold mkR at h ⊢
  by_cases hv : v = 0
  · rw [if_pos hv] at h; simp at h
  rw [if_neg hv] at h ⊢
  by_cases hu : u = 0
  · rw [if_pos hu]; decide +kernel
  rw [if_neg hu] at h ⊢
  by_cases hl : (N (u / (Int.gcd u v : Nat))).length ≤ 16 ∧ (N (v / (Int.gcd u v : Nat))).length ≤ 16
  · rw [if_pos hl]
    have gp : 0 < Int.gcd u v := Nat.gcd_pos_of_pos_right u.natAbs (by omega)
    have du : ((Int.gcd u v : Nat) : Int) ∣ u := Int.gcd_dvd_left ..
    have dv : ((Int.gcd u v : Nat) : Int) ∣ v := Int.gcd_dvd_right ..
    have u1 : 0 < u / (Int.gcd u v : Nat) := Int.ediv_pos_of_pos_of_dvd (by omega) (by omega) du
    have v1 : 0 < v / (Int.gcd u v : Nat) := Int.ediv_pos_of_pos_of_dvd (by omega) (by omega) dv
    have gg : Int.gcd (u / (Int.gcd u v : Nat)) (v / (Int.gcd u v : Nat)) = 1 := Int.gcd_ediv_gcd_ediv_gcd gp
    have nb : ∀ {x : Int}, 0 ≤ x → (N x).length ≤ 16 → natB (N x) = true := fun h0 hx => decide_eq_true ⟨hx, N_trim h0⟩
    show formB b _ _ = true
    rw [formB, decide_eq_true]
    refine ⟨nb (by omega) hl.1, nb (by omega) hl.2, ?_, fun _ => ?_, ?_⟩
    · exact Nat.pos_iff_ne_zero.1 (N_pos v1)
    · exact Nat.pos_iff_ne_zero.1 (N_pos u1)
    · rw [N_val (by omega), N_val (by omega)]; exact gg
  · rw [if_neg hl] at h; simp at h
theorem mk_turn {q : RT} (wn : Wf q.2.1) (wd : Wf q.2.2) (h : formR q = true) : mkR (!q.1) (val q.2.1) (val q.2.2) = (turnR q, 0) := by
  obtain ⟨a1, a2, a3, t1, t2, a6, a7⟩ := form_len h
  have vd := val_ne wd t2 a3
  have en : N (val q.2.1) = q.2.1 := by rw [← trim_N wn, t1]
  have ed : N (val q.2.2) = q.2.2 := by rw [← trim_N wd, t2]
  unfold mkR turnR
  rw [if_neg vd]
  by_cases hu : val q.2.1 = 0
  · rw [if_pos hu]
    rw [hu, N_zero] at en
    have hd : val q.2.2 = 1 := by
      rw [hu, Int.gcd_zero_left] at a7
      have := val_nonneg wd
      omega
    have hn : q.2.1.length = 0 := by rw [← en]; rfl
    rw [hu, hd, N_zero, hn, (N_eq_one (by decide)).2 rfl]
    simp
  · rw [if_neg hu, a7]
    have hp : 0 < q.2.1.length := by
      rcases Nat.eq_zero_or_pos q.2.1.length with h0 | h0
      · exact absurd (by rw [List.eq_nil_of_length_eq_zero h0]; rfl) hu
      · exact h0
    rw [show ((1 : Nat) : Int) = 1 from rfl, Int.ediv_one, Int.ediv_one, en, ed, if_pos ⟨a1, a2⟩]
    simp [hp]
theorem turn_form {q : RT} (wn : Wf q.2.1) (wd : Wf q.2.2) (h : formR q = true) : formR (turnR q) = true := by
  have e := mk_turn wn wd h
  have := mk_form (b := !q.1) (val_nonneg wn) (val_nonneg wd) (by rw [e])
  rw [e] at this
  exact this
theorem turn_W (q : RT) (h : (turnR q).2.1.length ≤ 16 ∧ (turnR q).2.2.length ≤ 16) : RW (turnR q) := ⟨N_wf _, N_wf _, by omega, by omega⟩
theorem turn_len {q : RT} (wn : Wf q.2.1) (wd : Wf q.2.2) (h : formR q = true) : (turnR q).2.1.length ≤ 16 ∧ (turnR q).2.2.length ≤ 16 := by
  obtain ⟨a1, a2, a3, t1, t2, a6, a7⟩ := form_len h
  refine ⟨?_, ?_⟩
  · show (N (val q.2.1)).length ≤ 16; rw [← trim_N wn, t1]; exact a1
  · show (N (val q.2.2)).length ≤ 16; rw [← trim_N wd, t2]; exact a2
theorem q2_Neg (p : RT) (hp : RW p) : Spec Tryz.prog 78 [RA p.1 p.2.1 p.2.2] (resR (negR p)) := by
  refine spec_of_awp mixed Tryz.func78 rfl Tryz.call78 (by kernel_rfl) (by simp) rfl ?_
  refine T (call_by (q2_Form p.1 p.2.1 p.2.2 hp.wn hp.wd hp.ln hp.ld) ?_)
  rw [show formB p.1 p.2.1 p.2.2 = formR p from rfl]
  by_cases h : formR p = true
  · obtain ⟨a1, a2, _⟩ := form_len h
    rw [h]
    refine T (call_by (q2_Make (!p.1) p.2.1 p.2.2 hp.wn hp.wd (by omega) (by omega)) ?_)
    rw [mk_turn hp.wn hp.wd h]
    refine TR ?_
    rw [negR, if_pos h]
  · rw [Bool.eq_false_iff.2 h]
    refine T (r_ret ?_)
    rw [negR, if_neg h]
    exact R (wk_zero _)
theorem q2_Add (p q : RT) (hp : RW p) (hq : RW q) : Spec Tryz.prog 79 [RA p.1 p.2.1 p.2.2, RA q.1 q.2.1 q.2.2] (resR (ifF p q (addR p q))) := by
  refine spec_of_awp mixed Tryz.func79 rfl Tryz.call79 (by kernel_rfl) (by simp) rfl ?_
  refine T (call_by (q2_Form p.1 p.2.1 p.2.2 hp.wn hp.wd hp.ln hp.ld) ?_)
  rw [show formB p.1 p.2.1 p.2.2 = formR p from rfl]
  by_cases h1 : formR p = true
  · rw [h1]
    refine T (call_by (q2_Form q.1 q.2.1 q.2.2 hq.wn hq.wd hq.ln hq.ld) ?_)
    rw [show formB q.1 q.2.1 q.2.2 = formR q from rfl]
    by_cases h2 : formR q = true
    · rw [h2]
      have ef : ifF p q (addR p q) = addR p q := if_pos (by rw [h1, h2]; rfl)
      obtain ⟨a1, a2, _⟩ := form_len h1
      obtain ⟨b1, b2, _⟩ := form_len h2
      have wp1 := hp.wn
      have wp2 := hp.wd
      have wq1 := hq.wn
      have wq2 := hq.wd
      rw [ef]
      clear ef h1 h2 hp hq
      obtain ⟨s1, n1, d1⟩ := p
      obtain ⟨s2, n2, d2⟩ := q
      simp only at *
      have m1 := N_mul_len wp1 wq2
      have m2 := N_mul_len wq1 wp2
      have m3 := N_mul_len wp2 wq2
      have p1 := Int.mul_nonneg (val_nonneg wp1) (val_nonneg wq2)
      have p2 := Int.mul_nonneg (val_nonneg wq1) (val_nonneg wp2)
      have p3 := Int.mul_nonneg (val_nonneg wp2) (val_nonneg wq2)
      refine T (dcall_by (q_Times n1 d2 wp1 wq2 (by omega) (by omega)) ?_)
      refine T (dcall_by (q_Times n2 d1 wq1 wp2 (by omega) (by omega)) ?_)
      refine T (call_by (q_Times d1 d2 wp2 wq2 (by omega) (by omega)) ?_)
      unfold addR
      simp only
      generalize val n1 * val d2 = x at *
      generalize val n2 * val d1 = y at *
      generalize val d1 * val d2 = z at *
      have ls := sum_len (N_wf x) (N_wf y) (n := 32) (by omega) (by omega)
      rw [N_val p1, N_val p2] at ls
      by_cases hb : s1 = s2
      · subst hb
        rw [if_pos rfl]
        refine T (dcall_by (q_Plus (N x) (N y) (N_wf _) (N_wf _) (by omega) (by omega)) ?_)
        rw [N_val p1, N_val p2]
        refine T (dcall_by (q2_Make s1 (N (x + y)) (N z) (N_wf _) (N_wf _) (by omega) (by omega)) ?_)
        rw [N_val (by omega), N_val p3]
        exact TR rfl
      · have eb : (s1 == s2) = false := by cases s1 <;> cases s2 <;> simp_all
        rw [if_neg hb]
        refine T ?_
        rw [eb]
        refine T (call_by (q_Cmp (N x) (N y) (N_wf _) (N_wf _) (by omega) (by omega)) ?_)
        rw [N_val p1, N_val p2]
        by_cases hc : x < y
        · have e3 := sgn_lt0.2 hc
          have lm := N_len_le (x := y - x) (n := 32) (by omega) (l := N y) (by rw [N_val p2]; omega) (N_wf _) (by omega)
          rw [if_pos hc]
          refine T (dcall_by (q_Minus (N y) (N x) (N_wf _) (N_wf _) (by omega) (by omega) (by rw [N_val p1, N_val p2]; omega)) ?_)
          rw [N_val p1, N_val p2]
          refine T (dcall_by (q2_Make s2 (N (y - x)) (N z) (N_wf _) (N_wf _) (by omega) (by omega)) ?_)
          rw [N_val (by omega), N_val p3]
          exact TR rfl
        · have e3 : ¬ sgn x y < 0 := fun h => hc (sgn_lt0.1 h)
          have lm := N_len_le (x := x - y) (n := 32) (by omega) (l := N x) (by rw [N_val p1]; omega) (N_wf _) (by omega)
          rw [if_neg hc]
          refine T (dcall_by (q_Minus (N x) (N y) (N_wf _) (N_wf _) (by omega) (by omega) (by rw [N_val p1, N_val p2]; omega)) ?_)
          rw [N_val p1, N_val p2]
          refine T (dcall_by (q2_Make s1 (N (x - y)) (N z) (N_wf _) (N_wf _) (by omega) (by omega)) ?_)
          rw [N_val (by omega), N_val p3]
          exact TR rfl
    · rw [Bool.eq_false_iff.2 h2]
      have ef : ifF p q (addR p q) = ((false, [], []), 20) := if_neg (by simp [h2])
      refine T (r_ret ?_)
      rw [ef]
      exact R (wk_zero _)
  · rw [Bool.eq_false_iff.2 h1]
    have ef : ifF p q (addR p q) = ((false, [], []), 20) := if_neg (by simp [h1])
    refine T (r_ret ?_)
    rw [ef]
    exact R (wk_zero _)
theorem q2_Sub (p q : RT) (hp : RW p) (hq : RW q) : Spec Tryz.prog 41 [RA p.1 p.2.1 p.2.2, RA q.1 q.2.1 q.2.2] (resR (ifF p q (addR p (turnR q)))) := by
  refine spec_of_awp mixed Tryz.func41 rfl Tryz.call41 (by kernel_rfl) (by simp) rfl ?_
  refine T (call_by (q2_Form p.1 p.2.1 p.2.2 hp.wn hp.wd hp.ln hp.ld) ?_)
  rw [show formB p.1 p.2.1 p.2.2 = formR p from rfl]
  by_cases h1 : formR p = true
  · rw [h1]
    refine T (call_by (q2_Form q.1 q.2.1 q.2.2 hq.wn hq.wd hq.ln hq.ld) ?_)
    rw [show formB q.1 q.2.1 q.2.2 = formR q from rfl]
    by_cases h2 : formR q = true
    · rw [h2]
      have tl := turn_len hq.wn hq.wd h2
      have tf := turn_form hq.wn hq.wd h2
      have ef : ifF p q (addR p (turnR q)) = ifF p (turnR q) (addR p (turnR q)) := by
        rw [ifF, ifF, h1, h2, tf]
      have hn : negR q = (turnR q, 0) := if_pos h2
      refine T (call_by (q2_Neg q hq) ?_)
      rw [hn]
      refine T (call_by (q2_Add p (turnR q) hp (turn_W q tl)) ?_)
      rw [ef]
      exact TR rfl
    · rw [Bool.eq_false_iff.2 h2]
      have ef : ifF p q (addR p (turnR q)) = ((false, [], []), 20) := if_neg (by simp [h2])
      refine T (r_ret ?_)
      rw [ef]
      exact R (wk_zero _)
  · rw [Bool.eq_false_iff.2 h1]
    have ef : ifF p q (addR p (turnR q)) = ((false, [], []), 20) := if_neg (by simp [h1])
    refine T (r_ret ?_)
    rw [ef]
    exact R (wk_zero _)
theorem q2_Cmp (p q : RT) (hp : RW p) (hq : RW q) : Spec Tryz.prog 45 [RA p.1 p.2.1 p.2.2, RA q.1 q.2.1 q.2.2] (resI (cmpR p q)) := by
  refine spec_of_awp mixed Tryz.func45 rfl Tryz.call45 (by kernel_rfl) (by simp) rfl ?_
  refine T (call_by (q2_Form p.1 p.2.1 p.2.2 hp.wn hp.wd hp.ln hp.ld) ?_)
  rw [show formB p.1 p.2.1 p.2.2 = formR p from rfl]
  by_cases h1 : formR p = true
  · rw [h1]
    refine T (call_by (q2_Form q.1 q.2.1 q.2.2 hq.wn hq.wd hq.ln hq.ld) ?_)
    rw [show formB q.1 q.2.1 q.2.2 = formR q from rfl]
    by_cases h2 : formR q = true
    · rw [h2]
      have ef : (formR p && formR q) = true := by rw [h1, h2]; rfl
      obtain ⟨a1, a2, _⟩ := form_len h1
      obtain ⟨b1, b2, _⟩ := form_len h2
      rw [cmpR, if_pos ef]
      have wp1 := hp.wn
      have wp2 := hp.wd
      have wq1 := hq.wn
      have wq2 := hq.wd
      clear ef h1 h2 hp hq
      obtain ⟨s1, n1, d1⟩ := p
      obtain ⟨s2, n2, d2⟩ := q
      simp only at *
      have m1 := N_mul_len wp1 wq2
      have m2 := N_mul_len wq1 wp2
      have p1 := Int.mul_nonneg (val_nonneg wp1) (val_nonneg wq2)
      have p2 := Int.mul_nonneg (val_nonneg wq1) (val_nonneg wp2)
      have bd := sgn_bd (val n1 * val d2) (val n2 * val d1)
      cases s1 with
      | true =>
        cases s2 with
        | true =>
          refine T ?_
          refine T (dcall_by (q_Times n1 d2 wp1 wq2 (by omega) (by omega)) ?_)
          refine T (dcall_by (q_Times n2 d1 wq1 wp2 (by omega) (by omega)) ?_)
          refine T (dcall_by (q_Cmp (N (val n1 * val d2)) (N (val n2 * val d1)) (N_wf _) (N_wf _) (by omega) (by omega)) ?_)
          rw [N_val p1, N_val p2]
          exact TR rfl
        | false =>
          refine T ?_
          rw [show (true != false) = true from rfl]
          exact TR rfl
      | false =>
        cases s2 with
        | true =>
          refine T ?_
          rw [show (false != true) = true from rfl]
          exact TR rfl
        | false =>
          refine T ?_
          refine T (dcall_by (q_Times n1 d2 wp1 wq2 (by omega) (by omega)) ?_)
          refine T (dcall_by (q_Times n2 d1 wq1 wp2 (by omega) (by omega)) ?_)
          refine T (dcall_by (q_Cmp (N (val n1 * val d2)) (N (val n2 * val d1)) (N_wf _) (N_wf _) (by omega) (by omega)) ?_)
          rw [N_val p1, N_val p2]
          exact TR rfl
    · rw [Bool.eq_false_iff.2 h2]
      have ef : ¬ (formR p && formR q) = true := by simp [h2]
      rw [cmpR, if_neg ef]
      exact TR rfl
  · rw [Bool.eq_false_iff.2 h1]
    have ef : ¬ (formR p && formR q) = true := by simp [h1]
    rw [cmpR, if_neg ef]
    exact TR rfl
end Go.Ab
end
