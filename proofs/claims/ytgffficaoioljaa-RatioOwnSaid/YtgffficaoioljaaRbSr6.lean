import Derived.Test.YtgffficaoioljaaRbM
set_option linter.all false
section
namespace Go.Ab
open Go Go.Proofs Go.Proofs.Ytgffficaoioljaa.Pl
set_option maxRecDepth 100000
set_option maxHeartbeats 8000000
def addR (p q : RT) : RT × Int :=
  if p.1 = q.1 then mkR p.1 (val p.2.1 * val q.2.2 + val q.2.1 * val p.2.2) (val p.2.2 * val q.2.2)
  else if val p.2.1 * val q.2.2 < val q.2.1 * val p.2.2 then mkR q.1 (val q.2.1 * val p.2.2 - val p.2.1 * val q.2.2) (val p.2.2 * val q.2.2)
  else mkR p.1 (val p.2.1 * val q.2.2 - val q.2.1 * val p.2.2) (val p.2.2 * val q.2.2)
theorem N_len_le {x : Int} {n : Nat} (h0 : 0 ≤ x) {l : List Int} (hl : x ≤ val l) (hw : Wf l) (hn : l.length ≤ n) : (N x).length ≤ n :=
  Nat.le_trans ((N_is h0).len (Int.lt_of_le_of_lt hl (val_lt hw))) hn
theorem sgn_lt0 {x y : Int} : sgn x y < 0 ↔ x < y := by
  unfold sgn
  split
  · simp; omega
  · split
    · simp; omega
    · simp; omega
theorem sum_len {a b : List Int} (ha : Wf a) (hb : Wf b) {n : Nat} (la : a.length ≤ n) (lb : b.length ≤ n) : (N (val a + val b)).length ≤ n + 1 := by
  have h1 := val_lt ha
  have h2 := val_lt hb
  have h3 := pow_le la
  have h4 := pow_le lb
  refine (N_is (Int.add_nonneg (val_nonneg ha) (val_nonneg hb))).len ?_
  rw [Int.pow_succ]
  have h5 := pow_pos' n
  generalize (4294967296 : Int) ^ n = K at *
  omega
theorem s_add (p q : RT) (wp1 : Wf p.2.1) (wp2 : Wf p.2.2) (wq1 : Wf q.2.1) (wq2 : Wf q.2.2) (l1 : p.2.1.length ≤ 16) (l2 : p.2.2.length ≤ 16) (l3 : q.2.1.length ≤ 16) (l4 : q.2.2.length ≤ 16) :
    Spec Try.prog 106 [RA p.1 p.2.1 p.2.2, RA q.1 q.2.1 q.2.2] (resR (addR p q)) := by
  obtain ⟨b1, n1, d1⟩ := p
  obtain ⟨b2, n2, d2⟩ := q
  simp only at *
  refine spec_of_awp mixed Try.func106 rfl Try.call106 (by kernel_rfl) (by simp) rfl ?_
  have m1 := N_mul_len wp1 wq2
  have m2 := N_mul_len wq1 wp2
  have m3 := N_mul_len wp2 wq2
  have p1 := Int.mul_nonneg (val_nonneg wp1) (val_nonneg wq2)
  have p2 := Int.mul_nonneg (val_nonneg wq1) (val_nonneg wp2)
  have p3 := Int.mul_nonneg (val_nonneg wp2) (val_nonneg wq2)
  refine T (dcall_by (s_Mul n1 d2 wp1 wq2 (by omega) (by omega)) ?_)
  refine T (dcall_by (s_Mul n2 d1 wq1 wp2 (by omega) (by omega)) ?_)
  refine T (dcall_by (s_Mul d1 d2 wp2 wq2 (by omega) (by omega)) ?_)
  unfold addR
  simp only
  generalize val n1 * val d2 = x at *
  generalize val n2 * val d1 = y at *
  generalize val d1 * val d2 = z at *
  have ls := sum_len (N_wf x) (N_wf y) (n := 32) (by omega) (by omega)
  rw [N_val p1, N_val p2] at ls
  by_cases hb : b1 = b2
  · subst hb
    rw [if_pos rfl]
    refine T (dcall_by (s_Add (N x) (N y) (N_wf _) (N_wf _) (by omega) (by omega)) ?_)
    rw [N_val p1, N_val p2]
    refine T (dcall_by (s_Make b1 (N (x + y)) (N z) (N_wf _) (N_wf _) (by omega) (by omega)) ?_)
    rw [N_val (by omega), N_val p3]
    exact TR rfl
  · have eb : (b1 == b2) = false := by cases b1 <;> cases b2 <;> simp_all
    rw [if_neg hb]
    refine T ?_
    rw [eb]
    refine T (call_by (s_Cmp (N x) (N y) (N_wf _) (N_wf _) (by omega) (by omega)) ?_)
    rw [N_val p1, N_val p2]
    by_cases hc : x < y
    · have e3 := sgn_lt0.2 hc
      have lm := N_len_le (x := y - x) (n := 32) (by omega) (l := N y) (by rw [N_val p2]; omega) (N_wf _) (by omega)
      rw [if_pos hc]
      refine T (dcall_by (s_Sub (N y) (N x) (N_wf _) (N_wf _) (by omega) (by omega) (by rw [N_val p1, N_val p2]; omega)) ?_)
      rw [N_val p1, N_val p2]
      refine T (dcall_by (s_Make b2 (N (y - x)) (N z) (N_wf _) (N_wf _) (by omega) (by omega)) ?_)
      rw [N_val (by omega), N_val p3]
      exact TR rfl
    · have e3 : ¬ sgn x y < 0 := fun h => hc (sgn_lt0.1 h)
      have lm := N_len_le (x := x - y) (n := 32) (by omega) (l := N x) (by rw [N_val p1]; omega) (N_wf _) (by omega)
      rw [if_neg hc]
      refine T (dcall_by (s_Sub (N x) (N y) (N_wf _) (N_wf _) (by omega) (by omega) (by rw [N_val p1, N_val p2]; omega)) ?_)
      rw [N_val p1, N_val p2]
      refine T (dcall_by (s_Make b1 (N (x - y)) (N z) (N_wf _) (N_wf _) (by omega) (by omega)) ?_)
      rw [N_val (by omega), N_val p3]
      exact TR rfl
theorem s_rAdd (p q : RT) (hp : RW p) (hq : RW q) : Spec Try.prog 70 [RA p.1 p.2.1 p.2.2, RA q.1 q.2.1 q.2.2] (resR (ifF p q (addR p q))) := by
  refine spec_of_awp mixed Try.func70 rfl Try.call70 (by kernel_rfl) (by simp) rfl ?_
  refine T (call_by (s_forms [p, q] (by simp) (by simp [hp, hq])) ?_)
  rw [all_two, ifF]
  cases hf : (formR p && formR q) with
  | false =>
    refine T ?_
    refine T (r_ret ?_)
    exact R (wk_zero _)
  | true =>
    obtain ⟨a1, a2, _⟩ := form_len (ff hf).1
    obtain ⟨b1, b2, _⟩ := form_len (ff hf).2
    rw [if_pos rfl]
    refine T (call_by (s_add p q hp.wn hp.wd hq.wn hq.wd a1 a2 b1 b2) ?_)
    exact TR rfl
def turnR (p : RT) : RT := (!p.1 && decide (0 < p.2.1.length), N (val p.2.1), N (val p.2.2))
theorem s_turned (p : RT) (wn : Wf p.2.1) (wd : Wf p.2.2) (l1 : p.2.1.length ≤ 1000000000) (l2 : p.2.2.length ≤ 1000000000) : Spec Try.prog 107 [RA p.1 p.2.1 p.2.2] (RA (turnR p).1 (turnR p).2.1 (turnR p).2.2) := by
  obtain ⟨b, n, d⟩ := p
  simp only at *
  refine spec_of_awp mixed Try.func107 rfl Try.call107 (by kernel_rfl) (by simp) rfl ?_
  have e1 := trim_N wn
  have e2 := trim_N wd
  cases b with
  | false =>
    by_cases h : 0 < n.length
    · refine T (dcall_by (s_Trim n (by omega)) ?_)
      refine T (dcall_by (s_Trim d (by omega)) ?_)
      refine TR ?_
      rw [e1, e2]
      simp [turnR, h]
    · refine T (dcall_by (s_Trim n (by omega)) ?_)
      refine T (dcall_by (s_Trim d (by omega)) ?_)
      refine TR ?_
      rw [e1, e2]
      simp [turnR, h]
  | true =>
    refine T (dcall_by (s_Trim n (by omega)) ?_)
    refine T (dcall_by (s_Trim d (by omega)) ?_)
    refine TR ?_
    rw [e1, e2]
    simp [turnR]
theorem s_rSub (p q : RT) (hp : RW p) (hq : RW q) : Spec Try.prog 77 [RA p.1 p.2.1 p.2.2, RA q.1 q.2.1 q.2.2] (resR (ifF p q (addR p (turnR q)))) := by
  refine spec_of_awp mixed Try.func77 rfl Try.call77 (by kernel_rfl) (by simp) rfl ?_
  refine T (call_by (s_forms [p, q] (by simp) (by simp [hp, hq])) ?_)
  rw [all_two, ifF]
  cases hf : (formR p && formR q) with
  | false =>
    refine T ?_
    refine T (r_ret ?_)
    exact R (wk_zero _)
  | true =>
    obtain ⟨a1, a2, _⟩ := form_len (ff hf).1
    obtain ⟨b1, b2, _, t1, t2, _⟩ := form_len (ff hf).2
    rw [if_pos rfl]
    refine T (dcall_by (s_turned q hq.wn hq.wd (by omega) (by omega)) ?_)
    have q1 : (turnR q).2.1.length ≤ 16 := by show (N (val q.2.1)).length ≤ 16; rw [← trim_N hq.wn, t1]; exact b1
    have q2 : (turnR q).2.2.length ≤ 16 := by show (N (val q.2.2)).length ≤ 16; rw [← trim_N hq.wd, t2]; exact b2
    refine T (dcall_by (s_add p (turnR q) hp.wn hp.wd (N_wf _) (N_wf _) a1 a2 q1 q2) ?_)
    exact TR rfl
def negR (p : RT) : RT × Int := if formR p = true then (turnR p, 0) else ((false, [], []), 20)
theorem s_rNeg (p : RT) (hp : RW p) : Spec Try.prog 71 [RA p.1 p.2.1 p.2.2] (resR (negR p)) := by
  refine spec_of_awp mixed Try.func71 rfl Try.call71 (by kernel_rfl) (by simp) rfl ?_
  refine T (call_by (s_Form p.1 p.2.1 p.2.2 hp.wn hp.wd hp.ln hp.ld) ?_)
  rw [show formB p.1 p.2.1 p.2.2 = formR p from rfl]
  by_cases h : formR p = true
  · obtain ⟨a1, a2, _⟩ := form_len h
    rw [h]
    refine T (call_by (s_turned p hp.wn hp.wd (by omega) (by omega)) ?_)
    refine TR ?_
    rw [negR, if_pos h]
  · rw [Bool.eq_false_iff.2 h]
    refine T (r_ret ?_)
    rw [negR, if_neg h]
    exact R (wk_zero _)
def cmpR (p q : RT) : Int × Int :=
  if (formR p && formR q) = true then
    (if p.1 = true ∧ q.1 = false then (-1, 0) else if q.1 = true ∧ p.1 = false then (1, 0)
     else if p.1 = true then (0 - sgn (val p.2.1 * val q.2.2) (val q.2.1 * val p.2.2), 0) else (sgn (val p.2.1 * val q.2.2) (val q.2.1 * val p.2.2), 0))
  else (0, 20)
abbrev resI (p : Int × Int) : AV := .tup [.sc (.int .i64 p.1), .sc (.int .i64 p.2)]
theorem sgn_bd (x y : Int) : -1 ≤ sgn x y ∧ sgn x y ≤ 1 := by
  unfold sgn
  split
  · omega
  · split <;> omega
theorem s_rCmp (p q : RT) (hp : RW p) (hq : RW q) : Spec Try.prog 75 [RA p.1 p.2.1 p.2.2, RA q.1 q.2.1 q.2.2] (resI (cmpR p q)) := by
  refine spec_of_awp mixed Try.func75 rfl Try.call75 (by kernel_rfl) (by simp) rfl ?_
  refine T (call_by (s_forms [p, q] (by simp) (by simp [hp, hq])) ?_)
  rw [all_two, cmpR]
  cases hf : (formR p && formR q) with
  | false => exact TR rfl
  | true =>
    obtain ⟨a1, a2, _⟩ := form_len (ff hf).1
    obtain ⟨b1, b2, _⟩ := form_len (ff hf).2
    rw [if_pos rfl]
    have wp1 := hp.wn
    have wp2 := hp.wd
    have wq1 := hq.wn
    have wq2 := hq.wd
    clear hf hp hq
    obtain ⟨s1, n1, d1⟩ := p
    obtain ⟨s2, n2, d2⟩ := q
    simp only at *
    have m1 := N_mul_len wp1 wq2
    have m2 := N_mul_len wq1 wp2
    have p1 := Int.mul_nonneg (val_nonneg wp1) (val_nonneg wq2)
    have p2 := Int.mul_nonneg (val_nonneg wq1) (val_nonneg wp2)
    have bd := sgn_bd (val n1 * val d2) (val n2 * val d1)
    cases s1 with
    | true =>
      cases s2 with
      | true =>
        refine T (dcall_by (s_Mul n1 d2 wp1 wq2 (by omega) (by omega)) ?_)
        refine T (dcall_by (s_Mul n2 d1 wq1 wp2 (by omega) (by omega)) ?_)
        refine T (dcall_by (s_Cmp (N (val n1 * val d2)) (N (val n2 * val d1)) (N_wf _) (N_wf _) (by omega) (by omega)) ?_)
        rw [N_val p1, N_val p2]
        exact TR rfl
      | false => exact TR rfl
    | false =>
      cases s2 with
      | true => exact TR rfl
      | false =>
        refine T (dcall_by (s_Mul n1 d2 wp1 wq2 (by omega) (by omega)) ?_)
        refine T (dcall_by (s_Mul n2 d1 wq1 wp2 (by omega) (by omega)) ?_)
        refine T (dcall_by (s_Cmp (N (val n1 * val d2)) (N (val n2 * val d1)) (N_wf _) (N_wf _) (by omega) (by omega)) ?_)
        rw [N_val p1, N_val p2]
        exact TR rfl
end Go.Ab
end
