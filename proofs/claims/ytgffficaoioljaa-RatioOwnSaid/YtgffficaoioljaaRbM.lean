import Derived.Test.YtgffficaoioljaaRbL
set_option linter.all false
section
namespace Go.Ab
open Go Go.Proofs Go.Proofs.Ytgffficaoioljaa.Pl
set_option maxRecDepth 100000
set_option maxHeartbeats 8000000
theorem N_mul_len {a b : List Int} (ha : Wf a) (hb : Wf b) : (N (val a * val b)).length ≤ a.length + b.length := by
  refine (N_is (Int.mul_nonneg (val_nonneg ha) (val_nonneg hb))).len ?_
  rw [Int.pow_add]
  have h1 := val_lt ha
  have h2 := val_lt hb
  have h3 := val_nonneg ha
  have h4 := val_nonneg hb
  have h5 : val a * val b ≤ val a * 4294967296 ^ b.length := Int.mul_le_mul_of_nonneg_left (Int.le_of_lt h2) h3
  have h6 : val a * 4294967296 ^ b.length < 4294967296 ^ a.length * 4294967296 ^ b.length := Int.mul_lt_mul_of_pos_right h1 (pow_pos' _)
  omega
theorem s_mul (b1 b2 : Bool) (n1 d1 n2 d2 : List Int) (w1 : Wf n1) (w2 : Wf d1) (w3 : Wf n2) (w4 : Wf d2) (l1 : n1.length ≤ 16) (l2 : d1.length ≤ 16) (l3 : n2.length ≤ 16) (l4 : d2.length ≤ 16) :
    Spec Try.prog 104 [RA b1 n1 d1, RA b2 n2 d2] (resR (mkR (b1 != b2) (val n1 * val n2) (val d1 * val d2))) := by
  refine spec_of_awp mixed Try.func104 rfl Try.call104 (by kernel_rfl) (by simp) rfl ?_
  have m1 := N_mul_len w1 w3
  have m2 := N_mul_len w2 w4
  have p1 := Int.mul_nonneg (val_nonneg w1) (val_nonneg w3)
  have p2 := Int.mul_nonneg (val_nonneg w2) (val_nonneg w4)
  refine T (dcall_by (s_Mul n1 n2 w1 w3 (by omega) (by omega)) ?_)
  refine T (dcall_by (s_Mul d1 d2 w2 w4 (by omega) (by omega)) ?_)
  refine T (dcall_by (s_Make (b1 != b2) (N (val n1 * val n2)) (N (val d1 * val d2)) (N_wf _) (N_wf _) (by omega) (by omega)) ?_)
  rw [N_val p1, N_val p2]
  exact TR rfl
end Go.Ab
end
section
namespace Go.Ab
open Go Go.Proofs Go.Proofs.Ytgffficaoioljaa.Pl
set_option maxRecDepth 100000
set_option maxHeartbeats 8000000
abbrev RT := Bool × List Int × List Int
def rc (p : RT) : List AV := [.sc (.bool p.1), U p.2.1, U p.2.2]
abbrev RS (l : List RT) : AV := .vs l.length (l.flatMap rc)
theorem rc_len : ∀ (l : List RT), (l.flatMap rc).length = 3 * l.length
  | [] => rfl
  | p :: l => by simp only [List.flatMap_cons, List.length_append, rc_len l, rc, List.length_cons, List.length_nil]; omega
theorem rc_at : ∀ (l : List RT) (k : Nat) (h : k < l.length), ((l.flatMap rc).drop (k * 3)).take 3 = rc l[k]
  | p :: l, 0, h => by simp [rc]
  | p :: l, k + 1, h => by
    have := rc_at l k (by simpa using h)
    simp only [List.flatMap_cons, List.getElem_cons_succ]
    rw [show (k + 1) * 3 = (rc p).length + k * 3 by simp [rc]; omega, List.drop_length_add_append]
    exact this
structure RW (p : RT) : Prop where
  wn : Wf p.2.1
  wd : Wf p.2.2
  ln : p.2.1.length ≤ 4611686018427387904
  ld : p.2.2.length ≤ 4611686018427387904
def formR (p : RT) : Bool := formB p.1 p.2.1 p.2.2
theorem s_forms (l : List RT) (hl : l.length ≤ 4611686018427387904) (hw : ∀ p ∈ l, RW p) : Spec Try.prog 103 [RS l] (.sc (.bool (l.all formR))) := by
  refine spec_of_awp mixed Try.func103 rfl Try.call103 (by kernel_rfl) (by simp) rfl ?_
  have el := rc_len l
  refine T ?_
  refine w_loop (α := Nat) (fun k => [(.t 5, RS l), (.t 6, .sc (.int .i64 (l.length : Int))), (.t 7, .sc (.int .i64 (k : Int)))]) (fun k => k ≤ l.length ∧ (l.take k).all formR = true) (fun k => l.length - k) 0 ⟨Nat.zero_le _, rfl⟩ ?_ ?_
  · exact Hv
  rintro k r ⟨h1, h2⟩ J hJ
  by_cases h3 : k < l.length
  · have e := rc_at l k h3
    refine T ?_
    simp only [e, rc]
    have w := hw _ (List.getElem_mem h3)
    refine T (call_by (s_Form l[k].1 l[k].2.1 l[k].2.2 w.wn w.wd w.ln w.ld) ?_)
    cases h4 : formB l[k].1 l[k].2.1 l[k].2.2 with
    | true =>
      refine T ?_
      refine hJ _ (k + 1) (by omega) ⟨by omega, ?_⟩ Hv
      rw [List.take_succ_eq_append_getElem h3, List.all_append, h2]
      simp [formR, h4]
    | false =>
      refine TR ?_
      have : l.all formR = false := by
        rw [List.all_eq_false]
        exact ⟨l[k], List.getElem_mem h3, by simp [formR, h4]⟩
      rw [this]
  · refine TR ?_
    rw [List.take_of_length_le (by omega)] at h2
    rw [h2]
end Go.Ab
end
section
namespace Go.Ab
open Go Go.Proofs Go.Proofs.Ytgffficaoioljaa.Pl
set_option maxRecDepth 100000
set_option maxHeartbeats 8000000
def mulR (p q : RT) : RT × Int := mkR (p.1 != q.1) (val p.2.1 * val q.2.1) (val p.2.2 * val q.2.2)
def divR (p q : RT) : RT × Int := if q.2.1.length = 0 then ((false, [], []), 10) else mkR (p.1 != q.1) (val p.2.1 * val q.2.2) (val p.2.2 * val q.2.1)
def ifF (p q : RT) (r : RT × Int) : RT × Int := if (formR p && formR q) = true then r else ((false, [], []), 20)
theorem ff {p q : RT} (h : (formR p && formR q) = true) : formR p = true ∧ formR q = true := by simpa using h
theorem form_len {p : RT} (h : formR p = true) : p.2.1.length ≤ 16 ∧ p.2.2.length ≤ 16 ∧ p.2.2.length ≠ 0 ∧ trim p.2.1 = p.2.1 ∧ trim p.2.2 = p.2.2 ∧ (p.1 = true → p.2.1.length ≠ 0) ∧ Int.gcd (val p.2.1) (val p.2.2) = 1 := by
  have h := of_decide_eq_true h
  have h1 := of_decide_eq_true h.1
  have h2 := of_decide_eq_true h.2.1
  exact ⟨h1.1, h2.1, h.2.2.1, h1.2, h2.2, h.2.2.2.1, h.2.2.2.2⟩
theorem all_two (p q : RT) : [p, q].all formR = (formR p && formR q) := by simp
theorem s_rMul (p q : RT) (hp : RW p) (hq : RW q) : Spec Try.prog 62 [RA p.1 p.2.1 p.2.2, RA q.1 q.2.1 q.2.2] (resR (ifF p q (mulR p q))) := by
  refine spec_of_awp mixed Try.func62 rfl Try.call62 (by kernel_rfl) (by simp) rfl ?_
  refine T (call_by (s_forms [p, q] (by simp) (by simp [hp, hq])) ?_)
  rw [all_two, ifF]
  cases hf : (formR p && formR q) with
  | false =>
    refine T ?_
    refine T (r_ret ?_)
    exact R (wk_zero _)
  | true =>
    obtain ⟨a1, a2, _⟩ := form_len (ff hf).1
    obtain ⟨b1, b2, _⟩ := form_len (ff hf).2
    rw [if_pos rfl]
    refine T (call_by (s_mul p.1 q.1 p.2.1 p.2.2 q.2.1 q.2.2 hp.wn hp.wd hq.wn hq.wd a1 a2 b1 b2) ?_)
    exact TR rfl
theorem s_rDiv (p q : RT) (hp : RW p) (hq : RW q) : Spec Try.prog 64 [RA p.1 p.2.1 p.2.2, RA q.1 q.2.1 q.2.2] (resR (ifF p q (divR p q))) := by
  refine spec_of_awp mixed Try.func64 rfl Try.call64 (by kernel_rfl) (by simp) rfl ?_
  refine T (call_by (s_forms [p, q] (by simp) (by simp [hp, hq])) ?_)
  rw [all_two, ifF]
  cases hf : (formR p && formR q) with
  | false =>
    refine T ?_
    refine T (r_ret ?_)
    exact R (wk_zero _)
  | true =>
    obtain ⟨a1, a2, _⟩ := form_len (ff hf).1
    obtain ⟨b1, b2, _⟩ := form_len (ff hf).2
    rw [if_pos rfl, divR]
    by_cases h : q.2.1.length = 0
    · rw [if_pos h]
      refine T ?_
      refine T (r_ret ?_)
      exact R (wk_zero _)
    · rw [if_neg h]
      have m1 := N_mul_len hp.wn hq.wd
      have m2 := N_mul_len hp.wd hq.wn
      have p1 := Int.mul_nonneg (val_nonneg hp.wn) (val_nonneg hq.wd)
      have p2 := Int.mul_nonneg (val_nonneg hp.wd) (val_nonneg hq.wn)
      refine T (dcall_by (s_Mul p.2.1 q.2.2 hp.wn hq.wd (by omega) (by omega)) ?_)
      refine T (dcall_by (s_Mul p.2.2 q.2.1 hp.wd hq.wn (by omega) (by omega)) ?_)
      refine T (dcall_by (s_Make (p.1 != q.1) (N (val p.2.1 * val q.2.2)) (N (val p.2.2 * val q.2.1)) (N_wf _) (N_wf _) (by omega) (by omega)) ?_)
      rw [N_val p1, N_val p2]
      exact TR rfl
end Go.Ab
end
