import Derived.Test.YtgffficaoioljaaRbSo6
import Derived.Test.YtgffficaoioljaaRbSr6
set_option linter.all false
section
namespace Go.Ab
open Go Go.Proofs Go.Proofs.Ytgffficaoioljaa.Pl
set_option maxRecDepth 100000
set_option maxHeartbeats 8000000
theorem g_mul (b1 b2 : Bool) (n1 d1 n2 d2 : List Int) (w1 : Wf n1) (w2 : Wf d1) (w3 : Wf n2) (w4 : Wf d2) (l1 : n1.length ≤ 16) (l2 : d1.length ≤ 16) (l3 : n2.length ≤ 16) (l4 : d2.length ≤ 16) :
    LimR 104 [RA b1 n1 d1, RA b2 n2 d2] (mkR (b1 != b2) (val n1 * val n2) (val d1 * val d2)) := by
  have m1 := N_mul_len w1 w3
  have m2 := N_mul_len w2 w4
  have p1 := Int.mul_nonneg (val_nonneg w1) (val_nonneg w3)
  have p2 := Int.mul_nonneg (val_nonneg w2) (val_nonneg w4)
  have h := g_Make (b1 != b2) (N (val n1 * val n2)) (N (val d1 * val d2)) (N_wf _) (N_wf _) (by omega) (by omega)
  rw [N_val p1, N_val p2] at h
  generalize mkR (b1 != b2) (val n1 * val n2) (val d1 * val d2) = P at *
  rcases h with ⟨k1, k2, k3⟩ | ⟨k1, k2, k3⟩ | ⟨k1, k3⟩
  · refine .inl ⟨k1, k2, ?_⟩
    refine spec_of_awp mixed Try.func104 rfl Try.call104 (by kernel_rfl) (by simp) rfl ?_
    refine T (dcall_by (s_Mul n1 n2 w1 w3 (by omega) (by omega)) ?_)
    refine T (dcall_by (s_Mul d1 d2 w2 w4 (by omega) (by omega)) ?_)
    refine T (dcall_by k3 ?_)
    refine T (r_ret ?_)
    rw [Try.results104]
    refine R ?_
    exact Wk.refl _
  · refine .inr (.inl ⟨k1, k2, ?_⟩)
    refine specG_of_awp mixed Try.func104 rfl Try.call104 (by kernel_rfl) (by simp) rfl rfl (by simp) ?_
    refine T (dcall_by (s_Mul n1 n2 w1 w3 (by omega) (by omega)) ?_)
    refine T (dcall_by (s_Mul d1 d2 w2 w4 (by omega) (by omega)) ?_)
    refine T ?_
    refine dcall_g [] false k3 trivial rfl (by simp) (by simp [pOf]) rfl rfl rfl nofun ?_
    refine T (r_retG [(21, 1)] (by simp) ?_ ?_)
    · trivial
    rw [Try.results104]
    refine RG ?_
    exact ⟨Nat.le_refl _, Wk.refl _⟩
  · refine .inr (.inr ⟨k1, ?_⟩)
    refine specG_of_awp mixed Try.func104 rfl Try.call104 (by kernel_rfl) (by simp) rfl rfl (by simp) ?_
    refine T (dcall_by (s_Mul n1 n2 w1 w3 (by omega) (by omega)) ?_)
    refine T (dcall_by (s_Mul d1 d2 w2 w4 (by omega) (by omega)) ?_)
    refine T ?_
    refine dcall_g [] false k3 trivial rfl (by simp) (by simp [pOf]) rfl rfl rfl nofun ?_
    refine T (r_retG [(21, 1), (3000021, 1)] (by simp) ?_ ?_)
    · trivial
    rw [Try.results104]
    refine RG ?_
    exact ⟨⟨Nat.le_refl _, Nat.le_refl _⟩, Wk.refl _⟩
theorem ad_1 (b1 : Bool) (n1 d1 n2 d2 : List Int) (wp1 : Wf n1) (wp2 : Wf d1) (wq1 : Wf n2) (wq2 : Wf d2) (l1 : n1.length ≤ 16) (l2 : d1.length ≤ 16) (l3 : n2.length ≤ 16) (l4 : d2.length ≤ 16)  :
    LimR 106 [RA b1 n1 d1, RA b1 n2 d2] (mkR b1 (val n1 * val d2 + val n2 * val d1) (val d1 * val d2)) := by
  have m1 := N_mul_len wp1 wq2
  have m2 := N_mul_len wq1 wp2
  have m3 := N_mul_len wp2 wq2
  have p1 := Int.mul_nonneg (val_nonneg wp1) (val_nonneg wq2)
  have p2 := Int.mul_nonneg (val_nonneg wq1) (val_nonneg wp2)
  have p3 := Int.mul_nonneg (val_nonneg wp2) (val_nonneg wq2)
  generalize ex : val n1 * val d2 = x at *
  generalize ey : val n2 * val d1 = y at *
  generalize ez : val d1 * val d2 = z at *
  have ls := sum_len (N_wf x) (N_wf y) (n := 32) (by omega) (by omega)
  rw [N_val p1, N_val p2] at ls
  have h := g_Make b1 (N (x + y)) (N z) (N_wf _) (N_wf _) (by omega) (by omega)
  rw [N_val (by omega), N_val p3] at h
  generalize mkR b1 (x + y) z = P at *
  rcases h with ⟨k1, k2, k3⟩ | ⟨k1, k2, k3⟩ | ⟨k1, k3⟩
  · refine .inl ⟨k1, k2, ?_⟩
    refine spec_of_awp mixed Try.func106 rfl Try.call106 (by kernel_rfl) (by simp) rfl ?_
    refine T (dcall_by (s_Mul n1 d2 wp1 wq2 (by omega) (by omega)) ?_)
    refine T (dcall_by (s_Mul n2 d1 wq1 wp2 (by omega) (by omega)) ?_)
    refine T (dcall_by (s_Mul d1 d2 wp2 wq2 (by omega) (by omega)) ?_)
    rw [ex, ey, ez]
    refine T (dcall_by (s_Add (N x) (N y) (N_wf _) (N_wf _) (by omega) (by omega)) ?_)
    rw [N_val p1, N_val p2]
    refine T (dcall_by k3 ?_)
    refine T (r_ret ?_)
    rw [Try.results106]
    refine R ?_
    exact Wk.refl _
  · refine .inr (.inl ⟨k1, k2, ?_⟩)
    refine specG_of_awp mixed Try.func106 rfl Try.call106 (by kernel_rfl) (by simp) rfl rfl (by simp) ?_
    refine T (dcall_by (s_Mul n1 d2 wp1 wq2 (by omega) (by omega)) ?_)
    refine T (dcall_by (s_Mul n2 d1 wq1 wp2 (by omega) (by omega)) ?_)
    refine T (dcall_by (s_Mul d1 d2 wp2 wq2 (by omega) (by omega)) ?_)
    rw [ex, ey, ez]
    refine T (dcall_by (s_Add (N x) (N y) (N_wf _) (N_wf _) (by omega) (by omega)) ?_)
    rw [N_val p1, N_val p2]
    refine T ?_
    refine dcall_g [] false k3 trivial rfl (by simp) (by simp [pOf]) rfl rfl rfl nofun ?_
    refine T (r_retG [(35, 1)] (by simp) ?_ ?_)
    · trivial
    rw [Try.results106]
    refine RG ?_
    exact ⟨Nat.le_refl _, Wk.refl _⟩
  · refine .inr (.inr ⟨k1, ?_⟩)
    refine specG_of_awp mixed Try.func106 rfl Try.call106 (by kernel_rfl) (by simp) rfl rfl (by simp) ?_
    refine T (dcall_by (s_Mul n1 d2 wp1 wq2 (by omega) (by omega)) ?_)
    refine T (dcall_by (s_Mul n2 d1 wq1 wp2 (by omega) (by omega)) ?_)
    refine T (dcall_by (s_Mul d1 d2 wp2 wq2 (by omega) (by omega)) ?_)
    rw [ex, ey, ez]
    refine T (dcall_by (s_Add (N x) (N y) (N_wf _) (N_wf _) (by omega) (by omega)) ?_)
    rw [N_val p1, N_val p2]
    refine T ?_
    refine dcall_g [] false k3 trivial rfl (by simp) (by simp [pOf]) rfl rfl rfl nofun ?_
    refine T (r_retG [(35, 1), (3000035, 1)] (by simp) ?_ ?_)
    · trivial
    rw [Try.results106]
    refine RG ?_
    exact ⟨⟨Nat.le_refl _, Nat.le_refl _⟩, Wk.refl _⟩
theorem ad_2 (b1 b2 : Bool) (n1 d1 n2 d2 : List Int) (wp1 : Wf n1) (wp2 : Wf d1) (wq1 : Wf n2) (wq2 : Wf d2) (l1 : n1.length ≤ 16) (l2 : d1.length ≤ 16) (l3 : n2.length ≤ 16) (l4 : d2.length ≤ 16) (hb : b1 ≠ b2) (hc : val n1 * val d2 < val n2 * val d1) :
    LimR 106 [RA b1 n1 d1, RA b2 n2 d2] (mkR b2 (val n2 * val d1 - val n1 * val d2) (val d1 * val d2)) := by
  have m1 := N_mul_len wp1 wq2
  have m2 := N_mul_len wq1 wp2
  have m3 := N_mul_len wp2 wq2
  have p1 := Int.mul_nonneg (val_nonneg wp1) (val_nonneg wq2)
  have p2 := Int.mul_nonneg (val_nonneg wq1) (val_nonneg wp2)
  have p3 := Int.mul_nonneg (val_nonneg wp2) (val_nonneg wq2)
  generalize ex : val n1 * val d2 = x at *
  generalize ey : val n2 * val d1 = y at *
  generalize ez : val d1 * val d2 = z at *
  have ls := sum_len (N_wf x) (N_wf y) (n := 32) (by omega) (by omega)
  rw [N_val p1, N_val p2] at ls
  have eb : (b1 == b2) = false := by cases b1 <;> cases b2 <;> simp_all
  have e3 := sgn_lt0.2 hc
  have lm := N_len_le (x := y - x) (n := 32) (by omega) (l := N y) (by rw [N_val p2]; omega) (N_wf _) (by omega)
  have h := g_Make b2 (N (y - x)) (N z) (N_wf _) (N_wf _) (by omega) (by omega)
  rw [N_val (by omega), N_val p3] at h
  generalize mkR b2 (y - x) z = P at *
  rcases h with ⟨k1, k2, k3⟩ | ⟨k1, k2, k3⟩ | ⟨k1, k3⟩
  · refine .inl ⟨k1, k2, ?_⟩
    refine spec_of_awp mixed Try.func106 rfl Try.call106 (by kernel_rfl) (by simp) rfl ?_
    refine T (dcall_by (s_Mul n1 d2 wp1 wq2 (by omega) (by omega)) ?_)
    refine T (dcall_by (s_Mul n2 d1 wq1 wp2 (by omega) (by omega)) ?_)
    refine T (dcall_by (s_Mul d1 d2 wp2 wq2 (by omega) (by omega)) ?_)
    rw [ex, ey, ez]
    refine T ?_
    rw [eb]
    refine T (call_by (s_Cmp (N x) (N y) (N_wf _) (N_wf _) (by omega) (by omega)) ?_)
    rw [N_val p1, N_val p2]
    refine T (dcall_by (s_Sub (N y) (N x) (N_wf _) (N_wf _) (by omega) (by omega) (by rw [N_val p1, N_val p2]; omega)) ?_)
    rw [N_val p1, N_val p2]
    refine T (dcall_by k3 ?_)
    refine T (r_ret ?_)
    rw [Try.results106]
    refine R ?_
    exact Wk.refl _
  · refine .inr (.inl ⟨k1, k2, ?_⟩)
    refine specG_of_awp mixed Try.func106 rfl Try.call106 (by kernel_rfl) (by simp) rfl rfl (by simp) ?_
    refine T (dcall_by (s_Mul n1 d2 wp1 wq2 (by omega) (by omega)) ?_)
    refine T (dcall_by (s_Mul n2 d1 wq1 wp2 (by omega) (by omega)) ?_)
    refine T (dcall_by (s_Mul d1 d2 wp2 wq2 (by omega) (by omega)) ?_)
    rw [ex, ey, ez]
    refine T ?_
    rw [eb]
    refine T (call_by (s_Cmp (N x) (N y) (N_wf _) (N_wf _) (by omega) (by omega)) ?_)
    rw [N_val p1, N_val p2]
    refine T (dcall_by (s_Sub (N y) (N x) (N_wf _) (N_wf _) (by omega) (by omega) (by rw [N_val p1, N_val p2]; omega)) ?_)
    rw [N_val p1, N_val p2]
    refine T ?_
    refine dcall_g [] false k3 trivial rfl (by simp) (by simp [pOf]) rfl rfl rfl nofun ?_
    refine T (r_retG [(48, 1)] (by simp) ?_ ?_)
    · trivial
    rw [Try.results106]
    refine RG ?_
    exact ⟨Nat.le_refl _, Wk.refl _⟩
  · refine .inr (.inr ⟨k1, ?_⟩)
    refine specG_of_awp mixed Try.func106 rfl Try.call106 (by kernel_rfl) (by simp) rfl rfl (by simp) ?_
    refine T (dcall_by (s_Mul n1 d2 wp1 wq2 (by omega) (by omega)) ?_)
    refine T (dcall_by (s_Mul n2 d1 wq1 wp2 (by omega) (by omega)) ?_)
    refine T (dcall_by (s_Mul d1 d2 wp2 wq2 (by omega) (by omega)) ?_)
    rw [ex, ey, ez]
    refine T ?_
    rw [eb]
    refine T (call_by (s_Cmp (N x) (N y) (N_wf _) (N_wf _) (by omega) (by omega)) ?_)
    rw [N_val p1, N_val p2]
    refine T (dcall_by (s_Sub (N y) (N x) (N_wf _) (N_wf _) (by omega) (by omega) (by rw [N_val p1, N_val p2]; omega)) ?_)
    rw [N_val p1, N_val p2]
    refine T ?_
    refine dcall_g [] false k3 trivial rfl (by simp) (by simp [pOf]) rfl rfl rfl nofun ?_
    refine T (r_retG [(48, 1), (3000048, 1)] (by simp) ?_ ?_)
    · trivial
    rw [Try.results106]
    refine RG ?_
    exact ⟨⟨Nat.le_refl _, Nat.le_refl _⟩, Wk.refl _⟩
theorem ad_3 (b1 b2 : Bool) (n1 d1 n2 d2 : List Int) (wp1 : Wf n1) (wp2 : Wf d1) (wq1 : Wf n2) (wq2 : Wf d2) (l1 : n1.length ≤ 16) (l2 : d1.length ≤ 16) (l3 : n2.length ≤ 16) (l4 : d2.length ≤ 16) (hb : b1 ≠ b2) (hc : ¬ val n1 * val d2 < val n2 * val d1) :
    LimR 106 [RA b1 n1 d1, RA b2 n2 d2] (mkR b1 (val n1 * val d2 - val n2 * val d1) (val d1 * val d2)) := by
  have m1 := N_mul_len wp1 wq2
  have m2 := N_mul_len wq1 wp2
  have m3 := N_mul_len wp2 wq2
  have p1 := Int.mul_nonneg (val_nonneg wp1) (val_nonneg wq2)
  have p2 := Int.mul_nonneg (val_nonneg wq1) (val_nonneg wp2)
  have p3 := Int.mul_nonneg (val_nonneg wp2) (val_nonneg wq2)
  generalize ex : val n1 * val d2 = x at *
  generalize ey : val n2 * val d1 = y at *
  generalize ez : val d1 * val d2 = z at *
  have ls := sum_len (N_wf x) (N_wf y) (n := 32) (by omega) (by omega)
  rw [N_val p1, N_val p2] at ls
  have eb : (b1 == b2) = false := by cases b1 <;> cases b2 <;> simp_all
  have e3 : ¬ sgn x y < 0 := fun h => hc (sgn_lt0.1 h)
  have lm := N_len_le (x := x - y) (n := 32) (by omega) (l := N x) (by rw [N_val p1]; omega) (N_wf _) (by omega)
  have h := g_Make b1 (N (x - y)) (N z) (N_wf _) (N_wf _) (by omega) (by omega)
  rw [N_val (by omega), N_val p3] at h
  generalize mkR b1 (x - y) z = P at *
  rcases h with ⟨k1, k2, k3⟩ | ⟨k1, k2, k3⟩ | ⟨k1, k3⟩
  · refine .inl ⟨k1, k2, ?_⟩
    refine spec_of_awp mixed Try.func106 rfl Try.call106 (by kernel_rfl) (by simp) rfl ?_
    refine T (dcall_by (s_Mul n1 d2 wp1 wq2 (by omega) (by omega)) ?_)
    refine T (dcall_by (s_Mul n2 d1 wq1 wp2 (by omega) (by omega)) ?_)
    refine T (dcall_by (s_Mul d1 d2 wp2 wq2 (by omega) (by omega)) ?_)
    rw [ex, ey, ez]
    refine T ?_
    rw [eb]
    refine T (call_by (s_Cmp (N x) (N y) (N_wf _) (N_wf _) (by omega) (by omega)) ?_)
    rw [N_val p1, N_val p2]
    refine T (dcall_by (s_Sub (N x) (N y) (N_wf _) (N_wf _) (by omega) (by omega) (by rw [N_val p1, N_val p2]; omega)) ?_)
    rw [N_val p1, N_val p2]
    refine T (dcall_by k3 ?_)
    refine T (r_ret ?_)
    rw [Try.results106]
    refine R ?_
    exact Wk.refl _
  · refine .inr (.inl ⟨k1, k2, ?_⟩)
    refine specG_of_awp mixed Try.func106 rfl Try.call106 (by kernel_rfl) (by simp) rfl rfl (by simp) ?_
    refine T (dcall_by (s_Mul n1 d2 wp1 wq2 (by omega) (by omega)) ?_)
    refine T (dcall_by (s_Mul n2 d1 wq1 wp2 (by omega) (by omega)) ?_)
    refine T (dcall_by (s_Mul d1 d2 wp2 wq2 (by omega) (by omega)) ?_)
    rw [ex, ey, ez]
    refine T ?_
    rw [eb]
    refine T (call_by (s_Cmp (N x) (N y) (N_wf _) (N_wf _) (by omega) (by omega)) ?_)
    rw [N_val p1, N_val p2]
    refine T (dcall_by (s_Sub (N x) (N y) (N_wf _) (N_wf _) (by omega) (by omega) (by rw [N_val p1, N_val p2]; omega)) ?_)
    rw [N_val p1, N_val p2]
    refine T ?_
    refine dcall_g [] false k3 trivial rfl (by simp) (by simp [pOf]) rfl rfl rfl nofun ?_
    refine T (r_retG [(57, 1)] (by simp) ?_ ?_)
    · trivial
    rw [Try.results106]
    refine RG ?_
    exact ⟨Nat.le_refl _, Wk.refl _⟩
  · refine .inr (.inr ⟨k1, ?_⟩)
    refine specG_of_awp mixed Try.func106 rfl Try.call106 (by kernel_rfl) (by simp) rfl rfl (by simp) ?_
    refine T (dcall_by (s_Mul n1 d2 wp1 wq2 (by omega) (by omega)) ?_)
    refine T (dcall_by (s_Mul n2 d1 wq1 wp2 (by omega) (by omega)) ?_)
    refine T (dcall_by (s_Mul d1 d2 wp2 wq2 (by omega) (by omega)) ?_)
    rw [ex, ey, ez]
    refine T ?_
    rw [eb]
    refine T (call_by (s_Cmp (N x) (N y) (N_wf _) (N_wf _) (by omega) (by omega)) ?_)
    rw [N_val p1, N_val p2]
    refine T (dcall_by (s_Sub (N x) (N y) (N_wf _) (N_wf _) (by omega) (by omega) (by rw [N_val p1, N_val p2]; omega)) ?_)
    rw [N_val p1, N_val p2]
    refine T ?_
    refine dcall_g [] false k3 trivial rfl (by simp) (by simp [pOf]) rfl rfl rfl nofun ?_
    refine T (r_retG [(57, 1), (3000057, 1)] (by simp) ?_ ?_)
    · trivial
    rw [Try.results106]
    refine RG ?_
    exact ⟨⟨Nat.le_refl _, Nat.le_refl _⟩, Wk.refl _⟩
theorem g_add (p q : RT) (wp1 : Wf p.2.1) (wp2 : Wf p.2.2) (wq1 : Wf q.2.1) (wq2 : Wf q.2.2) (l1 : p.2.1.length ≤ 16) (l2 : p.2.2.length ≤ 16) (l3 : q.2.1.length ≤ 16) (l4 : q.2.2.length ≤ 16) :
    LimR 106 [RA p.1 p.2.1 p.2.2, RA q.1 q.2.1 q.2.2] (addR p q) := by
  obtain ⟨b1, n1, d1⟩ := p
  obtain ⟨b2, n2, d2⟩ := q
  simp only at *
  unfold addR
  simp only
  by_cases hb : b1 = b2
  · subst hb
    rw [if_pos rfl]
    exact ad_1 b1 n1 d1 n2 d2 wp1 wp2 wq1 wq2 l1 l2 l3 l4
  · rw [if_neg hb]
    by_cases hc : val n1 * val d2 < val n2 * val d1
    · rw [if_pos hc]
      exact ad_2 b1 b2 n1 d1 n2 d2 wp1 wp2 wq1 wq2 l1 l2 l3 l4 hb hc
    · rw [if_neg hc]
      exact ad_3 b1 b2 n1 d1 n2 d2 wp1 wp2 wq1 wq2 l1 l2 l3 l4 hb hc
theorem g_rAdd (p q : RT) (hp : RW p) (hq : RW q) : LimR 70 [RA p.1 p.2.1 p.2.2, RA q.1 q.2.1 q.2.2] (ifF p q (addR p q)) := by
  have hF := s_forms [p, q] (by simp) (by simp [hp, hq])
  rw [all_two] at hF
  rw [ifF]
  cases hf : (formR p && formR q) with
  | false =>
    rw [hf] at hF
    rw [if_neg (by decide)]
    refine .inl ⟨(by decide : (20 : Int) ≠ 0), rfl, ?_⟩
    refine spec_of_awp mixed Try.func70 rfl Try.call70 (by kernel_rfl) (by simp) rfl ?_
    refine T (call_by hF ?_)
    refine T (r_ret ?_)
    rw [Try.results70]
    refine R ?_
    exact Wk.refl _
  | true =>
    obtain ⟨a1, a2, _⟩ := form_len (ff hf).1
    obtain ⟨b1, b2, _⟩ := form_len (ff hf).2
    rw [hf] at hF
    rw [if_pos rfl]
    have h := g_add p q hp.wn hp.wd hq.wn hq.wd a1 a2 b1 b2
    generalize addR p q = P at *
    rcases h with ⟨k1, k2, k3⟩ | ⟨k1, k2, k3⟩ | ⟨k1, k3⟩
    · refine .inl ⟨k1, k2, ?_⟩
      refine spec_of_awp mixed Try.func70 rfl Try.call70 (by kernel_rfl) (by simp) rfl ?_
      refine T (call_by hF ?_)
      refine T (call_by k3 ?_)
      refine T (r_ret ?_)
      rw [Try.results70]
      refine R ?_
      exact Wk.refl _
    · refine .inr (.inl ⟨k1, k2, ?_⟩)
      refine specG_of_awp mixed Try.func70 rfl Try.call70 (by kernel_rfl) (by simp) rfl rfl (by simp) ?_
      refine T (call_by hF ?_)
      refine T ?_
      refine call_g [] false k3 trivial rfl (by simp) (by simp [pOf]) rfl rfl rfl nofun ?_
      refine T (r_retG [(14, 1)] (by simp) ?_ ?_)
      · trivial
      rw [Try.results70]
      refine RG ?_
      exact ⟨Nat.le_refl _, Wk.refl _⟩
    · refine .inr (.inr ⟨k1, ?_⟩)
      refine specG_of_awp mixed Try.func70 rfl Try.call70 (by kernel_rfl) (by simp) rfl rfl (by simp) ?_
      refine T (call_by hF ?_)
      refine T ?_
      refine call_g [] false k3 trivial rfl (by simp) (by simp [pOf]) rfl rfl rfl nofun ?_
      refine T (r_retG [(14, 1), (3000014, 1)] (by simp) ?_ ?_)
      · trivial
      rw [Try.results70]
      refine RG ?_
      exact ⟨⟨Nat.le_refl _, Nat.le_refl _⟩, Wk.refl _⟩
theorem tu_1 (n d : List Int) (wn : trim n = n) (wd : trim d = d) (ln : n.length ≤ 16) (ld : d.length ≤ 16) (h : 0 < n.length) (h' : 0 < d.length) : SpecG Try.prog 107 [RA false n d] [] (.agg [.sc (.bool true), .hs 1000000 1 0 n.length 1, .hs 1000001 1 0 d.length 1]) [(1, n.map u32), (1, d.map u32)] := by
  have g1 := g_Trim n (by omega) (by rw [wn]; intro e; rw [e] at h; exact absurd h (by decide))
  have g2 := g_Trim d (by omega) (by rw [wd]; intro e; rw [e] at h'; exact absurd h' (by decide))
  rw [wn] at g1
  rw [wd] at g2
  refine specG_of_awp mixed Try.func107 rfl Try.call107 (by kernel_rfl) (by simp) rfl rfl (by simp) ?_
  refine T ?_
  refine dcall_g [] false g1 trivial rfl (by simp) (by simp [pOf]) rfl rfl rfl nofun ?_
  refine T ?_
  refine dcall_g [] false g2 trivial rfl (by simp) (by simp [pOf]) rfl rfl rfl nofun ?_
  refine T (r_retG [(14, 1), (17, 1)] (by simp) ?_ ?_)
  · trivial
  rw [Try.results107]
  refine RG ?_
  exact ⟨⟨Nat.le_refl _, Nat.le_refl _⟩, Wk.refl _⟩
theorem tu_2 (n d : List Int) (wn : trim n = n) (wd : trim d = d) (ln : n.length ≤ 16) (ld : d.length ≤ 16) (h : 0 < n.length) (h' : 0 < d.length) : SpecG Try.prog 107 [RA true n d] [] (.agg [.sc (.bool false), .hs 1000000 1 0 n.length 1, .hs 1000001 1 0 d.length 1]) [(1, n.map u32), (1, d.map u32)] := by
  have g1 := g_Trim n (by omega) (by rw [wn]; intro e; rw [e] at h; exact absurd h (by decide))
  have g2 := g_Trim d (by omega) (by rw [wd]; intro e; rw [e] at h'; exact absurd h' (by decide))
  rw [wn] at g1
  rw [wd] at g2
  refine specG_of_awp mixed Try.func107 rfl Try.call107 (by kernel_rfl) (by simp) rfl rfl (by simp) ?_
  refine T ?_
  refine dcall_g [] false g1 trivial rfl (by simp) (by simp [pOf]) rfl rfl rfl nofun ?_
  refine T ?_
  refine dcall_g [] false g2 trivial rfl (by simp) (by simp [pOf]) rfl rfl rfl nofun ?_
  refine T (r_retG [(14, 1), (17, 1)] (by simp) ?_ ?_)
  · trivial
  rw [Try.results107]
  refine RG ?_
  exact ⟨⟨Nat.le_refl _, Nat.le_refl _⟩, Wk.refl _⟩
theorem tu_0 (d : List Int) (wd : trim d = d) (ld : d.length ≤ 16) (h' : 0 < d.length) : SpecG Try.prog 107 [RA false [] d] [] (.agg [.sc (.bool false), nilV, .hs 1000000 1 0 d.length 1]) [(1, d.map u32)] := by
  have g2 := g_Trim d (by omega) (by rw [wd]; intro e; rw [e] at h'; exact absurd h' (by decide))
  rw [wd] at g2
  refine specG_of_awp mixed Try.func107 rfl Try.call107 (by kernel_rfl) (by simp) rfl rfl (by simp) ?_
  refine T (dcall_by (n_Trim [] (by simp) rfl) ?_)
  refine T ?_
  refine dcall_g [] false g2 trivial rfl (by simp) (by simp [pOf]) rfl rfl rfl nofun ?_
  refine T (r_retG [(17, 1)] (by simp) ?_ ?_)
  · trivial
  rw [Try.results107]
  refine RG ?_
  exact ⟨Nat.le_refl _, Wk.refl _⟩
theorem g_rNeg (p : RT) (hp : RW p) : LimR 71 [RA p.1 p.2.1 p.2.2] (negR p) := by
  have hF := s_Form p.1 p.2.1 p.2.2 hp.wn hp.wd hp.ln hp.ld
  rw [show formB p.1 p.2.1 p.2.2 = formR p from rfl] at hF
  by_cases h : formR p = true
  · rw [h] at hF
    obtain ⟨a1, a2, a3, a4, a5, a6, _⟩ := form_len h
    rw [negR, if_pos h]
    obtain ⟨b, n, d⟩ := p
    simp only at *
    have en : N (val n) = n := by rw [← trim_N hp.wn]; exact a4
    have ed : N (val d) = d := by rw [← trim_N hp.wd]; exact a5
    have et : turnR (b, n, d) = (!b && decide (0 < n.length), n, d) := by simp only [turnR, en, ed]
    rw [et]
    by_cases h0 : n.length = 0
    · obtain rfl : n = [] := List.eq_nil_of_length_eq_zero h0
      have hb : b = false := by
        cases b with
        | false => rfl
        | true => exact absurd rfl (a6 rfl)
      subst hb
      refine .inr (.inl ⟨rfl, rfl, ?_⟩)
      show SpecG Try.prog _ _ [] (.tup [.agg [.sc (.bool false), nilV, .hs 1000000 1 0 d.length 1], .sc (.int .i64 0)]) [(1, d.map u32)]
      refine specG_of_awp mixed Try.func71 rfl Try.call71 (by kernel_rfl) (by simp) rfl rfl (by simp) ?_
      refine T (call_by hF ?_)
      refine T ?_
      refine call_g [] false (tu_0 d a5 a2 (by omega)) trivial rfl (by simp) (by simp [pOf]) rfl rfl rfl nofun ?_
      refine T (r_retG [(9, 1)] (by simp) ?_ ?_)
      · trivial
      rw [Try.results71]
      refine RG ?_
      exact ⟨Nat.le_refl _, Wk.refl _⟩
    · refine .inr (.inr ⟨rfl, ?_⟩)
      cases b with
      | false =>
        rw [show (!false && decide (0 < n.length)) = true by rw [decide_eq_true (by omega)]; rfl]
        refine specG_of_awp mixed Try.func71 rfl Try.call71 (by kernel_rfl) (by simp) rfl rfl (by simp) ?_
        refine T (call_by hF ?_)
        refine T ?_
        refine call_g [] false (tu_1 n d a4 a5 a1 a2 (by omega) (by omega)) trivial rfl (by simp) (by simp [pOf]) rfl rfl rfl nofun ?_
        refine T (r_retG [(9, 1), (3000009, 1)] (by simp) ?_ ?_)
        · trivial
        rw [Try.results71]
        refine RG ?_
        exact ⟨⟨Nat.le_refl _, Nat.le_refl _⟩, Wk.refl _⟩
      | true =>
        rw [show (!true && decide (0 < n.length)) = false from rfl]
        refine specG_of_awp mixed Try.func71 rfl Try.call71 (by kernel_rfl) (by simp) rfl rfl (by simp) ?_
        refine T (call_by hF ?_)
        refine T ?_
        refine call_g [] false (tu_2 n d a4 a5 a1 a2 (by omega) (by omega)) trivial rfl (by simp) (by simp [pOf]) rfl rfl rfl nofun ?_
        refine T (r_retG [(9, 1), (3000009, 1)] (by simp) ?_ ?_)
        · trivial
        rw [Try.results71]
        refine RG ?_
        exact ⟨⟨Nat.le_refl _, Nat.le_refl _⟩, Wk.refl _⟩
  · rw [Bool.eq_false_iff.2 h] at hF
    rw [negR, if_neg h]
    refine .inl ⟨(by decide : (20 : Int) ≠ 0), rfl, ?_⟩
    refine spec_of_awp mixed Try.func71 rfl Try.call71 (by kernel_rfl) (by simp) rfl ?_
    refine T (call_by hF ?_)
    refine T (r_ret ?_)
    rw [Try.results71]
    refine R ?_
    exact Wk.refl _
end Go.Ab
end
