import Derived.Test.YtgffficaoioljaaRbOd
import Derived.Test.YtgffficaoioljaaRbL
set_option linter.all false
section
namespace Go.Ab
open Go Go.Proofs Go.Proofs.Ytgffficaoioljaa.Pl
set_option maxRecDepth 100000
set_option maxHeartbeats 8000000
abbrev nilV : AV := .sc (.slice none 0 0)
def LimR (F : FuncId) (xs : List AV) (p : (Bool × List Int × List Int) × Int) : Prop :=
  (p.2 ≠ 0 ∧ p.1 = (false, [], []) ∧ Spec Try.prog F xs (.tup [.agg [.sc (.bool false), nilV, nilV], .sc (.int .i64 p.2)])) ∨
  (p.2 = 0 ∧ p.1.2.1 = [] ∧ SpecG Try.prog F xs [] (.tup [.agg [.sc (.bool p.1.1), nilV, .hs 1000000 1 0 p.1.2.2.length 1], .sc (.int .i64 0)]) [(1, p.1.2.2.map u32)]) ∨
  (p.2 = 0 ∧ SpecG Try.prog F xs [] (.tup [.agg [.sc (.bool p.1.1), .hs 1000000 1 0 p.1.2.1.length 1, .hs 1000001 1 0 p.1.2.2.length 1], .sc (.int .i64 0)]) [(1, p.1.2.1.map u32), (1, p.1.2.2.map u32)])
theorem bare_u32 (l : List Int) : (l.map u32).all AV.bare = true := by simp [AV.bare]
theorem mk_e (b : Bool) (n d : List Int) (hn : Wf n) (hd : Wf d) (ln : n.length ≤ 900000000) (ld : d.length ≤ 900000000) (hv : val d = 0) : Spec Try.prog 48 [.sc (.bool b), U n, U d] (.tup [.agg [.sc (.bool false), nilV, nilV], .sc (.int .i64 10)]) := by
  have ln' := trim_len n
  have ld' := trim_len d
  refine spec_of_awp mixed Try.func48 rfl Try.call48 (by kernel_rfl) (by simp) rfl ?_
  refine T (call_by (s_Trim n (by omega)) ?_)
  refine T (call_by (s_Trim d (by omega)) ?_)
  rw [trim_N hn, trim_N hd]
  rw [hv, N_zero]
  refine T (r_ret ?_)
  rw [Try.results48]
  refine R ?_
  exact Wk.refl _
theorem mk_z (b : Bool) (n d : List Int) (hn : Wf n) (hd : Wf d) (ln : n.length ≤ 900000000) (ld : d.length ≤ 900000000) (hv : 0 < (N (val d)).length) (hu : val n = 0) : SpecG Try.prog 48 [.sc (.bool b), U n, U d] [] (.tup [.agg [.sc (.bool false), nilV, .hs 1000000 1 0 1 1], .sc (.int .i64 0)]) [(1, [u32 1])] := by
  have ln' := trim_len n
  have ld' := trim_len d
  rw [trim_N hn] at ln'
  rw [trim_N hd] at ld'
  refine specG_of_awp mixed Try.func48 rfl Try.call48 (by kernel_rfl) (by simp) rfl rfl (by simp) ?_
  refine T (call_by (s_Trim n (by omega)) ?_)
  refine T (call_by (s_Trim d (by omega)) ?_)
  rw [trim_N hn, trim_N hd]
  rw [hu, N_zero]
  refine T (r_retG [(22, 1)] (by simp) ?_ ?_)
  · trivial
  rw [Try.results48]
  refine RG ?_
  exact Wk.refl _
theorem mk_1 (b : Bool) (n d : List Int) (hn : Wf n) (hd : Wf d) (ln : n.length ≤ 900000000) (ld : d.length ≤ 900000000) (u v g : Int) (eu : val n = u) (ev : val d = v) (u0 : 0 ≤ u) (v0 : 0 ≤ v) (up : 0 < (N u).length) (vp : 0 < (N v).length) (lu : (N u).length ≤ 900000000) (lv : (N v).length ≤ 900000000) (gl : (N g).length ≤ 900000000) (g0 : 0 < g) (eg : ((Int.gcd u v : Nat) : Int) = g) (h1 : N g = [1]) (k1 : (N u).length ≤ 16) (k2 : (N v).length ≤ 16) : SpecG Try.prog 48 [.sc (.bool b), U n, U d] [] (.tup [.agg [.sc (.bool b), .hs 1000000 1 0 (N (u)).length 1, .hs 1000001 1 0 (N (v)).length 1], .sc (.int .i64 0)]) [(1, (N (u)).map u32), (1, (N (v)).map u32)] := by
  have TN := g_Trim n (by omega) (by rw [trim_N hn, eu]; intro h; rw [h] at up; exact absurd up (by decide))
  have TD := g_Trim d (by omega) (by rw [trim_N hd, ev]; intro h; rw [h] at vp; exact absurd vp (by decide))
  rw [trim_N hn, eu] at TN
  rw [trim_N hd, ev] at TD
  have GG := g_Gcd (N u) (N v) (N_wf u) (N_wf v) (by omega) (by omega) (by rw [N_val u0, N_val v0]; omega)
  rw [N_val u0, N_val v0, eg] at GG
  refine specG_of_awp mixed Try.func48 rfl Try.call48 (by kernel_rfl) (by simp) rfl rfl (by simp) ?_
  refine T ?_
  refine call_g [] false (TN) trivial rfl (by simp) (by simp [pOf]) rfl rfl rfl nofun ?_
  refine T ?_
  refine call_g [] false (TD) trivial rfl (by simp) (by simp [pOf]) rfl rfl rfl nofun ?_
  refine T ?_
  refine call_g [] true (GG) trivial (frzGL_row (g := 1) (st := 2) (N u) [] (by rw [List.append_nil]; exact Hv) (by decide) rfl (frzGL_row (g := 1) (st := 2) (N v) [] (by rw [List.append_nil]; exact Hv) (by decide) rfl rfl)) (by simp) (by simp [pOf]) rfl rfl rfl (fun _ => ⟨rfl, by simp [AV.bare]⟩) ?_
  refine T (call_by (s_one (N g) (by omega)) ?_)
  rw [decide_eq_true h1]
  refine T (r_retG [(12, 1), (14, 1)] (by simp) ?_ ?_)
  · trivial
  rw [Try.results48]
  refine RG ?_
  exact ⟨⟨Nat.le_refl _, Nat.le_refl _⟩, Wk.refl _⟩
theorem mk_1a (b : Bool) (n d : List Int) (hn : Wf n) (hd : Wf d) (ln : n.length ≤ 900000000) (ld : d.length ≤ 900000000) (u v g : Int) (eu : val n = u) (ev : val d = v) (u0 : 0 ≤ u) (v0 : 0 ≤ v) (up : 0 < (N u).length) (vp : 0 < (N v).length) (lu : (N u).length ≤ 900000000) (lv : (N v).length ≤ 900000000) (gl : (N g).length ≤ 900000000) (g0 : 0 < g) (eg : ((Int.gcd u v : Nat) : Int) = g) (h1 : N g = [1]) (k : ¬ (N u).length ≤ 16) : Spec Try.prog 48 [.sc (.bool b), U n, U d] (.tup [.agg [.sc (.bool false), nilV, nilV], .sc (.int .i64 4)]) := by
  have ln' := trim_len n
  have ld' := trim_len d
  refine spec_of_awp mixed Try.func48 rfl Try.call48 (by kernel_rfl) (by simp) rfl ?_
  refine T (call_by (s_Trim n (by omega)) ?_)
  refine T (call_by (s_Trim d (by omega)) ?_)
  rw [trim_N hn, trim_N hd]
  rw [eu, ev]
  refine T (call_by (s_Gcd (N u) (N v) (N_wf u) (N_wf v) (by omega) (by omega)) ?_)
  rw [N_val u0, N_val v0, eg]
  refine T (call_by (s_one (N g) (by omega)) ?_)
  rw [decide_eq_true h1]
  refine T (r_ret ?_)
  rw [Try.results48]
  refine R ?_
  exact Wk.refl _
theorem mk_1b (b : Bool) (n d : List Int) (hn : Wf n) (hd : Wf d) (ln : n.length ≤ 900000000) (ld : d.length ≤ 900000000) (u v g : Int) (eu : val n = u) (ev : val d = v) (u0 : 0 ≤ u) (v0 : 0 ≤ v) (up : 0 < (N u).length) (vp : 0 < (N v).length) (lu : (N u).length ≤ 900000000) (lv : (N v).length ≤ 900000000) (gl : (N g).length ≤ 900000000) (g0 : 0 < g) (eg : ((Int.gcd u v : Nat) : Int) = g) (h1 : N g = [1]) (k1 : (N u).length ≤ 16) (k : ¬ (N v).length ≤ 16) : Spec Try.prog 48 [.sc (.bool b), U n, U d] (.tup [.agg [.sc (.bool false), nilV, nilV], .sc (.int .i64 4)]) := by
  have ln' := trim_len n
  have ld' := trim_len d
  refine spec_of_awp mixed Try.func48 rfl Try.call48 (by kernel_rfl) (by simp) rfl ?_
  refine T (call_by (s_Trim n (by omega)) ?_)
  refine T (call_by (s_Trim d (by omega)) ?_)
  rw [trim_N hn, trim_N hd]
  rw [eu, ev]
  refine T (call_by (s_Gcd (N u) (N v) (N_wf u) (N_wf v) (by omega) (by omega)) ?_)
  rw [N_val u0, N_val v0, eg]
  refine T (call_by (s_one (N g) (by omega)) ?_)
  rw [decide_eq_true h1]
  refine T (r_ret ?_)
  rw [Try.results48]
  refine R ?_
  exact Wk.refl _
theorem mk_q2 (b : Bool) (n d : List Int) (hn : Wf n) (hd : Wf d) (ln : n.length ≤ 900000000) (ld : d.length ≤ 900000000) (u v g : Int) (eu : val n = u) (ev : val d = v) (u0 : 0 ≤ u) (v0 : 0 ≤ v) (up : 0 < (N u).length) (vp : 0 < (N v).length) (lu : (N u).length ≤ 900000000) (lv : (N v).length ≤ 900000000) (gl : (N g).length ≤ 900000000) (g0 : 0 < g) (eg : ((Int.gcd u v : Nat) : Int) = g) (g1 : N g ≠ [1]) (gu : g ≤ u) (gv : g ≤ v) (du : u % g = 0) (dv : v % g = 0) (ht : (trim (N g)).length = 1) (k1 : (N (u / g)).length ≤ 16) (k2 : (N (v / g)).length ≤ 16) : SpecG Try.prog 48 [.sc (.bool b), U n, U d] [] (.tup [.agg [.sc (.bool b), .hs 1000000 1 0 (N (u / g)).length 1, .hs 1000001 1 0 (N (v / g)).length 1], .sc (.int .i64 0)]) [(1, (N (u / g)).map u32), (1, (N (v / g)).map u32)] := by
  have TN := g_Trim n (by omega) (by rw [trim_N hn, eu]; intro h; rw [h] at up; exact absurd up (by decide))
  have TD := g_Trim d (by omega) (by rw [trim_N hd, ev]; intro h; rw [h] at vp; exact absurd vp (by decide))
  rw [trim_N hn, eu] at TN
  rw [trim_N hd, ev] at TD
  have GG := g_Gcd (N u) (N v) (N_wf u) (N_wf v) (by omega) (by omega) (by rw [N_val u0, N_val v0]; omega)
  rw [N_val u0, N_val v0, eg] at GG
  have Qu := g_QR2 (N u) (N g) (N_wf u) (N_wf g) (by omega) (by omega) (by rw [N_val (Int.le_of_lt g0)]; omega) (by rw [N_val u0, N_val (Int.le_of_lt g0)]; omega) ht
  rw [N_val u0, N_val (Int.le_of_lt g0)] at Qu
  have Qv := g_QR2 (N v) (N g) (N_wf v) (N_wf g) (by omega) (by omega) (by rw [N_val (Int.le_of_lt g0)]; omega) (by rw [N_val v0, N_val (Int.le_of_lt g0)]; omega) ht
  rw [N_val v0, N_val (Int.le_of_lt g0)] at Qv
  refine specG_of_awp mixed Try.func48 rfl Try.call48 (by kernel_rfl) (by simp) rfl rfl (by simp) ?_
  refine T ?_
  refine call_g [] false (TN) trivial rfl (by simp) (by simp [pOf]) rfl rfl rfl nofun ?_
  refine T ?_
  refine call_g [] false (TD) trivial rfl (by simp) (by simp [pOf]) rfl rfl rfl nofun ?_
  refine T ?_
  refine call_g [] true (GG) trivial (frzGL_row (g := 1) (st := 2) (N u) [] (by rw [List.append_nil]; exact Hv) (by decide) rfl (frzGL_row (g := 1) (st := 2) (N v) [] (by rw [List.append_nil]; exact Hv) (by decide) rfl rfl)) (by simp) (by simp [pOf]) rfl rfl rfl (fun _ => ⟨rfl, by simp [AV.bare]⟩) ?_
  refine T (call_by (s_one (N g) (by omega)) ?_)
  rw [decide_eq_false g1]
  refine T ?_
  refine call_g [] false (Qu) trivial (frzGL_row (g := 1) (st := 2) (N u) [] (by rw [List.append_nil]; exact Hv) (by decide) rfl (frzGL_row (g := 1) (st := 1) (N g) [] (by rw [List.append_nil]; exact Hv) (by decide) rfl rfl)) (by simp) (by simp [pOf]) rfl rfl rfl nofun ?_
  refine T ?_
  refine call_g [] false (Qv) trivial (frzGL_row (g := 1) (st := 2) (N v) [] (by rw [List.append_nil]; exact Hv) (by decide) rfl (frzGL_row (g := 1) (st := 1) (N g) [] (by rw [List.append_nil]; exact Hv) (by decide) rfl rfl)) (by simp) (by simp [pOf]) rfl rfl rfl nofun ?_
  refine T (r_retG [(33, 1), (39, 1)] (by simp) ?_ ?_)
  · trivial
  rw [Try.results48]
  refine RG ?_
  exact ⟨⟨Nat.le_refl _, Nat.le_refl _⟩, Wk.refl _⟩
theorem mk_q4 (b : Bool) (n d : List Int) (hn : Wf n) (hd : Wf d) (ln : n.length ≤ 900000000) (ld : d.length ≤ 900000000) (u v g : Int) (eu : val n = u) (ev : val d = v) (u0 : 0 ≤ u) (v0 : 0 ≤ v) (up : 0 < (N u).length) (vp : 0 < (N v).length) (lu : (N u).length ≤ 900000000) (lv : (N v).length ≤ 900000000) (gl : (N g).length ≤ 900000000) (g0 : 0 < g) (eg : ((Int.gcd u v : Nat) : Int) = g) (g1 : N g ≠ [1]) (gu : g ≤ u) (gv : g ≤ v) (du : u % g = 0) (dv : v % g = 0) (ht : (trim (N g)).length ≠ 1) (k1 : (N (u / g)).length ≤ 16) (k2 : (N (v / g)).length ≤ 16) : SpecG Try.prog 48 [.sc (.bool b), U n, U d] [] (.tup [.agg [.sc (.bool b), .hs 1000000 1 0 (N (u / g)).length 1, .hs 1000001 1 0 (N (v / g)).length 1], .sc (.int .i64 0)]) [(1, (N (u / g)).map u32), (1, (N (v / g)).map u32)] := by
  have TN := g_Trim n (by omega) (by rw [trim_N hn, eu]; intro h; rw [h] at up; exact absurd up (by decide))
  have TD := g_Trim d (by omega) (by rw [trim_N hd, ev]; intro h; rw [h] at vp; exact absurd vp (by decide))
  rw [trim_N hn, eu] at TN
  rw [trim_N hd, ev] at TD
  have GG := g_Gcd (N u) (N v) (N_wf u) (N_wf v) (by omega) (by omega) (by rw [N_val u0, N_val v0]; omega)
  rw [N_val u0, N_val v0, eg] at GG
  have Qu := g_QR4 (N u) (N g) (N_wf u) (N_wf g) (by omega) (by omega) (by rw [N_val (Int.le_of_lt g0)]; omega) (by rw [N_val u0, N_val (Int.le_of_lt g0)]; omega) ht (by rw [N_val u0, N_val (Int.le_of_lt g0)]; exact du)
  rw [N_val u0, N_val (Int.le_of_lt g0)] at Qu
  have Qv := g_QR4 (N v) (N g) (N_wf v) (N_wf g) (by omega) (by omega) (by rw [N_val (Int.le_of_lt g0)]; omega) (by rw [N_val v0, N_val (Int.le_of_lt g0)]; omega) ht (by rw [N_val v0, N_val (Int.le_of_lt g0)]; exact dv)
  rw [N_val v0, N_val (Int.le_of_lt g0)] at Qv
  refine specG_of_awp mixed Try.func48 rfl Try.call48 (by kernel_rfl) (by simp) rfl rfl (by simp) ?_
  refine T ?_
  refine call_g [] false (TN) trivial rfl (by simp) (by simp [pOf]) rfl rfl rfl nofun ?_
  refine T ?_
  refine call_g [] false (TD) trivial rfl (by simp) (by simp [pOf]) rfl rfl rfl nofun ?_
  refine T ?_
  refine call_g [] true (GG) trivial (frzGL_row (g := 1) (st := 2) (N u) [] (by rw [List.append_nil]; exact Hv) (by decide) rfl (frzGL_row (g := 1) (st := 2) (N v) [] (by rw [List.append_nil]; exact Hv) (by decide) rfl rfl)) (by simp) (by simp [pOf]) rfl rfl rfl (fun _ => ⟨rfl, by simp [AV.bare]⟩) ?_
  refine T (call_by (s_one (N g) (by omega)) ?_)
  rw [decide_eq_false g1]
  refine T ?_
  refine call_g [] false (Qu) trivial (frzGL_row (g := 1) (st := 2) (N u) [] (by rw [List.append_nil]; exact Hv) (by decide) rfl (frzGL_row (g := 1) (st := 1) (N g) [] (by rw [List.append_nil]; exact Hv) (by decide) rfl rfl)) (by simp) (by simp [pOf]) rfl rfl rfl nofun ?_
  refine T ?_
  refine call_g [] false (Qv) trivial (frzGL_row (g := 1) (st := 2) (N v) [] (by rw [List.append_nil]; exact Hv) (by decide) rfl (frzGL_row (g := 1) (st := 1) (N g) [] (by rw [List.append_nil]; exact Hv) (by decide) rfl rfl)) (by simp) (by simp [pOf]) rfl rfl rfl nofun ?_
  refine T (r_retG [(33, 1), (39, 1)] (by simp) ?_ ?_)
  · trivial
  rw [Try.results48]
  refine RG ?_
  exact ⟨⟨Nat.le_refl _, Nat.le_refl _⟩, Wk.refl _⟩
theorem mk_qa (b : Bool) (n d : List Int) (hn : Wf n) (hd : Wf d) (ln : n.length ≤ 900000000) (ld : d.length ≤ 900000000) (u v g : Int) (eu : val n = u) (ev : val d = v) (u0 : 0 ≤ u) (v0 : 0 ≤ v) (up : 0 < (N u).length) (vp : 0 < (N v).length) (lu : (N u).length ≤ 900000000) (lv : (N v).length ≤ 900000000) (gl : (N g).length ≤ 900000000) (g0 : 0 < g) (eg : ((Int.gcd u v : Nat) : Int) = g) (g1 : N g ≠ [1]) (gu : g ≤ u) (gv : g ≤ v) (du : u % g = 0) (dv : v % g = 0) (k : ¬ (N (u / g)).length ≤ 16) : Spec Try.prog 48 [.sc (.bool b), U n, U d] (.tup [.agg [.sc (.bool false), nilV, nilV], .sc (.int .i64 4)]) := by
  have ln' := trim_len n
  have ld' := trim_len d
  refine spec_of_awp mixed Try.func48 rfl Try.call48 (by kernel_rfl) (by simp) rfl ?_
  refine T (call_by (s_Trim n (by omega)) ?_)
  refine T (call_by (s_Trim d (by omega)) ?_)
  rw [trim_N hn, trim_N hd]
  rw [eu, ev]
  refine T (call_by (s_Gcd (N u) (N v) (N_wf u) (N_wf v) (by omega) (by omega)) ?_)
  rw [N_val u0, N_val v0, eg]
  refine T (call_by (s_one (N g) (by omega)) ?_)
  rw [decide_eq_false g1]
  refine T (call_by (s_QuoRem (N u) (N g) (N_wf u) (N_wf g) (by omega) (by omega) (by rw [N_val (Int.le_of_lt g0)]; omega)) ?_)
  rw [N_val u0, N_val (Int.le_of_lt g0)]
  refine T (call_by (s_QuoRem (N v) (N g) (N_wf v) (N_wf g) (by omega) (by omega) (by rw [N_val (Int.le_of_lt g0)]; omega)) ?_)
  rw [N_val v0, N_val (Int.le_of_lt g0)]
  refine T (r_ret ?_)
  rw [Try.results48]
  refine R ?_
  exact Wk.refl _
theorem mk_qb (b : Bool) (n d : List Int) (hn : Wf n) (hd : Wf d) (ln : n.length ≤ 900000000) (ld : d.length ≤ 900000000) (u v g : Int) (eu : val n = u) (ev : val d = v) (u0 : 0 ≤ u) (v0 : 0 ≤ v) (up : 0 < (N u).length) (vp : 0 < (N v).length) (lu : (N u).length ≤ 900000000) (lv : (N v).length ≤ 900000000) (gl : (N g).length ≤ 900000000) (g0 : 0 < g) (eg : ((Int.gcd u v : Nat) : Int) = g) (g1 : N g ≠ [1]) (gu : g ≤ u) (gv : g ≤ v) (du : u % g = 0) (dv : v % g = 0) (k1 : (N (u / g)).length ≤ 16) (k : ¬ (N (v / g)).length ≤ 16) : Spec Try.prog 48 [.sc (.bool b), U n, U d] (.tup [.agg [.sc (.bool false), nilV, nilV], .sc (.int .i64 4)]) := by
  have ln' := trim_len n
  have ld' := trim_len d
  refine spec_of_awp mixed Try.func48 rfl Try.call48 (by kernel_rfl) (by simp) rfl ?_
  refine T (call_by (s_Trim n (by omega)) ?_)
  refine T (call_by (s_Trim d (by omega)) ?_)
  rw [trim_N hn, trim_N hd]
  rw [eu, ev]
  refine T (call_by (s_Gcd (N u) (N v) (N_wf u) (N_wf v) (by omega) (by omega)) ?_)
  rw [N_val u0, N_val v0, eg]
  refine T (call_by (s_one (N g) (by omega)) ?_)
  rw [decide_eq_false g1]
  refine T (call_by (s_QuoRem (N u) (N g) (N_wf u) (N_wf g) (by omega) (by omega) (by rw [N_val (Int.le_of_lt g0)]; omega)) ?_)
  rw [N_val u0, N_val (Int.le_of_lt g0)]
  refine T (call_by (s_QuoRem (N v) (N g) (N_wf v) (N_wf g) (by omega) (by omega) (by rw [N_val (Int.le_of_lt g0)]; omega)) ?_)
  rw [N_val v0, N_val (Int.le_of_lt g0)]
  refine T (r_ret ?_)
  rw [Try.results48]
  refine R ?_
  exact Wk.refl _
theorem g_Make (b : Bool) (n d : List Int) (hn : Wf n) (hd : Wf d) (ln : n.length ≤ 900000000) (ld : d.length ≤ 900000000) : LimR 48 [.sc (.bool b), U n, U d] (mkR b (val n) (val d)) := by
  have ln' := trim_len n
  have ld' := trim_len d
  rw [trim_N hn] at ln'
  rw [trim_N hd] at ld'
  have u0 := val_nonneg hn
  have v0 := val_nonneg hd
  by_cases hv : val d = 0
  · rw [mkR, if_pos hv]
    exact .inl ⟨(by decide : (10 : Int) ≠ 0), rfl, mk_e b n d hn hd ln ld hv⟩
  have vp := N_pos (show 0 < val d by omega)
  by_cases hu : val n = 0
  · rw [mkR, if_neg hv, if_pos hu]
    exact .inr (.inl ⟨rfl, rfl, mk_z b n d hn hd ln ld vp hu⟩)
  have up := N_pos (show 0 < val n by omega)
  have g0 : (0 : Int) ≤ (Int.gcd (val n) (val d) : Nat) := Int.natCast_nonneg _
  have gv : ((Int.gcd (val n) (val d) : Nat) : Int) ≤ val d := Int.le_of_dvd (by omega) (Int.gcd_dvd_right ..)
  have gu : ((Int.gcd (val n) (val d) : Nat) : Int) ≤ val n := Int.le_of_dvd (by omega) (Int.gcd_dvd_left ..)
  have du := Int.emod_eq_zero_of_dvd (Int.gcd_dvd_left (a := val n) (b := val d))
  have dv := Int.emod_eq_zero_of_dvd (Int.gcd_dvd_right (a := val n) (b := val d))
  have gp : (0 : Int) < (Int.gcd (val n) (val d) : Nat) := by
    have := Int.gcd_pos_of_ne_zero_left (val d) hu
    omega
  have gl := N_len g0 gv
  rw [mkR, if_neg hv, if_neg hu]
  generalize eg : ((Int.gcd (val n) (val d) : Nat) : Int) = g at *
  by_cases h1 : N g = [1]
  · have hg : g = 1 := (N_eq_one g0).1 h1
    by_cases k1 : (N (val n)).length ≤ 16
    · by_cases k2 : (N (val d)).length ≤ 16
      · have := mk_1 b n d hn hd ln ld _ _ g rfl rfl u0 v0 up vp (by omega) (by omega) (by omega) gp eg h1 k1 k2
        rw [hg, Int.ediv_one, Int.ediv_one, if_pos ⟨k1, k2⟩]
        exact .inr (.inr ⟨rfl, this⟩)
      · have := mk_1b b n d hn hd ln ld _ _ g rfl rfl u0 v0 up vp (by omega) (by omega) (by omega) gp eg h1 k1 k2
        rw [hg, Int.ediv_one, Int.ediv_one, if_neg (fun h => k2 h.2)]
        exact .inl ⟨(by decide : (4 : Int) ≠ 0), rfl, this⟩
    · have := mk_1a b n d hn hd ln ld _ _ g rfl rfl u0 v0 up vp (by omega) (by omega) (by omega) gp eg h1 k1
      rw [hg, Int.ediv_one, Int.ediv_one, if_neg (fun h => k1 h.1)]
      exact .inl ⟨(by decide : (4 : Int) ≠ 0), rfl, this⟩
  · by_cases k1 : (N (val n / g)).length ≤ 16
    · by_cases k2 : (N (val d / g)).length ≤ 16
      · rw [if_pos ⟨k1, k2⟩]
        by_cases ht : (trim (N g)).length = 1
        · exact .inr (.inr ⟨rfl, mk_q2 b n d hn hd ln ld _ _ g rfl rfl u0 v0 up vp (by omega) (by omega) (by omega) gp eg h1 gu gv du dv ht k1 k2⟩)
        · exact .inr (.inr ⟨rfl, mk_q4 b n d hn hd ln ld _ _ g rfl rfl u0 v0 up vp (by omega) (by omega) (by omega) gp eg h1 gu gv du dv ht k1 k2⟩)
      · rw [if_neg (fun h => k2 h.2)]
        exact .inl ⟨(by decide : (4 : Int) ≠ 0), rfl, mk_qb b n d hn hd ln ld _ _ g rfl rfl u0 v0 up vp (by omega) (by omega) (by omega) gp eg h1 gu gv du dv k1 k2⟩
    · rw [if_neg (fun h => k1 h.1)]
      exact .inl ⟨(by decide : (4 : Int) ≠ 0), rfl, mk_qa b n d hn hd ln ld _ _ g rfl rfl u0 v0 up vp (by omega) (by omega) (by omega) gp eg h1 gu gv du dv k1⟩
end Go.Ab
end
