import Derived.Test.YtiamjfckgmnijaaDoorFtFt14
set_option linter.all false
section
namespace Go.Ab
open Go Go.Proofs Go.RowKit Go.Sort Go.Lib
set_option maxRecDepth 100000
set_option maxHeartbeats 4000000
theorem s_InfN : Spec Tryd.prog 41 [.sc (.int .i64 (-1))] (f64 18442240474082181120) := by
  refine spec_of_awp mixed Tryd.func41 rfl Tryd.call41 (by kernel_rfl) (by simp) rfl ?_
  refine T ?_
  refine call_x [.int .u64 (18442240474082181120 : Nat)] (x_frombits 18442240474082181120) rfl ?_
  refine T (r_ret ?_)
  rw [Tryd.results41]
  refine R ?_
  exact Wk.refl _
theorem fr_nan : Spec Tryd.prog 22 [.sc (.string ⟨#[110, 97, 110]⟩)] (.tup [f64 9221120237041090561, .sc (.int .i64 0)]) := by
  refine spec_of_awp mixed Tryd.func22 rfl Tryd.call22 (by kernel_rfl) (by simp) rfl ?_
  refine T ?_
  rw [sb_eql', show ((⟨#[110, 97, 110]⟩ : ByteArray).toList == (⟨#[110, 97, 110]⟩ : ByteArray).toList) = true by (simp only [Go.ByteArray.toList_eq]; rfl), Option.map_some]
  refine T (call_by s_NaN ?_)
  refine T (r_ret ?_)
  rw [Tryd.results22]
  refine R ?_
  exact Wk.refl _
theorem qr_nan : Spec Tryd.prog 23 [.sc (.string ⟨#[110, 97, 110]⟩)] (.tup [u64 9221120237041090561, .sc (.int .i64 0)]) := by
  refine spec_of_awp mixed Tryd.func23 rfl Tryd.call23 (by kernel_rfl) (by simp) rfl ?_
  refine T ?_
  rw [sb_eql', show ((⟨#[110, 97, 110]⟩ : ByteArray).toList == (⟨#[110, 97, 110]⟩ : ByteArray).toList) = true by (simp only [Go.ByteArray.toList_eq]; rfl), Option.map_some]
  refine T (r_ret ?_)
  rw [Tryd.results23]
  refine R ?_
  exact Wk.refl _
theorem fr_pinf : Spec Tryd.prog 22 [.sc (.string ⟨#[43, 105, 110, 102]⟩)] (.tup [f64 9218868437227405312, .sc (.int .i64 0)]) := by
  refine spec_of_awp mixed Tryd.func22 rfl Tryd.call22 (by kernel_rfl) (by simp) rfl ?_
  refine T ?_
  rw [sb_eql', show ((⟨#[43, 105, 110, 102]⟩ : ByteArray).toList == (⟨#[110, 97, 110]⟩ : ByteArray).toList) = false by (simp only [Go.ByteArray.toList_eq]; rfl), Option.map_some]
  refine T ?_
  rw [sb_eql', show ((⟨#[43, 105, 110, 102]⟩ : ByteArray).toList == (⟨#[43, 105, 110, 102]⟩ : ByteArray).toList) = true by (simp only [Go.ByteArray.toList_eq]; rfl), Option.map_some]
  refine T (call_by s_Inf1 ?_)
  refine T (r_ret ?_)
  rw [Tryd.results22]
  refine R ?_
  exact Wk.refl _
theorem qr_pinf : Spec Tryd.prog 23 [.sc (.string ⟨#[43, 105, 110, 102]⟩)] (.tup [u64 9218868437227405312, .sc (.int .i64 0)]) := by
  refine spec_of_awp mixed Tryd.func23 rfl Tryd.call23 (by kernel_rfl) (by simp) rfl ?_
  refine T ?_
  rw [sb_eql', show ((⟨#[43, 105, 110, 102]⟩ : ByteArray).toList == (⟨#[110, 97, 110]⟩ : ByteArray).toList) = false by (simp only [Go.ByteArray.toList_eq]; rfl), Option.map_some]
  refine T ?_
  rw [sb_eql', show ((⟨#[43, 105, 110, 102]⟩ : ByteArray).toList == (⟨#[43, 105, 110, 102]⟩ : ByteArray).toList) = true by (simp only [Go.ByteArray.toList_eq]; rfl), Option.map_some]
  refine T (r_ret ?_)
  rw [Tryd.results23]
  refine R ?_
  exact Wk.refl _
theorem fr_ninf : Spec Tryd.prog 22 [.sc (.string ⟨#[45, 105, 110, 102]⟩)] (.tup [f64 18442240474082181120, .sc (.int .i64 0)]) := by
  refine spec_of_awp mixed Tryd.func22 rfl Tryd.call22 (by kernel_rfl) (by simp) rfl ?_
  refine T ?_
  rw [sb_eql', show ((⟨#[45, 105, 110, 102]⟩ : ByteArray).toList == (⟨#[110, 97, 110]⟩ : ByteArray).toList) = false by (simp only [Go.ByteArray.toList_eq]; rfl), Option.map_some]
  refine T ?_
  rw [sb_eql', show ((⟨#[45, 105, 110, 102]⟩ : ByteArray).toList == (⟨#[43, 105, 110, 102]⟩ : ByteArray).toList) = false by (simp only [Go.ByteArray.toList_eq]; rfl), Option.map_some]
  refine T ?_
  rw [sb_eql', show ((⟨#[45, 105, 110, 102]⟩ : ByteArray).toList == (⟨#[45, 105, 110, 102]⟩ : ByteArray).toList) = true by (simp only [Go.ByteArray.toList_eq]; rfl), Option.map_some]
  refine T (call_by s_InfN ?_)
  refine T (r_ret ?_)
  rw [Tryd.results22]
  refine R ?_
  exact Wk.refl _
theorem qr_ninf : Spec Tryd.prog 23 [.sc (.string ⟨#[45, 105, 110, 102]⟩)] (.tup [u64 18442240474082181120, .sc (.int .i64 0)]) := by
  refine spec_of_awp mixed Tryd.func23 rfl Tryd.call23 (by kernel_rfl) (by simp) rfl ?_
  refine T ?_
  rw [sb_eql', show ((⟨#[45, 105, 110, 102]⟩ : ByteArray).toList == (⟨#[110, 97, 110]⟩ : ByteArray).toList) = false by (simp only [Go.ByteArray.toList_eq]; rfl), Option.map_some]
  refine T ?_
  rw [sb_eql', show ((⟨#[45, 105, 110, 102]⟩ : ByteArray).toList == (⟨#[43, 105, 110, 102]⟩ : ByteArray).toList) = false by (simp only [Go.ByteArray.toList_eq]; rfl), Option.map_some]
  refine T ?_
  rw [sb_eql', show ((⟨#[45, 105, 110, 102]⟩ : ByteArray).toList == (⟨#[45, 105, 110, 102]⟩ : ByteArray).toList) = true by (simp only [Go.ByteArray.toList_eq]; rfl), Option.map_some]
  refine T (r_ret ?_)
  rw [Tryd.results23]
  refine R ?_
  exact Wk.refl _
end Go.Ab
end
