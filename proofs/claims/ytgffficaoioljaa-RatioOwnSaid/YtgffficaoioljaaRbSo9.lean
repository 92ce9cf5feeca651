import Derived.Test.YtgffficaoioljaaRbOa
import Derived.Test.YtgffficaoioljaaRbU
set_option linter.all false
section
namespace Go.Ab
open Go Go.Proofs Go.Proofs.Ytgffficaoioljaa.Pl
set_option maxRecDepth 100000
set_option maxHeartbeats 8000000
theorem g_Copy (b : Bool) (n d : List Int) (ln : n.length ≤ 35184372087900) (ld : d.length ≤ 35184372087900) : SpecG Try.prog 97 [RA b n d] [] (.agg [.sc (.bool b), .hs 1000000 1 0 n.length 1, .hs 1000001 1 0 d.length 1]) [(1, n.map u32), (1, d.map u32)] := by
  by_cases h1 : n.length = 0
  · obtain rfl : n = [] := List.eq_nil_of_length_eq_zero h1
    by_cases h2 : d.length = 0
    · obtain rfl : d = [] := List.eq_nil_of_length_eq_zero h2
      refine specG_of_awp mixed Try.func97 rfl Try.call97 (by kernel_rfl) (by simp) rfl rfl (by simp) ?_
      refine T ?_
      refine T (r_retG [(5, 1), (9, 1)] (by simp) ?_ ?_)
      · trivial
      rw [Try.results97]
      refine RG ?_
      exact Wk.refl _
    · skip
      refine specG_of_awp mixed Try.func97 rfl Try.call97 (by kernel_rfl) (by simp) rfl rfl (by simp) ?_
      refine T ?_
      refine T (r_retG [(5, 1), (9, 2)] (by simp) ?_ ?_)
      · trivial
      rw [Try.results97]
      refine RG ?_
      exact ⟨Nat.le_refl _, Wk.refl _⟩
  · by_cases h2 : d.length = 0
    · obtain rfl : d = [] := List.eq_nil_of_length_eq_zero h2
      refine specG_of_awp mixed Try.func97 rfl Try.call97 (by kernel_rfl) (by simp) rfl rfl (by simp) ?_
      refine T ?_
      refine T (r_retG [(5, 2), (9, 1)] (by simp) ?_ ?_)
      · trivial
      rw [Try.results97]
      refine RG ?_
      exact ⟨Nat.le_refl _, Wk.refl _⟩
    · skip
      refine specG_of_awp mixed Try.func97 rfl Try.call97 (by kernel_rfl) (by simp) rfl rfl (by simp) ?_
      refine T ?_
      refine T (r_retG [(5, 2), (9, 2)] (by simp) ?_ ?_)
      · trivial
      rw [Try.results97]
      refine RG ?_
      exact ⟨⟨Nat.le_refl _, Nat.le_refl _⟩, Wk.refl _⟩
theorem g_own2 (b : Bool) (n d : List Int) (ln : n.length ≤ 35184372087900) (ld : d.length ≤ 35184372087900) : SpecG Try.prog 51 [RA b n d] [] (.agg [.sc (.bool b), .hs 1000000 1 0 n.length 1, .hs 1000001 1 0 d.length 1]) [(1, n.map u32), (1, d.map u32)] := by
  refine specG_of_awp mixed Try.func51 rfl Try.call51 (by kernel_rfl) (by simp) rfl rfl (by simp) ?_
  refine T ?_
  refine call_g [] false (g_Copy b n d ln ld) trivial rfl (by simp) (by simp [pOf]) rfl rfl rfl nofun ?_
  refine T (r_retG [(4, 1), (3000004, 1)] (by simp) ?_ ?_)
  · trivial
  rw [Try.results51]
  refine RG ?_
  exact ⟨⟨Nat.le_refl _, Nat.le_refl _⟩, Wk.refl _⟩
theorem row2s (a : List Int) (x y : Int) : a.map u32 ++ [.sc (.int .u32 x), .sc (.int .u32 y)] = (a ++ [x, y]).map u32 := by
  rw [List.map_append]
  rfl
theorem g_roomy (b : Bool) (n d : List Int) (ln : n.length ≤ 35184372087820) (ld : d.length ≤ 35184372087820) : SpecG Try.prog 69 [RA b n d] [] (.agg [.sc (.bool b), .hs 1000000 1 0 n.length 1, .hs 1000001 1 0 d.length 1]) [(1, (n ++ [51, 52]).map u32), (1, (d ++ [53, 54]).map u32)] := by
  refine specG_of_awp mixed Try.func69 rfl Try.call69 (by kernel_rfl) (by simp) rfl rfl (by simp) ?_
  refine T ?_
  refine call_g [] false (g_own2 b n d (by omega) (by omega)) trivial rfl (by simp) (by simp [pOf]) rfl rfl rfl nofun ?_
  refine T (r_retG [(7, 2), (3000007, 2)] (by simp) ?_ ?_)
  · trivial
  rw [Try.results69]
  refine RG ?_
  refine ⟨⟨by simp, by simp⟩, Wk.refl _, by rw [row2s, List.take_of_length_le (by simp)], by rw [row2s, List.take_of_length_le (by simp)]⟩
end Go.Ab
end
