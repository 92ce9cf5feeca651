import Derived.Test.YtgffficaoioljaaRbSo7
import Derived.Test.YtgffficaoioljaaRbSr8
set_option linter.all false
section
namespace Go.Ab
open Go Go.Proofs Go.Proofs.Ytgffficaoioljaa.Pl
set_option maxRecDepth 100000
set_option maxHeartbeats 8000000
theorem g_fold (r p : RT) (l : List RT) (el : l = [p]) (hr : RM r) (hp : RW p) : LimR 105 [RA r.1 r.2.1 r.2.2, RS l, .sc (.bool true)] (foldL true r l) := by
  have hl : l.length = 1 := by rw [el]; rfl
  have hw : ∀ q ∈ l, RW q := by
    intro q hq
    rw [el] at hq
    obtain rfl := List.mem_singleton.1 hq
    exact hp
  have hFo := s_forms l (by omega) hw
  have e0 := rc_len l
  rw [foldL]
  cases hf : l.all formR with
  | false =>
    rw [hf] at hFo
    rw [if_neg (by decide)]
    refine .inl ⟨(by decide : (20 : Int) ≠ 0), rfl, ?_⟩
    refine spec_of_awp mixed Try.func105 rfl Try.call105 (by kernel_rfl) (by simp) rfl ?_
    refine T (call_by hFo ?_)
    refine T (r_ret ?_)
    rw [Try.results105]
    refine R ?_
    exact Wk.refl _
  | true =>
    rw [hf] at hFo
    rw [if_pos rfl]
    rw [List.all_eq_true] at hf
    have hi : 0 < l.length := by omega
    have e : l.flatMap rc = rc l[0] := by
      subst el
      simp
    have w := RM.of (hw _ (List.getElem_mem hi)) (hf _ (List.getElem_mem hi))
    have h := g_mul r.1 l[0].1 r.2.1 r.2.2 l[0].2.1 l[0].2.2 hr.wn hr.wd w.wn w.wd hr.ln hr.ld w.ln w.ld
    have ef : foldR true r l = if (mulR r l[0]).2 = 0 then ((mulR r l[0]).1, (0 : Int)) else ((false, [], []), (mulR r l[0]).2) := by
      have := foldR_drop (t := true) (r := r) (l := l) hi
      rw [List.drop_zero, List.drop_of_length_le (by omega)] at this
      rw [this]
      rfl
    rw [ef]
    rw [show mkR (r.1 != l[0].1) (val r.2.1 * val l[0].2.1) (val r.2.2 * val l[0].2.2) = mulR r l[0] from rfl] at h
    clear ef
    generalize mulR r l[0] = P at *
    rcases h with ⟨k1, k2, k3⟩ | ⟨k1, k2, k3⟩ | ⟨k1, k3⟩
    · rw [if_neg k1]
      refine .inl ⟨k1, rfl, ?_⟩
      refine spec_of_awp mixed Try.func105 rfl Try.call105 (by kernel_rfl) (by simp) rfl ?_
      refine T (call_by hFo ?_)
      refine T ?_
      refine w_loop (α := Nat) (fun _ => [(.t 2, .sc (.bool true)), (.t 3, .hp 3 1 0), (.h 3, rb r), (.t 6, .hp 6 1 0), (.h 6, .blk 1 2 [.sc (.bool false), .sc (.slice none 0 0), .sc (.slice none 0 0)]), (.t 15, RS l), (.t 16, .sc (.int .i64 (l.length : Int))), (.t 17, .sc (.int .i64 0)), (.h 25, .blk 0 0 []), (.h 3000025, .blk 0 0 [])]) (fun i => i = 0) (fun i => 0) 0 rfl ?_ ?_
      · exact Hv
      rintro i r' rfl J hJ
      refine T ?_
      simp only [e, rc]
      refine T (call_by k3 ?_)
      refine T (r_ret ?_)
      rw [Try.results105]
      refine R ?_
      exact Wk.refl _
    · rw [if_pos k1]
      refine .inr (.inl ⟨rfl, k2, ?_⟩)
      show SpecG Try.prog _ _ [] (.tup [.agg [.sc (.bool P.1.1), nilV, .hs 1000000 1 0 P.1.2.2.length 1], .sc (.int .i64 0)]) [(1, P.1.2.2.map u32)]
      refine specG_of_awp mixed Try.func105 rfl Try.call105 (by kernel_rfl) (by simp) rfl rfl (by simp) ?_
      refine T (call_by hFo ?_)
      refine T ?_
      refine w_loop (α := Nat) (fun i => match i with
        | 0 => [(.t 2, .sc (.bool true)), (.t 3, .hp 3 1 0), (.h 3, rb r), (.t 6, .hp 6 1 0), (.h 6, .blk 1 2 [.sc (.bool false), .sc (.slice none 0 0), .sc (.slice none 0 0)]), (.t 15, RS l), (.t 16, .sc (.int .i64 (l.length : Int))), (.t 17, .sc (.int .i64 0)), (.h 25, .blk 0 0 []), (.h 3000025, .blk 0 0 [])]
        | _ + 1 => [(.t 2, .sc (.bool true)), (.t 3, .hp 3 1 0), (.h 3, .blk 1 2 [.sc (.bool P.1.1), nilV, .hs 25 1 0 P.1.2.2.length 1]), (.t 6, .hp 6 1 0), (.h 6, .blk 1 2 [.sc (.bool false), .sc (.slice none 0 0), .sc (.slice none 0 0)]), (.t 15, RS l), (.t 16, .sc (.int .i64 (l.length : Int))), (.t 17, .sc (.int .i64 1)), (.h 25, .blk 1 2 (P.1.2.2.map u32))]) (fun i => i ≤ 1) (fun i => 1 - i) 0 (by omega) ?_ ?_
      · dsimp only
        exact Hv
      rintro i r' h1 J hJ
      rcases i with _ | i
      · dsimp only
        refine T ?_
        simp only [e, rc]
        refine T ?_
        refine call_g [] false k3 trivial rfl (by simp) (by simp [pOf]) rfl rfl rfl nofun ?_
        refine T ?_
        refine hJ _ 1 (by omega) (by omega) ?_
        dsimp only
        exact Hv
      · dsimp only
        refine T (r_retG [(25, 1)] (by simp) ?_ ?_)
        · trivial
        rw [Try.results105]
        refine RG ?_
        exact ⟨Nat.le_refl _, Wk.refl _⟩
    · rw [if_pos k1]
      refine .inr (.inr ⟨rfl, ?_⟩)
      show SpecG Try.prog _ _ [] (.tup [.agg [.sc (.bool P.1.1), .hs 1000000 1 0 P.1.2.1.length 1, .hs 1000001 1 0 P.1.2.2.length 1], .sc (.int .i64 0)]) [(1, P.1.2.1.map u32), (1, P.1.2.2.map u32)]
      refine specG_of_awp mixed Try.func105 rfl Try.call105 (by kernel_rfl) (by simp) rfl rfl (by simp) ?_
      refine T (call_by hFo ?_)
      refine T ?_
      refine w_loop (α := Nat) (fun i => match i with
        | 0 => [(.t 2, .sc (.bool true)), (.t 3, .hp 3 1 0), (.h 3, rb r), (.t 6, .hp 6 1 0), (.h 6, .blk 1 2 [.sc (.bool false), .sc (.slice none 0 0), .sc (.slice none 0 0)]), (.t 15, RS l), (.t 16, .sc (.int .i64 (l.length : Int))), (.t 17, .sc (.int .i64 0)), (.h 25, .blk 0 0 []), (.h 3000025, .blk 0 0 [])]
        | _ + 1 => [(.t 2, .sc (.bool true)), (.t 3, .hp 3 1 0), (.h 3, .blk 1 2 [.sc (.bool P.1.1), .hs 25 1 0 P.1.2.1.length 1, .hs 3000025 1 0 P.1.2.2.length 1]), (.t 6, .hp 6 1 0), (.h 6, .blk 1 2 [.sc (.bool false), .sc (.slice none 0 0), .sc (.slice none 0 0)]), (.t 15, RS l), (.t 16, .sc (.int .i64 (l.length : Int))), (.t 17, .sc (.int .i64 1)), (.h 25, .blk 1 2 (P.1.2.1.map u32)), (.h 3000025, .blk 1 2 (P.1.2.2.map u32))]) (fun i => i ≤ 1) (fun i => 1 - i) 0 (by omega) ?_ ?_
      · dsimp only
        exact Hv
      rintro i r' h1 J hJ
      rcases i with _ | i
      · dsimp only
        refine T ?_
        simp only [e, rc]
        refine T ?_
        refine call_g [] false k3 trivial rfl (by simp) (by simp [pOf]) rfl rfl rfl nofun ?_
        refine T ?_
        refine hJ _ 1 (by omega) (by omega) ?_
        dsimp only
        exact Hv
      · dsimp only
        refine T (r_retG [(25, 1), (3000025, 1)] (by simp) ?_ ?_)
        · trivial
        rw [Try.results105]
        refine RG ?_
        exact ⟨⟨Nat.le_refl _, Nat.le_refl _⟩, Wk.refl _⟩
theorem g_Prod (p : RT) (hp : RW p) : LimR 68 [RS [p]] (foldL true r1 [p]) := by
  have h := g_fold r1 p [p] rfl ⟨Wf.one (by decide) (by decide), Wf.one (by decide) (by decide), by decide, by decide⟩ hp
  generalize foldL true r1 [p] = P at *
  rcases h with ⟨k1, k2, k3⟩ | ⟨k1, k2, k3⟩ | ⟨k1, k3⟩
  · refine .inl ⟨k1, k2, ?_⟩
    refine spec_of_awp mixed Try.func68 rfl Try.call68 (by kernel_rfl) (by simp) rfl ?_
    refine T (call_by of1 ?_)
    refine T (call_by k3 ?_)
    refine T (r_ret ?_)
    rw [Try.results68]
    refine R ?_
    exact Wk.refl _
  · refine .inr (.inl ⟨k1, k2, ?_⟩)
    refine specG_of_awp mixed Try.func68 rfl Try.call68 (by kernel_rfl) (by simp) rfl rfl (by simp) ?_
    refine T (call_by of1 ?_)
    refine T ?_
    refine call_g [] false k3 trivial rfl (by simp) (by simp [pOf]) rfl rfl rfl nofun ?_
    refine T (r_retG [(6, 1)] (by simp) ?_ ?_)
    · trivial
    rw [Try.results68]
    refine RG ?_
    exact ⟨Nat.le_refl _, Wk.refl _⟩
  · refine .inr (.inr ⟨k1, ?_⟩)
    refine specG_of_awp mixed Try.func68 rfl Try.call68 (by kernel_rfl) (by simp) rfl rfl (by simp) ?_
    refine T (call_by of1 ?_)
    refine T ?_
    refine call_g [] false k3 trivial rfl (by simp) (by simp [pOf]) rfl rfl rfl nofun ?_
    refine T (r_retG [(6, 1), (3000006, 1)] (by simp) ?_ ?_)
    · trivial
    rw [Try.results68]
    refine RG ?_
    exact ⟨⟨Nat.le_refl _, Nat.le_refl _⟩, Wk.refl _⟩
end Go.Ab
end
