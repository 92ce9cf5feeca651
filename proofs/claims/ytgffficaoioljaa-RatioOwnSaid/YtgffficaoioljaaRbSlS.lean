import Derived.Test.YtgffficaoioljaaRbSlP
import Derived.Test.YtgffficaoioljaaRbSq13
set_option linter.all false
section
namespace Go.Ab
open Go Go.Proofs Go.Proofs.Ytgffficaoioljaa.Pl
set_option maxRecDepth 100000
set_option maxHeartbeats 8000000
theorem addR_len (p q : RT) : (addR p q).1.2.1.length ≤ 16 ∧ (addR p q).1.2.2.length ≤ 16 := by
  unfold addR
  split
  · exact mkR_len _ _ _
  · split <;> exact mkR_len _ _ _
theorem negR_len (p : RT) (wn : Wf p.2.1) (wd : Wf p.2.2) : (negR p).1.2.1.length ≤ 16 ∧ (negR p).1.2.2.length ≤ 16 := by
  unfold negR
  split
  · rename_i h; exact turn_len wn wd h
  · simp
theorem l_RatioSums (p q : RT) (hp : RW p) (hq : RW q) (lp : RL p) (lq : RL q) : Spec Try.prog 18 [RA p.1 p.2.1 p.2.2, RA q.1 q.2.1 q.2.2] (.sc (.bool true)) := by
  refine spec_of_awp mixed Try.func18 rfl Try.call18 (by kernel_rfl) (by simp) rfl ?_
  refine T (call_by wakes2 ?_)
  refine T (dcall_by (q2_own p lp) ?_)
  refine T (dcall_by (q2_own q lq) ?_)
  refine T (dcall_by (s_rCmp p q hp hq) ?_)
  refine T (call_by (q2_Cmp p q hp hq) ?_)
  have z1 := ifF_len p q _ (addR_len p q)
  have z2 := ifF_len p q _ (addR_len p (turnR q))
  have z3 := negR_len p hp.wn hp.wd
  generalize cmpR p q = c at *
  obtain ⟨c, e0⟩ := c
  simp only [put, fzs_nil, appH_nil]
  refine a_forget [(.t 2, .hp 2 1 0), (.h 2, rb p), (.t 3, .hp 3 1 0), (.h 3, rb q), (.t 5, .sc (.int .i64 c)), (.t 6, .sc (.int .i64 e0)), (.t 34, resI (c, e0)), (.h 9, .blk 0 0 []), (.h 11, .blk 0 0 []), (.h 13, .blk 0 0 []), (.h 15, .blk 0 0 []), (.h 17, .blk 0 0 []), (.h 19, .blk 0 0 [])] Hv fun r => ?_
  refine T (dcall_by (q2_own p lp) ?_)
  refine T (dcall_by (q2_own q lq) ?_)
  refine T (dcall_by (s_rAdd p q hp hq) ?_)
  refine T (call_by (q2_Add p q hp hq) ?_)
  generalize ifF p q (addR p q) = r1 at *
  obtain ⟨⟨b1, n1, d1⟩, e1⟩ := r1
  simp only [put, fzs_nil, appH_nil]
  refine a_forget [(.t 2, .hp 2 1 0), (.h 2, rb p), (.t 3, .hp 3 1 0), (.h 3, rb q), (.t 5, .sc (.int .i64 c)), (.t 6, .sc (.int .i64 e0)), (.t 7, .sc (.int .i64 c)), (.t 8, .sc (.int .i64 e0)), (.t 9, .hp 9 1 0), (.h 9, rb (b1, n1, d1)), (.t 10, .sc (.int .i64 e1)), (.t 48, resR ((b1, n1, d1), e1)),
    (.h 11, .blk 0 0 []), (.h 13, .blk 0 0 []), (.h 15, .blk 0 0 []), (.h 17, .blk 0 0 []), (.h 19, .blk 0 0 [])] Hv fun r => ?_
  refine T (dcall_by (q2_own p lp) ?_)
  refine T (dcall_by (q2_own q lq) ?_)
  refine T (dcall_by (s_rSub p q hp hq) ?_)
  refine T (call_by (q2_Sub p q hp hq) ?_)
  generalize ifF p q (addR p (turnR q)) = r2 at *
  obtain ⟨⟨b2, n2, d2⟩, e2⟩ := r2
  simp only [put, fzs_nil, appH_nil]
  refine a_forget [(.t 2, .hp 2 1 0), (.h 2, rb p), (.t 5, .sc (.int .i64 c)), (.t 6, .sc (.int .i64 e0)), (.t 7, .sc (.int .i64 c)), (.t 8, .sc (.int .i64 e0)), (.t 9, .hp 9 1 0), (.h 9, rb (b1, n1, d1)), (.t 10, .sc (.int .i64 e1)), (.t 11, .hp 11 1 0), (.h 11, rb (b1, n1, d1)), (.t 12, .sc (.int .i64 e1)),
    (.t 13, .hp 13 1 0), (.h 13, rb (b2, n2, d2)), (.t 14, .sc (.int .i64 e2)), (.t 62, resR ((b2, n2, d2), e2)), (.h 15, .blk 0 0 []), (.h 17, .blk 0 0 []), (.h 19, .blk 0 0 [])] Hv fun r => ?_
  refine T (call_by (q2_own p lp) ?_)
  refine T (call_by (s_rNeg p hp) ?_)
  refine T (call_by (q2_Neg p hp) ?_)
  generalize negR p = r3 at *
  obtain ⟨⟨b3, n3, d3⟩, e3⟩ := r3
  simp only [put, fzs_nil, appH_nil]
  refine a_forget [(.t 5, .sc (.int .i64 c)), (.t 6, .sc (.int .i64 e0)), (.t 7, .sc (.int .i64 c)), (.t 8, .sc (.int .i64 e0)), (.t 9, .hp 9 1 0), (.h 9, rb (b1, n1, d1)), (.t 10, .sc (.int .i64 e1)), (.t 11, .hp 11 1 0), (.h 11, rb (b1, n1, d1)), (.t 12, .sc (.int .i64 e1)),
    (.t 13, .hp 13 1 0), (.h 13, rb (b2, n2, d2)), (.t 14, .sc (.int .i64 e2)), (.t 15, .hp 15 1 0), (.h 15, rb (b2, n2, d2)), (.t 16, .sc (.int .i64 e2)), (.t 17, .hp 17 1 0), (.h 17, rb (b3, n3, d3)), (.t 18, .sc (.int .i64 e3)), (.t 73, resR ((b3, n3, d3), e3)), (.h 19, .blk 0 0 [])] Hv fun r => ?_
  simp only at z1 z2 z3
  refine T (call_by (q2_Same (b1, n1, d1) (b1, n1, d1) ⟨by simp only; omega, by simp only; omega⟩ ⟨by simp only; omega, by simp only; omega⟩) ?_)
  rw [decide_eq_true rfl]
  simp only [put, fzs_nil, appH_nil]
  refine a_forget [(.t 84, .sc (.bool true)), (.t 87, .sc (.bool true)), (.t 10, .sc (.int .i64 e1)), (.t 12, .sc (.int .i64 e1)), (.t 13, .hp 13 1 0), (.h 13, rb (b2, n2, d2)), (.t 14, .sc (.int .i64 e2)), (.t 15, .hp 15 1 0), (.h 15, rb (b2, n2, d2)), (.t 16, .sc (.int .i64 e2)), (.t 17, .hp 17 1 0), (.h 17, rb (b3, n3, d3)), (.t 18, .sc (.int .i64 e3)), (.t 19, .hp 19 1 0), (.h 19, rb (b3, n3, d3)), (.t 20, .sc (.int .i64 e3))] Hv fun r => ?_
  refine T (call_by (q2_Same (b2, n2, d2) (b2, n2, d2) ⟨by simp only; omega, by simp only; omega⟩ ⟨by simp only; omega, by simp only; omega⟩) ?_)
  rw [decide_eq_true rfl]
  simp only [put, fzs_nil, appH_nil]
  refine a_forget [(.t 94, .sc (.bool true)), (.t 97, .sc (.bool true)), (.t 14, .sc (.int .i64 e2)), (.t 16, .sc (.int .i64 e2)), (.t 17, .hp 17 1 0), (.h 17, rb (b3, n3, d3)), (.t 18, .sc (.int .i64 e3)), (.t 19, .hp 19 1 0), (.h 19, rb (b3, n3, d3)), (.t 20, .sc (.int .i64 e3))] Hv fun r => ?_
  refine T (call_by (q2_Same (b3, n3, d3) (b3, n3, d3) ⟨by simp only; omega, by simp only; omega⟩ ⟨by simp only; omega, by simp only; omega⟩) ?_)
  rw [decide_eq_true rfl]
  simp only [put, fzs_nil, appH_nil]
  refine a_forget [(.t 104, .sc (.bool true)), (.t 107, .sc (.bool true)), (.t 18, .sc (.int .i64 e3)), (.t 20, .sc (.int .i64 e3))] Hv fun r => ?_
  exact TR rfl
end Go.Ab
end
