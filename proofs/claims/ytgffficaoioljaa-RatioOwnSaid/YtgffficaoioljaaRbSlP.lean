import Derived.Test.YtgffficaoioljaaRbV
import Derived.Test.YtgffficaoioljaaRbW
import Derived.Test.YtgffficaoioljaaRbU
set_option linter.all false
section
namespace Go.Ab
open Go Go.Proofs Go.Proofs.Ytgffficaoioljaa.Pl
set_option maxRecDepth 100000
set_option maxHeartbeats 8000000
theorem mkR_len (b : Bool) (u v : Int) : (mkR b u v).1.2.1.length ≤ 16 ∧ (mkR b u v).1.2.2.length ≤ 16 := by
  unfold mkR
  split
  · simp
  · split
    · simp
    · split
      · rename_i h; exact h
      · simp
theorem ifF_len (p q : RT) (r : RT × Int) (h : r.1.2.1.length ≤ 16 ∧ r.1.2.2.length ≤ 16) : (ifF p q r).1.2.1.length ≤ 16 ∧ (ifF p q r).1.2.2.length ≤ 16 := by
  unfold ifF
  split
  · exact h
  · simp
theorem mulR_len (p q : RT) : (mulR p q).1.2.1.length ≤ 16 ∧ (mulR p q).1.2.2.length ≤ 16 := mkR_len _ _ _
theorem divR_len (p q : RT) : (divR p q).1.2.1.length ≤ 16 ∧ (divR p q).1.2.2.length ≤ 16 := by
  unfold divR
  split
  · simp
  · exact mkR_len _ _ _
theorem a_forget {P : Program} {B : Nat} {ops : Array Oper} {K : S → Prop} {rest : List Oper} {s : S} (l : List (Loc × AV)) (h : Has l s) (hK : ∀ r, AOps0 P B ops K rest (kn l r)) : AOps0 P B ops K rest s := by
  have := hK s
  rwa [kn_self h] at this
theorem d_forget {P : Program} {B : Nat} {ops : Array Oper} {K : List Ent → S → Prop} {rest : List Oper} {L : List Ent} {s : S} (l : List (Loc × AV)) (h : Has l s) (hK : ∀ r, AOps P B ops K rest L (kn l r)) : AOps P B ops K rest L s := by
  have := hK s
  rwa [kn_self h] at this
abbrev rb (p : RT) : AV := .blk 1 2 [.sc (.bool p.1), U p.2.1, U p.2.2]
theorem l_RatioProducts (p q : RT) (hp : RW p) (hq : RW q) (lp : RL p) (lq : RL q) : Spec Try.prog 15 [RA p.1 p.2.1 p.2.2, RA q.1 q.2.1 q.2.2] (.sc (.bool true)) := by
  refine spec_of_awp mixed Try.func15 rfl Try.call15 (by kernel_rfl) (by simp) rfl ?_
  refine T (call_by wakes2 ?_)
  refine T (dcall_by (q2_own p lp) ?_)
  refine T (dcall_by (q2_own q lq) ?_)
  refine T (dcall_by (s_rMul p q hp hq) ?_)
  refine T (call_by (q2_Mul p q hp hq) ?_)
  have z1 := ifF_len p q _ (mulR_len p q)
  have z2 := ifF_len p q _ (divR_len p q)
  generalize ifF p q (mulR p q) = r1 at *
  obtain ⟨⟨b1, n1, d1⟩, e1⟩ := r1
  simp only [put, fzs_nil, appH_nil]
  refine a_forget [(.t 2, .hp 2 1 0), (.h 2, rb p), (.t 3, .hp 3 1 0), (.h 3, rb q), (.t 5, .hp 5 1 0), (.h 5, rb (b1, n1, d1)), (.t 6, .sc (.int .i64 e1)), (.t 26, resR ((b1, n1, d1), e1)), (.h 7, .blk 0 0 []), (.h 9, .blk 0 0 []), (.h 11, .blk 0 0 [])] Hv fun r => ?_
  refine T (dcall_by (q2_own p lp) ?_)
  refine T (dcall_by (q2_own q lq) ?_)
  refine T (dcall_by (s_rDiv p q hp hq) ?_)
  refine T (call_by (q2_Div p q hp hq) ?_)
  generalize ifF p q (divR p q) = r2 at *
  obtain ⟨⟨b2, n2, d2⟩, e2⟩ := r2
  simp only [put, fzs_nil, appH_nil]
  refine a_forget [(.t 5, .hp 5 1 0), (.h 5, rb (b1, n1, d1)), (.t 6, .sc (.int .i64 e1)), (.t 7, .hp 7 1 0), (.h 7, rb (b1, n1, d1)), (.t 8, .sc (.int .i64 e1)), (.t 9, .hp 9 1 0), (.h 9, rb (b2, n2, d2)), (.t 10, .sc (.int .i64 e2)), (.t 40, resR ((b2, n2, d2), e2)), (.h 11, .blk 0 0 [])] Hv fun r => ?_
  simp only at z1 z2
  refine T (call_by (q2_Same (b1, n1, d1) (b1, n1, d1) ⟨by simp only; omega, by simp only; omega⟩ ⟨by simp only; omega, by simp only; omega⟩) ?_)
  rw [decide_eq_true rfl]
  refine T (call_by (q2_Same (b2, n2, d2) (b2, n2, d2) ⟨by simp only; omega, by simp only; omega⟩ ⟨by simp only; omega, by simp only; omega⟩) ?_)
  rw [decide_eq_true rfl]
  exact TR rfl
end Go.Ab
end
