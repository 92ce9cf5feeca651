import Derived.Test.YtgffficaoioljaaRbSlP
import Derived.Test.YtgffficaoioljaaRbSq14
set_option linter.all false
section
namespace Go.Ab
open Go Go.Proofs Go.Proofs.Ytgffficaoioljaa.Pl
set_option maxRecDepth 100000
set_option maxHeartbeats 8000000
theorem foldR_len (t : Bool) : ∀ (l : List RT) (r : RT), RM r → (foldR t r l).1.2.1.length ≤ 16 ∧ (foldR t r l).1.2.2.length ≤ 16
  | [], r, h => ⟨h.ln, h.ld⟩
  | x :: l, r, h => by
    rw [foldR]
    split
    · exact foldR_len t l _ (opR_M t r x)
    · simp
theorem foldL_len (t : Bool) (l : List RT) (r : RT) (h : RM r) : (foldL t r l).1.2.1.length ≤ 16 ∧ (foldL t r l).1.2.2.length ≤ 16 := by
  unfold foldL
  split
  · exact foldR_len t l r h
  · simp
def oW (k : Nat) : Nat → AV
  | 0 => .sc (.slice none 0 0)
  | g + 1 => .hs k (g + 1) 0 (g + 1) 3
def oC : Nat → List AV → AV
  | 0, _ => .blk 0 0 []
  | g + 1, o => .blk (g + 1) 2 o
theorem all_rc : ∀ (l : List RT), (l.flatMap rc).all AV.fz = true
  | [] => rfl
  | p :: l => by simp [rc, AV.fz, oneV, all_rc l]
theorem l_RatioFolds (l : List RT) (hl : l.length * 56 ≤ 140737488355328) (hw : ∀ p ∈ l, RW p) (hz : ∀ p ∈ l, RL p) : Spec Try.prog 16 [RS l] (.sc (.bool true)) := by
  refine spec_of_awp mixed Try.func16 rfl Try.call16 (by kernel_rfl) (by simp) rfl ?_
  have el := rc_len l
  refine T (call_by wakes2 ?_)
  refine T ?_
  refine w_loop (α := Nat) (fun i => [(.t 0, RS l), (.t 16, .sc (.int .i64 (l.length : Int))), (.t 17, .sc (.int .i64 (i : Int))), (.t 15, RS l), (.t 3, oW 27 i), (.h 27, oC i ((l.take i).flatMap rc)), (.h 5, .blk 0 0 []), (.h 7, .blk 0 0 []), (.h 9, .blk 0 0 []), (.h 11, .blk 0 0 [])])
    (fun i => i ≤ l.length) (fun i => l.length - i) 0 (Nat.zero_le _) ?_ ?_
  · dsimp only [oW, oC]
    exact Hv
  rintro i r h1 J hJ
  by_cases hi : i < l.length
  · have e := rc_at l i hi
    have w := hz _ (List.getElem_mem hi)
    have et : (l.take (i + 1)).flatMap rc = (l.take i).flatMap rc ++ rc l[i] := by
      rw [List.take_succ_eq_append_getElem hi, List.flatMap_append]; simp
    have ll : ((l.take i).flatMap rc).length = 3 * i := by rw [rc_len, List.length_take, Nat.min_eq_left h1]
    rcases i with _ | i
    · rw [Nat.zero_mul, List.drop_zero] at e
      dsimp only [oW, oC]
      refine T ?_
      simp only [e, rc]
      refine T (call_by (q2_own l[0] w) ?_)
      refine T ?_
      refine hJ _ 1 (by omega) (by omega) ?_
      dsimp only [oW, oC]
      rw [et]
      refine H ?_
      exact ⟨rfl, rfl⟩
    · dsimp only [oW, oC]
      refine T ?_
      simp only [e, rc]
      refine T (call_by (q2_own l[i + 1] w) ?_)
      refine T ?_
      refine hJ _ (i + 2) (by omega) (by omega) ?_
      dsimp only [oW, oC]
      rw [et]
      refine H ?_
      exact rfl
  · rcases i with _ | i
    · have e0 : l = [] := List.eq_nil_of_length_eq_zero (by omega)
      subst e0
      dsimp only [oW, oC]
      refine T (call_wk (WkL.cons Wk.nil (WkL.refl _)) (s_Sum [] (by simp) (by simp)) ?_)
      refine T (call_by (q2_Fold false [] (by simp) (by simp)) ?_)
      rw [show rS false = r0 from rfl]
      have z1 := foldL_len false [] r0 ⟨Wf.nil, Wf.one (by decide) (by decide), by decide, by decide⟩
      have z2 := foldL_len true [] r1 ⟨Wf.one (by decide) (by decide), Wf.one (by decide) (by decide), by decide, by decide⟩
      generalize foldL false r0 [] = s1 at *
      obtain ⟨⟨b1, n1, d1⟩, e1⟩ := s1
      simp only [put, appH_nil, List.map_nil]
      refine a_forget [(.t 0, RS []), (.t 3, .sc (.slice none 0 0)), (.t 5, .hp 5 1 0), (.h 5, rb (b1, n1, d1)), (.t 6, .sc (.int .i64 e1)), (.t 36, resR ((b1, n1, d1), e1)), (.h 7, .blk 0 0 []), (.h 9, .blk 0 0 []), (.h 11, .blk 0 0 [])] Hv fun r => ?_
      refine T (call_wk (WkL.cons Wk.nil (WkL.refl _)) (s_Product [] (by simp) (by simp)) ?_)
      refine T (call_by (q2_Fold true [] (by simp) (by simp)) ?_)
      rw [show rS true = r1 from rfl]
      generalize foldL true r1 [] = s2 at *
      obtain ⟨⟨b2, n2, d2⟩, e2⟩ := s2
      simp only [put, appH_nil, List.map_nil]
      refine a_forget [(.t 5, .hp 5 1 0), (.h 5, rb (b1, n1, d1)), (.t 6, .sc (.int .i64 e1)), (.t 7, .hp 7 1 0), (.h 7, rb (b1, n1, d1)), (.t 8, .sc (.int .i64 e1)), (.t 9, .hp 9 1 0), (.h 9, rb (b2, n2, d2)), (.t 10, .sc (.int .i64 e2)), (.t 46, resR ((b2, n2, d2), e2)), (.h 11, .blk 0 0 [])] Hv fun r => ?_
      simp only at z1 z2
      refine T (call_by (q2_Same (b1, n1, d1) (b1, n1, d1) ⟨by simp only; omega, by simp only; omega⟩ ⟨by simp only; omega, by simp only; omega⟩) ?_)
      rw [decide_eq_true rfl]
      refine T (call_by (q2_Same (b2, n2, d2) (b2, n2, d2) ⟨by simp only; omega, by simp only; omega⟩ ⟨by simp only; omega, by simp only; omega⟩) ?_)
      rw [decide_eq_true rfl]
      exact TR rfl
    · have ei : i + 1 = l.length := by omega
      have ll : ((l.take (i + 1)).flatMap rc).length = 3 * (i + 1) := by rw [rc_len, List.length_take, Nat.min_eq_left h1]
      rw [List.take_of_length_le (by omega)] at *
      have ea : [AV.vs (i + 1) (l.flatMap rc)] = [RS l] := by rw [ei]
      dsimp only [oW, oC]
      have eb : (i + 1) * 3 ≤ (l.flatMap rc).length := by omega
      refine T ?_
      simp only [eb, all_rc, and_self, if_true]
      refine T (call_eq ea (s_Sum l (by omega) hw) ?_)
      refine T (call_by (q2_Fold false l (by omega) hw) ?_)
      rw [show rS false = r0 from rfl]
      have z1 := foldL_len false l r0 ⟨Wf.nil, Wf.one (by decide) (by decide), by decide, by decide⟩
      have z2 := foldL_len true l r1 ⟨Wf.one (by decide) (by decide), Wf.one (by decide) (by decide), by decide, by decide⟩
      generalize foldL false r0 l = s1 at *
      obtain ⟨⟨b1, n1, d1⟩, e1⟩ := s1
      simp only [put, appH_nil, List.map_nil]
      refine a_forget [(.t 0, RS l), (.t 3, .hs 27 (i + 1) 0 (i + 1) 3), (.h 27, .blk (i + 1) 1 (l.flatMap rc)), (.t 5, .hp 5 1 0), (.h 5, rb (b1, n1, d1)), (.t 6, .sc (.int .i64 e1)), (.t 36, resR ((b1, n1, d1), e1)), (.h 7, .blk 0 0 []), (.h 9, .blk 0 0 []), (.h 11, .blk 0 0 [])] Hv fun r => ?_
      refine T ?_
      simp only [eb, all_rc, and_self, if_true]
      refine T (call_eq ea (s_Product l (by omega) hw) ?_)
      refine T (call_by (q2_Fold true l (by omega) hw) ?_)
      rw [show rS true = r1 from rfl]
      generalize foldL true r1 l = s2 at *
      obtain ⟨⟨b2, n2, d2⟩, e2⟩ := s2
      simp only [put, appH_nil, List.map_nil]
      refine a_forget [(.t 5, .hp 5 1 0), (.h 5, rb (b1, n1, d1)), (.t 6, .sc (.int .i64 e1)), (.t 7, .hp 7 1 0), (.h 7, rb (b1, n1, d1)), (.t 8, .sc (.int .i64 e1)), (.t 9, .hp 9 1 0), (.h 9, rb (b2, n2, d2)), (.t 10, .sc (.int .i64 e2)), (.t 46, resR ((b2, n2, d2), e2)), (.h 11, .blk 0 0 [])] Hv fun r => ?_
      simp only at z1 z2
      refine T (call_by (q2_Same (b1, n1, d1) (b1, n1, d1) ⟨by simp only; omega, by simp only; omega⟩ ⟨by simp only; omega, by simp only; omega⟩) ?_)
      rw [decide_eq_true rfl]
      refine T (call_by (q2_Same (b2, n2, d2) (b2, n2, d2) ⟨by simp only; omega, by simp only; omega⟩ ⟨by simp only; omega, by simp only; omega⟩) ?_)
      rw [decide_eq_true rfl]
      exact TR rfl
end Go.Ab
end
