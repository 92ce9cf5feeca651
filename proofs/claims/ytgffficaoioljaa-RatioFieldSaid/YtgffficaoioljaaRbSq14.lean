import Derived.Test.YtgffficaoioljaaRbSr8
set_option linter.all false
section
namespace Go.Ab
open Go Go.Proofs Go.Proofs.Ytgffficaoioljaa.Pl
set_option maxRecDepth 100000
set_option maxHeartbeats 8000000
def rS (t : Bool) : RT := if t = true then r1 else r0
theorem q2_Op (t : Bool) (p q : RT) (fp : formR p = true) (fq : formR q = true) : ifF p q (opR t p q) = opR t p q := if_pos (by rw [fp, fq]; rfl)
theorem q2_Fold (t : Bool) (l : List RT) (hl : l.length ≤ 4611686018427387904) (hw : ∀ p ∈ l, RW p) : Spec Try.prog 67 [RS l, .sc (.bool t)] (resR (foldL t (rS t) l)) := by
  refine spec_of_awp mixed Try.func67 rfl Try.call67 (by kernel_rfl) (by simp) rfl ?_
  have el := rc_len l
  refine T ?_
  refine w_loop (α := Nat) (fun i => [(.t 0, RS l), (.t 1, .sc (.bool t)), (.t 4, .hp 4 1 0), (.h 4, .blk 1 2 [.sc (.bool false), .sc (.slice none 0 0), .sc (.slice none 0 0)]), (.t 6, .sc (.int .i64 (i : Int))), (.h 7, .blk 0 0 [])])
    (fun i => i ≤ l.length ∧ (l.take i).all formR = true) (fun i => l.length - i) 0 ⟨Nat.zero_le _, rfl⟩ ?_ ?_
  · exact Hv
  rintro i r ⟨h1, h2⟩ J hJ
  by_cases hi : i < l.length
  · have e := rc_at l i hi
    have w := hw _ (List.getElem_mem hi)
    refine T ?_
    simp only [e, rc]
    refine T (call_by (q2_Form l[i].1 l[i].2.1 l[i].2.2 w.wn w.wd w.ln w.ld) ?_)
    cases h4 : formB l[i].1 l[i].2.1 l[i].2.2 with
    | true =>
      refine T ?_
      refine hJ _ (i + 1) (by omega) ⟨by omega, ?_⟩ Hv
      rw [List.take_succ_eq_append_getElem hi, List.all_append, h2]
      simp [formR, h4]
    | false =>
      have hf : ¬ l.all formR = true := by
        intro h
        rw [List.all_eq_true] at h
        have := h _ (List.getElem_mem hi)
        rw [formR, h4] at this
        cases this
      refine T (r_ret ?_)
      rw [foldL, if_neg hf]
      exact R (wk_zero _)
  rw [List.take_of_length_le (by omega)] at h2
  rw [foldL, if_pos h2]
  rw [List.all_eq_true] at h2
  have hM0 : RM (rS t) := by
    cases t
    · exact ⟨Wf.nil, Wf.one (by decide) (by decide), by decide, by decide⟩
    · exact ⟨Wf.one (by decide) (by decide), Wf.one (by decide) (by decide), by decide, by decide⟩
  have hF0 : formR (rS t) = true := by
    cases t <;> decide +kernel
  cases t with
  | true =>
    refine T (call_by qof0 ?_)
    refine T (call_by qof1 ?_)
    refine T ?_
    refine w_loop (α := Nat × RT) (fun p => [(.t 0, RS l), (.t 1, .sc (.bool true)), (.t 4, .hp 4 1 0), (.h 4, .blk 1 2 [.sc (.bool false), .sc (.slice none 0 0), .sc (.slice none 0 0)]), (.t 7, .hp 7 1 0), (.h 7, rb p.2), (.t 8, .sc (.int .i64 (p.1 : Int)))])
      (fun p => p.1 ≤ l.length ∧ RM p.2 ∧ formR p.2 = true ∧ foldR true p.2 (l.drop p.1) = foldR true (rS true) l) (fun p => l.length - p.1) (0, rS true) ⟨Nat.zero_le _, hM0, hF0, by simp⟩ ?_ ?_
    · refine H ?_
      exact rfl
    rintro ⟨k, b, n, d⟩ r' ⟨g1, g2, g4, g3⟩ J2 hJ2
    simp only at g1 g2 g3 g4
    by_cases hk : k < l.length
    · have e := rc_at l k hk
      have w := RM.of (hw _ (List.getElem_mem hk)) (h2 _ (List.getElem_mem hk))
      have eo := q2_Op true (b, n, d) l[k] g4 (h2 _ (List.getElem_mem hk))
      rw [foldR_drop hk] at g3
      have hM := opR_M true (b, n, d) l[k]
      have hF := opR_form (t := true) (p := (b, n, d)) (q := l[k]) g2 w
      have ez := opR_zero (t := true) (p := (b, n, d)) (q := l[k])
      have hop : opR true (b, n, d) l[k] = mulR (b, n, d) l[k] := rfl
      refine T ?_
      simp only [e, rc]
      refine T (dcall_by (q2_Mul (b, n, d) l[k] g2.rw (hw _ (List.getElem_mem hk))) ?_)
      rw [← hop, eo]
      clear hop eo
      generalize opR true (b, n, d) l[k] = s at *
      obtain ⟨⟨sb, sn, sd⟩, se⟩ := s
      simp only at *
      by_cases hs : se = 0
      · rw [if_pos hs] at g3
        refine T ?_
        refine hJ2 _ (k + 1, sb, sn, sd) (by show _ - (k + 1) < _ - k; omega) ⟨by show k + 1 ≤ _; omega, hM, hF hs, g3⟩ Hv
      · rw [if_neg hs] at g3
        refine T (r_ret ?_)
        rw [← g3]
        exact R (wk_zero _)
    · rw [List.drop_of_length_le (by omega)] at g3
      refine TR ?_
      rw [← g3]
      rfl
  | false =>
    refine T (call_by qof0 ?_)
    refine T ?_
    refine w_loop (α := Nat × RT) (fun p => [(.t 0, RS l), (.t 1, .sc (.bool false)), (.t 4, .hp 4 1 0), (.h 4, .blk 1 2 [.sc (.bool false), .sc (.slice none 0 0), .sc (.slice none 0 0)]), (.t 7, .hp 7 1 0), (.h 7, rb p.2), (.t 8, .sc (.int .i64 (p.1 : Int)))])
      (fun p => p.1 ≤ l.length ∧ RM p.2 ∧ formR p.2 = true ∧ foldR false p.2 (l.drop p.1) = foldR false (rS false) l) (fun p => l.length - p.1) (0, rS false) ⟨Nat.zero_le _, hM0, hF0, by simp⟩ ?_ ?_
    · refine H ?_
      exact rfl
    rintro ⟨k, b, n, d⟩ r' ⟨g1, g2, g4, g3⟩ J2 hJ2
    simp only at g1 g2 g3 g4
    by_cases hk : k < l.length
    · have e := rc_at l k hk
      have w := RM.of (hw _ (List.getElem_mem hk)) (h2 _ (List.getElem_mem hk))
      have eo := q2_Op false (b, n, d) l[k] g4 (h2 _ (List.getElem_mem hk))
      rw [foldR_drop hk] at g3
      have hM := opR_M false (b, n, d) l[k]
      have hF := opR_form (t := false) (p := (b, n, d)) (q := l[k]) g2 w
      have ez := opR_zero (t := false) (p := (b, n, d)) (q := l[k])
      have hop : opR false (b, n, d) l[k] = addR (b, n, d) l[k] := rfl
      refine T ?_
      simp only [e, rc]
      refine T (dcall_by (q2_Add (b, n, d) l[k] g2.rw (hw _ (List.getElem_mem hk))) ?_)
      rw [← hop, eo]
      clear hop eo
      generalize opR false (b, n, d) l[k] = s at *
      obtain ⟨⟨sb, sn, sd⟩, se⟩ := s
      simp only at *
      by_cases hs : se = 0
      · rw [if_pos hs] at g3
        refine T ?_
        refine hJ2 _ (k + 1, sb, sn, sd) (by show _ - (k + 1) < _ - k; omega) ⟨by show k + 1 ≤ _; omega, hM, hF hs, g3⟩ Hv
      · rw [if_neg hs] at g3
        refine T (r_ret ?_)
        rw [← g3]
        exact R (wk_zero _)
    · rw [List.drop_of_length_le (by omega)] at g3
      refine TR ?_
      rw [← g3]
      rfl
end Go.Ab
end
