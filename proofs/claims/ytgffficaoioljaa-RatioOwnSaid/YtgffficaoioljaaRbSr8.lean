import Derived.Test.YtgffficaoioljaaRbSr7
import Derived.Test.YtgffficaoioljaaRbSlS
set_option linter.all false
section
namespace Go.Ab
open Go Go.Proofs Go.Proofs.Ytgffficaoioljaa.Pl
set_option maxRecDepth 100000
set_option maxHeartbeats 8000000
def opR (times : Bool) (p q : RT) : RT × Int := if times = true then mulR p q else addR p q
def foldR (times : Bool) : RT → List RT → RT × Int
  | r, [] => (r, 0)
  | r, x :: l => if (opR times r x).2 = 0 then foldR times (opR times r x).1 l else ((false, [], []), (opR times r x).2)
def foldL (times : Bool) (r : RT) (l : List RT) : RT × Int := if l.all formR = true then foldR times r l else ((false, [], []), 20)
structure RM (p : RT) : Prop where
  wn : Wf p.2.1
  wd : Wf p.2.2
  ln : p.2.1.length ≤ 16
  ld : p.2.2.length ≤ 16
theorem RM.rw {p : RT} (h : RM p) : RW p := ⟨h.wn, h.wd, by have := h.ln; omega, by have := h.ld; omega⟩
theorem RM.of {p : RT} (h : RW p) (hf : formR p = true) : RM p := ⟨h.wn, h.wd, (form_len hf).1, (form_len hf).2.1⟩
theorem mkR_M (b : Bool) (u v : Int) : RM (mkR b u v).1 := by
  refine ⟨?_, ?_, (mkR_len b u v).1, (mkR_len b u v).2⟩
  · unfold mkR
    split
    · exact Wf.nil
    · split
      · exact Wf.nil
      · split
        · exact N_wf _
        · exact Wf.nil
  · unfold mkR
    split
    · exact Wf.nil
    · split
      · exact Wf.one (by decide) (by decide)
      · split
        · exact N_wf _
        · exact Wf.nil
theorem opR_M (t : Bool) (p q : RT) : RM (opR t p q).1 := by
  unfold opR
  split
  · exact mkR_M _ _ _
  · unfold addR
    split
    · exact mkR_M _ _ _
    · split <;> exact mkR_M _ _ _
theorem opR_form {t : Bool} {p q : RT} (hp : RM p) (hq : RM q) (h : (opR t p q).2 = 0) : formR (opR t p q).1 = true := by
  have a1 := val_nonneg hp.wn
  have a2 := val_nonneg hp.wd
  have b1 := val_nonneg hq.wn
  have b2 := val_nonneg hq.wd
  have p1 := Int.mul_nonneg a1 b2
  have p2 := Int.mul_nonneg b1 a2
  have p3 := Int.mul_nonneg a2 b2
  have p4 := Int.mul_nonneg a1 b1
  unfold opR at h ⊢
  split at h
  · rename_i ht
    rw [if_pos ht]
    exact mk_form p4 p3 h
  · rename_i ht
    rw [if_neg ht]
    unfold addR at h ⊢
    split at h
    · rename_i hb
      rw [if_pos hb]
      exact mk_form (by omega) p3 h
    · rename_i hb
      rw [if_neg hb]
      split at h
      · rename_i hc
        rw [if_pos hc]
        exact mk_form (by omega) p3 h
      · rename_i hc
        rw [if_neg hc]
        exact mk_form (by omega) p3 h
theorem opR_zero {t : Bool} {p q : RT} (h : (opR t p q).2 ≠ 0) : (opR t p q).1 = (false, [], []) := by
  have key : ∀ b u v, (mkR b u v).2 ≠ 0 → (mkR b u v).1 = (false, [], []) := by
    intro b u v
    unfold mkR
    split
    · simp
    · split
      · simp
      · split <;> simp
  unfold opR at h ⊢
  split at h
  · rename_i ht; rw [if_pos ht]; exact key _ _ _ h
  · rename_i ht
    rw [if_neg ht]
    unfold addR at h ⊢
    split at h
    · rename_i hb; rw [if_pos hb]; exact key _ _ _ h
    · rename_i hb
      rw [if_neg hb]
      split at h
      · rename_i hc; rw [if_pos hc]; exact key _ _ _ h
      · rename_i hc; rw [if_neg hc]; exact key _ _ _ h
theorem foldR_drop {t : Bool} {r : RT} {l : List RT} {i : Nat} (h : i < l.length) : foldR t r (l.drop i) = if (opR t r l[i]).2 = 0 then foldR t (opR t r l[i]).1 (l.drop (i + 1)) else ((false, [], []), (opR t r l[i]).2) := by
  rw [List.drop_eq_getElem_cons h]; rfl
theorem s_fold (t : Bool) (r : RT) (l : List RT) (hr : RM r) (hl : l.length ≤ 4611686018427387904) (hw : ∀ p ∈ l, RW p) : Spec Try.prog 105 [RA r.1 r.2.1 r.2.2, RS l, .sc (.bool t)] (resR (foldL t r l)) := by
  refine spec_of_awp mixed Try.func105 rfl Try.call105 (by kernel_rfl) (by simp) rfl ?_
  refine T (call_by (s_forms l hl hw) ?_)
  have el := rc_len l
  rw [foldL]
  cases hf : l.all formR with
  | false =>
    rw [if_neg (by decide)]
    refine T (r_ret ?_)
    exact R (wk_zero _)
  | true =>
    rw [if_pos rfl]
    rw [List.all_eq_true] at hf
    obtain ⟨b0, n0, d0⟩ := r
    refine T ?_
    refine w_loop (α := Nat × RT) (fun p => [(.t 2, .sc (.bool t)), (.t 3, .hp 3 1 0), (.h 3, rb p.2), (.t 6, .hp 6 1 0), (.h 6, .blk 1 2 [.sc (.bool false), .sc (.slice none 0 0), .sc (.slice none 0 0)]), (.t 15, RS l), (.t 16, .sc (.int .i64 (l.length : Int))), (.t 17, .sc (.int .i64 (p.1 : Int)))])
      (fun p => p.1 ≤ l.length ∧ RM p.2 ∧ foldR t p.2 (l.drop p.1) = foldR t (b0, n0, d0) l) (fun p => l.length - p.1) (0, (b0, n0, d0)) ⟨Nat.zero_le _, hr, by simp⟩ ?_ ?_
    · exact Hv
    rintro ⟨i, b, n, d⟩ r' ⟨h1, h2, h3⟩ J hJ
    simp only at h1 h2 h3
    by_cases hi : i < l.length
    · have e := rc_at l i hi
      have w := RM.of (hw _ (List.getElem_mem hi)) (hf _ (List.getElem_mem hi))
      rw [foldR_drop hi] at h3
      have hM := opR_M t (b, n, d) l[i]
      have ez := opR_zero (t := t) (p := (b, n, d)) (q := l[i])
      have hop : opR t (b, n, d) l[i] = if t = true then mulR (b, n, d) l[i] else addR (b, n, d) l[i] := rfl
      cases t with
      | true =>
        rw [if_pos rfl] at hop
        refine T ?_
        simp only [e, rc]
        refine T (call_by (s_mul b l[i].1 n d l[i].2.1 l[i].2.2 h2.wn h2.wd w.wn w.wd h2.ln h2.ld w.ln w.ld) ?_)
        rw [show mkR (b != l[i].1) (val n * val l[i].2.1) (val d * val l[i].2.2) = opR true (b, n, d) l[i] from hop.symm]
        clear hop
        generalize opR true (b, n, d) l[i] = s at *
        obtain ⟨⟨sb, sn, sd⟩, se⟩ := s
        simp only at *
        by_cases hs : se = 0
        · rw [if_pos hs] at h3
          refine T ?_
          refine hJ _ (i + 1, sb, sn, sd) (by show _ - (i + 1) < _ - i; omega) ⟨by show i + 1 ≤ _; omega, hM, h3⟩ Hv
        · rw [if_neg hs] at h3
          refine T (r_ret ?_)
          rw [← h3]
          exact R (wk_zero _)
      | false =>
        rw [if_neg (by decide)] at hop
        refine T ?_
        simp only [e, rc]
        refine T (call_by (s_add (b, n, d) l[i] h2.wn h2.wd w.wn w.wd h2.ln h2.ld w.ln w.ld) ?_)
        rw [show addR (b, n, d) l[i] = opR false (b, n, d) l[i] from hop.symm]
        clear hop
        generalize opR false (b, n, d) l[i] = s at *
        obtain ⟨⟨sb, sn, sd⟩, se⟩ := s
        simp only at *
        by_cases hs : se = 0
        · rw [if_pos hs] at h3
          refine T ?_
          refine hJ _ (i + 1, sb, sn, sd) (by show _ - (i + 1) < _ - i; omega) ⟨by show i + 1 ≤ _; omega, hM, h3⟩ Hv
        · rw [if_neg hs] at h3
          refine T (r_ret ?_)
          rw [← h3]
          exact R (wk_zero _)
    · rw [List.drop_of_length_le (by omega)] at h3
      refine TR ?_
      rw [← h3]
      rfl
theorem s_Sum (l : List RT) (hl : l.length ≤ 4611686018427387904) (hw : ∀ p ∈ l, RW p) : Spec Try.prog 66 [RS l] (resR (foldL false r0 l)) := by
  refine spec_of_awp mixed Try.func66 rfl Try.call66 (by kernel_rfl) (by simp) rfl ?_
  refine T (call_by of0 ?_)
  refine T (call_by (s_fold false r0 l ⟨Wf.nil, Wf.one (by decide) (by decide), by decide, by decide⟩ hl hw) ?_)
  exact TR rfl
theorem s_Product (l : List RT) (hl : l.length ≤ 4611686018427387904) (hw : ∀ p ∈ l, RW p) : Spec Try.prog 68 [RS l] (resR (foldL true r1 l)) := by
  refine spec_of_awp mixed Try.func68 rfl Try.call68 (by kernel_rfl) (by simp) rfl ?_
  refine T (call_by of1 ?_)
  refine T (call_by (s_fold true r1 l ⟨Wf.one (by decide) (by decide), Wf.one (by decide) (by decide), by decide, by decide⟩ hl hw) ?_)
  exact TR rfl
end Go.Ab
end
