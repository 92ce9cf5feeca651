import Derived.Test.YtgffficaoioljaaCe14
import Derived.Test.YtgffficaoioljaaCe17
import Derived.Test.YtgffficaoioljaaCe21
import Derived.Test.YtgffficaoioljaaCe11
import Derived.Test.YtgffficaoioljaaCe19
import Derived.Test.YtgffficaoioljaaCe20
import Derived.Test.YtgffficaoioljaaCe15
section
namespace Go.Proofs.Ytgffficaoioljaa.PlN
open Go.RowKit Go.Proofs.Ytgffficaoioljaa.P Go.Proofs.Ytgffficaoioljaa.Pl Go.Proofs.Ytgffficaoioljaa.PlA Go.Proofs.YtgffficaoioljaaW.PrintWords Go.Proofs.YtgffficaoioljaaW.PrintLast Go.Proofs.YtgffficaoioljaaW.PrintMore
set_option linter.unusedVariables false
def formOf (l : List Int) : Bool := if l.length ≤ 16 then (if l.length = 0 then true else rd l ((l.length - 1 : Nat) : Int) != 0) else false
theorem limbForm (l : List Int) : limb_Form.f l = some (formOf l) := by
  unfold limb_Form.f formOf
  by_cases h1 : l.length ≤ 16
  · rw [if_pos (by omega), if_pos h1]
    by_cases h2 : l.length = 0
    · rw [if_pos (by omega), if_pos h2]
    · have e1 : wrap64 ((l.length : Int) - 1) = ((l.length - 1 : Nat) : Int) := by rw [w64 (by omega) (by omega)]; omega
      rw [if_neg (by omega), if_neg h2, e1, if_pos (by omega), if_pos (by omega)]
  · rw [if_neg (by omega), if_neg h1]
end Go.Proofs.Ytgffficaoioljaa.PlN
end
section
namespace Go.Proofs.Ytgffficaoioljaa.PlN
open Go.RowKit Go.Proofs.Ytgffficaoioljaa.P Go.Proofs.Ytgffficaoioljaa.Pl Go.Proofs.Ytgffficaoioljaa.PlA Go.Proofs.YtgffficaoioljaaW.PrintWords Go.Proofs.YtgffficaoioljaaW.PrintLast Go.Proofs.YtgffficaoioljaaW.PrintMore
set_option linter.unusedVariables false
theorem Is.form {r : List Int} {v : Int} (h : Is r v) (hl : r.length ≤ 16) : formOf r = true := by
  unfold formOf
  rw [if_pos hl]
  by_cases h0 : r.length = 0
  · rw [if_pos h0]
  · rw [if_neg h0]
    have := top_nonzero h.wf h.nm h0
    simp; omega
theorem bits_val {l : List Int} (hw : Wf l) : bitsOf (trim l) = 0 ↔ val l = 0 := by
  have ia := Is.of hw rfl
  rw [bitsOf_zero ia.wf ia.nm]
  exact ia.zero_iff
theorem limbQR_zero (a b : List Int) (hb : Wf b) (hlb : b.length ≤ 35184372088830) (h : val b = 0) : Ev (fun k => limb_QuoRem.f k a b) ([], [], 10) := by
  unfold limb_QuoRem.f
  refine Ev.bind (natsBits b hb (by omega)) ?_
  exact Ev.congr (fun k => if_pos ((bits_val hb).2 h)) (Ev.now _)
theorem limbQR (a b : List Int) (ha : Wf a) (hb : Wf b) (hl : a.length ≤ 35184372088830) (hlb : b.length ≤ 35184372088830) (h : val b ≠ 0) : ∃ q r, Is q (val a / val b) ∧ Is r (val a % val b) ∧
    Ev (fun k => limb_QuoRem.f k a b) (if q.length > 16 ∨ r.length > 16 then ([], [], 4) else (q, r, 0)) := by
  obtain ⟨q, r, h1, h2, h3⟩ := quorem a b ha hb hl hlb h
  refine ⟨q, r, h2, h3, ?_⟩
  unfold limb_QuoRem.f
  refine Ev.bind (natsBits b hb (by omega)) ?_
  refine Ev.congr (fun k => if_neg (fun e => h ((bits_val hb).1 e))) ?_
  refine Ev.bind h1 ?_
  by_cases c1 : q.length > 16
  · rw [show (if q.length > 16 ∨ r.length > 16 then (([] : List Int), ([] : List Int), (4 : Int)) else (q, r, 0)) = ([], [], 4) from if_pos (.inl c1)]
    exact Ev.congr (fun k => if_pos (show (q.length : Int) > 16 by omega)) (Ev.now _)
  · refine Ev.congr (fun k => if_neg (show ¬ (q.length : Int) > 16 by omega)) ?_
    by_cases c2 : r.length > 16
    · rw [show (if q.length > 16 ∨ r.length > 16 then (([] : List Int), ([] : List Int), (4 : Int)) else (q, r, 0)) = ([], [], 4) from if_pos (.inr c2)]
      exact Ev.congr (fun k => if_pos (show (r.length : Int) > 16 by omega)) (Ev.now _)
    · rw [show (if q.length > 16 ∨ r.length > 16 then (([] : List Int), ([] : List Int), (4 : Int)) else (q, r, 0)) = (q, r, 0) from if_neg (by omega)]
      exact Ev.congr (fun k => if_neg (show ¬ (r.length : Int) > 16 by omega)) (Ev.now _)
theorem divided (a b : List Int) (ha : Wf a) (hb : Wf b) (hl : a.length ≤ 35184372087808) (hlb : b.length ≤ 35184372087808) : Ev (fun k => sibyllaw01_LimbDivided.f k a b) true := by
  have ia := Is.of ha rfl
  have han := val_nonneg ha
  have hbn := val_nonneg hb
  unfold sibyllaw01_LimbDivided.f
  refine Ev.bind wakes ?_
  refine Ev.congr (fun k => if_pos rfl) ?_
  rw [own a (by omega), own b (by omega)]
  simp only [Option.bind_some]
  by_cases h0 : val b = 0
  · refine Ev.bind (limbQR_zero a b hb (by omega) h0) ?_
    refine Ev.congr (fun k => if_neg (by decide)) (Ev.congr (fun k => if_pos rfl) (Ev.congr (fun k => if_pos rfl) ?_))
    refine Ev.bind (limbBits b hb (by omega)) ?_
    exact Ev.congr (fun k => if_pos ((bits_val hb).2 h0)) (Ev.now _)
  · obtain ⟨q, r, hq, hr, hE⟩ := limbQR a b ha hb (by omega) (by omega) h0
    have hqa : q.length ≤ (trim a).length := by
      refine hq.len (Int.lt_of_le_of_lt ?_ ia.lt)
      exact Int.ediv_le_self _ han
    have hra : r.length ≤ (trim a).length := by
      refine hr.len (Int.lt_of_le_of_lt ?_ ia.lt)
      have h1 := Int.mul_nonneg hbn (Int.ediv_nonneg han hbn)
      have h2 := Int.emod_def (val a) (val b)
      omega
    by_cases c : q.length > 16 ∨ r.length > 16
    · rw [if_pos c] at hE
      refine Ev.bind hE ?_
      refine Ev.congr (fun k => if_neg (by decide)) (Ev.congr (fun k => if_pos rfl) (Ev.congr (fun k => if_pos rfl) ?_))
      refine Ev.bind (limbBits b hb (by omega)) ?_
      refine Ev.congr (fun k => if_neg (fun e => h0 ((bits_val hb).1 e))) ?_
      refine Ev.bind (limbBits a ha (by omega)) ?_
      rw [decide_eq_true ((bitsOf_big ia.wf ia.nm).2 (by omega))]
      exact Ev.now _
    · rw [if_neg c] at hE
      have hb0 : 0 < val b := by omega
      refine Ev.bind hE ?_
      refine Ev.congr (fun k => if_pos rfl) ?_
      refine Ev.bind (limbCmp r b hr.wf hb (by omega) (by omega)) ?_
      refine Ev.congr (fun k => if_pos (sgn_neg.2 (by rw [hr.val]; exact Int.emod_lt_of_pos _ hb0))) ?_
      rw [limbForm, limbForm]
      simp only [Option.bind_some]
      refine Ev.congr (fun k => if_pos (Is.form hq (by omega))) (Ev.congr (fun k => if_pos (Is.form hr (by omega))) ?_)
      obtain ⟨p, hp, hP⟩ := times q b hq.wf hb (by omega)
      rw [hq.val] at hP
      have hdm : val a / val b * val b + val a % val b = val a := by have := Int.emod_def (val a) (val b); have e := Int.mul_comm (val b) (val a / val b); omega
      have hr0 := Int.emod_nonneg (val a) h0
      have hpl : p.length ≤ a.length := hP.len (Int.lt_of_le_of_lt (show val a / val b * val b ≤ val a by omega) (val_lt ha))
      obtain ⟨t, ht, hT⟩ := plus p r hP.wf hr.wf (by omega) (by omega)
      rw [hP.val, hr.val, hdm] at hT
      have htl : t.length ≤ a.length := hT.len (val_lt ha)
      refine Ev.bind hp (Ev.bind ht (Ev.bind (rcmp t a hT.wf ha (by omega) (by omega)) ?_))
      rw [hT.val, sgn_zero.2 rfl]
      exact Ev.now _
theorem dividedP : sibyllaw01_LimbDivided.Pure := fun l0 l1 _ h0 w0 _ h1 w1 => (divided l0 l1 (wf_lit w0) (wf_lit w1) (by omega) (by omega)).rounds
end Go.Proofs.Ytgffficaoioljaa.PlN
end
section
namespace Go.Proofs.Ytgffficaoioljaa.Pure
theorem LimbDivided : P.sibyllaw01_LimbDivided.Pure := PlN.dividedP
end Go.Proofs.Ytgffficaoioljaa.Pure
end
