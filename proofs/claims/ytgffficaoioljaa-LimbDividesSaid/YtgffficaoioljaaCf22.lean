import Derived.Test.YtgffficaoioljaaCf15
import Derived.Test.YtgffficaoioljaaCf18
import Derived.Test.YtgffficaoioljaaCf21
import Derived.Test.YtgffficaoioljaaCf12
import Derived.Test.YtgffficaoioljaaCf19
import Derived.Test.YtgffficaoioljaaCf20
import Derived.Test.YtgffficaoioljaaCf16
section
namespace Go.Proofs.Ytgffficaoioljaa.PlN
open Go.RowKit Go.Proofs.Ytgffficaoioljaa.P Go.Proofs.Ytgffficaoioljaa.Pl Go.Proofs.Ytgffficaoioljaa.PlA Go.Proofs.YtgffficaoioljaaW.PrintWords Go.Proofs.YtgffficaoioljaaW.PrintLast Go.Proofs.YtgffficaoioljaaW.PrintMore
set_option linter.unusedVariables false
def formOf (l : List Int) : Bool := if l.length ≤ 16 then (if l.length = 0 then true else rd l ((l.length - 1 : Nat) : Int) != 0) else false
end Go.Proofs.Ytgffficaoioljaa.PlN
end
section
namespace Go.Proofs.Ytgffficaoioljaa.PlN
open Go.RowKit Go.Proofs.Ytgffficaoioljaa.P Go.Proofs.Ytgffficaoioljaa.Pl Go.Proofs.Ytgffficaoioljaa.PlA Go.Proofs.YtgffficaoioljaaW.PrintWords Go.Proofs.YtgffficaoioljaaW.PrintLast Go.Proofs.YtgffficaoioljaaW.PrintMore
set_option linter.unusedVariables false
theorem bits_val {l : List Int} (hw : Wf l) : bitsOf (trim l) = 0 ↔ val l = 0 := by
  have ia := Is.of hw rfl
  rw [bitsOf_zero ia.wf ia.nm]
  exact ia.zero_iff
theorem limbQR_zero (a b : List Int) (hb : Wf b) (hlb : b.length ≤ 35184372088830) (h : val b = 0) : Ev (fun k => limb_QuoRem.f k a b) ([], [], 10) := by
  unfold limb_QuoRem.f
  refine Ev.bind (natsBits b hb (by omega)) ?_
  exact Ev.congr (fun k => if_pos ((bits_val hb).2 h)) (Ev.now _)
theorem limbQR (a b : List Int) (ha : Wf a) (hb : Wf b) (hl : a.length ≤ 35184372088830) (hlb : b.length ≤ 35184372088830) (h : val b ≠ 0) : ∃ q r, Is q (val a / val b) ∧ Is r (val a % val b) ∧
    Ev (fun k => limb_QuoRem.f k a b) (if q.length > 16 ∨ r.length > 16 then ([], [], 4) else (q, r, 0)) := by
  obtain ⟨q, r, h1, h2, h3⟩ := quorem a b ha hb hl hlb h
  refine ⟨q, r, h2, h3, ?_⟩
  unfold limb_QuoRem.f
  refine Ev.bind (natsBits b hb (by omega)) ?_
  refine Ev.congr (fun k => if_neg (fun e => h ((bits_val hb).1 e))) ?_
  refine Ev.bind h1 ?_
  by_cases c1 : q.length > 16
  · rw [show (if q.length > 16 ∨ r.length > 16 then (([] : List Int), ([] : List Int), (4 : Int)) else (q, r, 0)) = ([], [], 4) from if_pos (.inl c1)]
    exact Ev.congr (fun k => if_pos (show (q.length : Int) > 16 by omega)) (Ev.now _)
  · refine Ev.congr (fun k => if_neg (show ¬ (q.length : Int) > 16 by omega)) ?_
    by_cases c2 : r.length > 16
    · rw [show (if q.length > 16 ∨ r.length > 16 then (([] : List Int), ([] : List Int), (4 : Int)) else (q, r, 0)) = ([], [], 4) from if_pos (.inr c2)]
      exact Ev.congr (fun k => if_pos (show (r.length : Int) > 16 by omega)) (Ev.now _)
    · rw [show (if q.length > 16 ∨ r.length > 16 then (([] : List Int), ([] : List Int), (4 : Int)) else (q, r, 0)) = (q, r, 0) from if_neg (by omega)]
      exact Ev.congr (fun k => if_neg (show ¬ (r.length : Int) > 16 by omega)) (Ev.now _)
end Go.Proofs.Ytgffficaoioljaa.PlN
end
section
namespace Go.Proofs.Ytgffficaoioljaa.PlN
open Go.RowKit Go.Proofs.Ytgffficaoioljaa.P Go.Proofs.Ytgffficaoioljaa.Pl Go.Proofs.Ytgffficaoioljaa.PlA Go.Proofs.YtgffficaoioljaaW.PrintWords Go.Proofs.YtgffficaoioljaaW.PrintLast Go.Proofs.YtgffficaoioljaaW.PrintMore
set_option linter.unusedVariables false
theorem divides_big (q r : List Int) : Ev (fun k => sibyllaw01_LimbDivides.j0 k [] [] 4 q r true) true := by
  refine Ev.step (f := fun _ => some true) (fun k => ?_) (Ev.now _)
  simp only [sibyllaw01_LimbDivides.j0]
  rfl
theorem divides_fit (q r : List Int) (h1 : q.length ≤ 16) (h2 : r.length ≤ 16) : Ev (fun k => sibyllaw01_LimbDivides.j0 k q r 0 q r false) true := by
  refine Ev.step (f := fun k => (sibylref01_Same.f k q q).bind fun t553 => if t553 = true then (sibylref01_Same.f k r r).bind fun t554 => if t554 = true then some ((0 : Int) == 0) else some false else some false) (fun k => ?_) ?_
  · simp only [sibyllaw01_LimbDivides.j0]
    rw [if_neg (by decide)]
  · exact Ev.bind (rsame_refl q (by omega)) (Ev.congr (fun k => if_pos rfl) (Ev.bind (rsame_refl r (by omega)) (Ev.congr (fun k => if_pos rfl) (Ev.now _))))
theorem divides (a b : List Int) (ha : Wf a) (hb : Wf b) (hl : a.length ≤ 35184372087808) (hlb : b.length ≤ 35184372087808) : Ev (fun k => sibyllaw01_LimbDivides.f k a b) true := by
  have hbn := val_nonneg hb
  unfold sibyllaw01_LimbDivides.f
  refine Ev.bind wakes ?_
  refine Ev.congr (fun k => if_pos rfl) ?_
  rw [own a (by omega), own b (by omega)]
  simp only [Option.bind_some]
  by_cases h0 : val b = 0
  · refine Ev.bind (limbQR_zero a b hb (by omega) h0) (Ev.bind (rbits b hb (by omega)) ?_)
    exact Ev.congr (fun k => if_pos ((bits_val hb).2 h0)) (Ev.congr (fun k => if_pos rfl) (Ev.congr (fun k => if_pos rfl) (Ev.now _)))
  · obtain ⟨q, r, hq, hr, hE⟩ := limbQR a b ha hb (by omega) (by omega) h0
    obtain ⟨q', r', hD, hq', hr'⟩ := rdivide a b ha hb hl hlb (by omega)
    obtain rfl := hq.eq hq'
    obtain rfl := hr.eq hr'
    refine Ev.bind hE (Ev.bind (rbits b hb (by omega)) ?_)
    refine Ev.congr (fun k => if_neg (fun e => h0 ((bits_val hb).1 e))) ?_
    refine Ev.bind hD ?_
    by_cases c1 : q.length > 16
    · rw [if_pos (.inl c1 : q.length > 16 ∨ r.length > 16)]
      exact Ev.congr (fun k => if_pos (show (q.length : Int) > 16 by omega)) (divides_big q r)
    · refine Ev.congr (fun k => if_neg (show ¬ (q.length : Int) > 16 by omega)) ?_
      by_cases c2 : r.length > 16
      · rw [if_pos (.inr c2 : q.length > 16 ∨ r.length > 16), decide_eq_true (show 16 < r.length from c2)]
        exact divides_big q r
      · rw [if_neg (show ¬ (q.length > 16 ∨ r.length > 16) by omega), decide_eq_false (show ¬ 16 < r.length from c2)]
        exact divides_fit q r (by omega) (by omega)
theorem dividesP : sibyllaw01_LimbDivides.Pure := fun l0 l1 _ h0 w0 _ h1 w1 => (divides l0 l1 (wf_lit w0) (wf_lit w1) (by omega) (by omega)).rounds
end Go.Proofs.Ytgffficaoioljaa.PlN
end
section
namespace Go.Proofs.Ytgffficaoioljaa.Pure
theorem LimbDivides : P.sibyllaw01_LimbDivides.Pure := PlN.dividesP
end Go.Proofs.Ytgffficaoioljaa.Pure
end
