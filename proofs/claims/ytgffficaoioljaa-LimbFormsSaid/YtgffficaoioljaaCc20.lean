import Derived.Test.YtgffficaoioljaaCc14
import Derived.Test.YtgffficaoioljaaCc17
import Derived.Test.YtgffficaoioljaaCc19
import Derived.Test.YtgffficaoioljaaCc11
import Derived.Test.YtgffficaoioljaaCc18
section
namespace Go.Proofs.Ytgffficaoioljaa.PlN
open Go.RowKit Go.Proofs.Ytgffficaoioljaa.P Go.Proofs.Ytgffficaoioljaa.Pl Go.Proofs.Ytgffficaoioljaa.PlA Go.Proofs.YtgffficaoioljaaW.PrintWords Go.Proofs.YtgffficaoioljaaW.PrintLast Go.Proofs.YtgffficaoioljaaW.PrintMore
set_option linter.unusedVariables false
theorem limbNorm (l : List Int) (hl : l.length < 35184372088832) : Ev (fun k => limb_Norm.f k l) (fitOf (trim l)) := fitted (natsTrim l hl)
def formOf (l : List Int) : Bool := if l.length ≤ 16 then (if l.length = 0 then true else rd l ((l.length - 1 : Nat) : Int) != 0) else false
theorem limbForm (l : List Int) : limb_Form.f l = some (formOf l) := by
  unfold limb_Form.f formOf
  by_cases h1 : l.length ≤ 16
  · rw [if_pos (by omega), if_pos h1]
    by_cases h2 : l.length = 0
    · rw [if_pos (by omega), if_pos h2]
    · have e1 : wrap64 ((l.length : Int) - 1) = ((l.length - 1 : Nat) : Int) := by rw [w64 (by omega) (by omega)]; omega
      rw [if_neg (by omega), if_neg h2, e1, if_pos (by omega), if_pos (by omega)]
  · rw [if_neg (by omega), if_neg h1]
theorem refForm (l : List Int) : sibylref01_Form.f l = some (formOf l) := limbForm l
theorem forms (a b : List Int) (ha : Wf a) (hb : Wf b) (hl : a.length ≤ 35184372087808) (hlb : b.length ≤ 35184372087808) : Ev (fun k => sibyllaw01_LimbForms.f k a b) true := by
  unfold sibyllaw01_LimbForms.f
  refine Ev.bind wakes ?_
  refine Ev.congr (fun k => if_pos rfl) ?_
  rw [own a (by omega), own b (by omega)]
  simp only [Option.bind_some]
  refine Ev.bind (limbNorm a (by omega)) (Ev.bind (rfit a (by omega)) ?_)
  rw [limbForm, refForm]
  simp only [Option.bind_some]
  refine Ev.congr (fun k => if_pos (by simp)) ?_
  refine Ev.bind (same_fit (trim a)) ?_
  refine Ev.congr (fun k => if_pos rfl) ?_
  refine Ev.congr (fun k => if_pos trivial) ?_
  refine Ev.bind (limbBits a ha (by omega)) (Ev.bind (rbits a ha (by omega)) ?_)
  refine Ev.congr (fun k => if_pos rfl) ?_
  refine Ev.bind (limbCmp a b ha hb (by omega) (by omega)) (Ev.bind (rcmp a b ha hb (by omega) (by omega)) ?_)
  rw [beq_self_eq_true]
  exact Ev.now _
theorem formsP : sibyllaw01_LimbForms.Pure := fun l0 l1 _ h0 w0 _ h1 w1 => (forms l0 l1 (wf_lit w0) (wf_lit w1) (by omega) (by omega)).rounds
end Go.Proofs.Ytgffficaoioljaa.PlN
end
section
namespace Go.Proofs.Ytgffficaoioljaa.Pure
theorem LimbForms : P.sibyllaw01_LimbForms.Pure := PlN.formsP
end Go.Proofs.Ytgffficaoioljaa.Pure
end
