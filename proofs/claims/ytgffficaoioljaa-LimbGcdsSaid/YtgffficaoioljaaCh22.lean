import Derived.Test.YtgffficaoioljaaCh20
import Derived.Test.YtgffficaoioljaaCh18
import Derived.Test.YtgffficaoioljaaCh21
import Derived.Test.YtgffficaoioljaaCh15
import Derived.Test.YtgffficaoioljaaCh19
section
namespace Go.Proofs.Ytgffficaoioljaa.PlN
open Go.RowKit Go.Proofs.Ytgffficaoioljaa.P Go.Proofs.Ytgffficaoioljaa.Pl Go.Proofs.Ytgffficaoioljaa.PlA Go.Proofs.YtgffficaoioljaaW.PrintWords Go.Proofs.YtgffficaoioljaaW.PrintLast Go.Proofs.YtgffficaoioljaaW.PrintMore
set_option linter.unusedVariables false
theorem gcds (a b : List Int) (ha : Wf a) (hb : Wf b) (hl : a.length ≤ 35184372088800) (hlb : b.length ≤ 35184372088800) : Ev (fun k => sibyllaw01_LimbGcds.f k a b) true := by
  obtain ⟨g, hg, ig⟩ := natsGcd a b ha hb (by omega) (by omega)
  obtain ⟨c, hc, ic⟩ := common a b ha hb hl hlb
  obtain rfl := ig.eq ic
  have na := val_nonneg ha
  have hlen : g.length ≤ 35184372088832 := by
    by_cases e : (val a).toNat = 0
    · have : g.length ≤ b.length := ig.len (by rw [e, Nat.gcd_zero_left, Int.toNat_of_nonneg (val_nonneg hb)]; exact val_lt hb)
      omega
    · have h1 := Nat.gcd_le_left (val b).toNat (show 0 < (val a).toNat by omega)
      have h2 := val_lt ha
      have : g.length ≤ a.length := ig.len (by omega)
      omega
  unfold sibyllaw01_LimbGcds.f
  refine Ev.bind wakes (Ev.congr (fun k => if_pos rfl) ?_)
  rw [own a (by omega), own b (by omega)]
  simp only [Option.bind_some]
  refine Ev.bind (fitted hg) (Ev.bind hc (Ev.bind (rfitI ic hlen) (Ev.bind (same_fit g) (Ev.congr (fun k => if_pos rfl) ?_))))
  rw [beq_self_eq_true]
  exact Ev.now _
theorem gcdsP : sibyllaw01_LimbGcds.Pure := fun l0 l1 _ h0 w0 _ h1 w1 => (gcds l0 l1 (wf_lit w0) (wf_lit w1) (by omega) (by omega)).rounds
end Go.Proofs.Ytgffficaoioljaa.PlN
end
section
namespace Go.Proofs.Ytgffficaoioljaa.Pure
theorem LimbGcds : P.sibyllaw01_LimbGcds.Pure := PlN.gcdsP
end Go.Proofs.Ytgffficaoioljaa.Pure
end
