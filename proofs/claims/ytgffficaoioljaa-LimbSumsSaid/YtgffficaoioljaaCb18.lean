import Derived.Test.YtgffficaoioljaaCb9
import Derived.Test.YtgffficaoioljaaCb17
import Derived.Test.YtgffficaoioljaaCb14
section
namespace Go.Proofs.Ytgffficaoioljaa.PlN
open Go.RowKit Go.Proofs.Ytgffficaoioljaa.P Go.Proofs.Ytgffficaoioljaa.Pl Go.Proofs.Ytgffficaoioljaa.PlA Go.Proofs.YtgffficaoioljaaW.PrintWords Go.Proofs.YtgffficaoioljaaW.PrintLast Go.Proofs.YtgffficaoioljaaW.PrintMore
set_option maxRecDepth 100000 in
theorem wakes_at : sibyllaw01_wakes.f 100 = some true := by decide +kernel
theorem wakes : Ev (fun k => sibyllaw01_wakes.f k) true := Ev.of sibyllaw01_wakes.mono wakes_at
end Go.Proofs.Ytgffficaoioljaa.PlN
end
section
namespace Go.Proofs.Ytgffficaoioljaa.PlN
open Go.RowKit Go.Proofs.Ytgffficaoioljaa.P Go.Proofs.Ytgffficaoioljaa.Pl Go.Proofs.Ytgffficaoioljaa.PlA Go.Proofs.YtgffficaoioljaaW.PrintWords Go.Proofs.YtgffficaoioljaaW.PrintLast Go.Proofs.YtgffficaoioljaaW.PrintMore
set_option linter.unusedVariables false
theorem sums_j0 (a b : List Int) (ha : Wf a) (hb : Wf b) (hl : a.length < 35184372088831) (hlb : b.length < 35184372088831) (d : List Int × Int) (hd : Ev (fun k => limb_Sub.f k a b) d) : Ev (fun k => sibyllaw01_LimbSums.j0 k a b d.1 d.2 false) true := by
  refine Ev.step (f := fun k => (sibylref01_Cmp.f k a b).bind fun t909 => (if t909 < 0 then (if (d.1.length : Int) = 0 then (some (d.2 == 11)) else (some false)) else ((sibylref01_Minus.f k a b).bind fun t910 => ((sibylref01_Fit.f k t910).bind fun bt913 => ((sibylref01_Same.f k d.1 bt913.1).bind fun t917 => (if t917 = true then (some (d.2 == bt913.2)) else (some false))))))) (fun k => ?_) ?_
  · simp only [sibyllaw01_LimbSums.j0]
    rw [if_neg (by decide)]
  · refine Ev.bind (rcmp a b ha hb (by omega) (by omega)) ?_
    by_cases h : val a < val b
    · refine Ev.congr (fun k => if_pos (sgn_neg.2 h)) ?_
      obtain rfl : d = ([], 11) := ev_uniq hd (limbSub_lt a b ha hb (by omega) (by omega) h)
      exact Ev.now _
    · refine Ev.congr (fun k => if_neg (fun hn => h (sgn_neg.1 hn))) ?_
      obtain ⟨r, hr, hI⟩ := limbSub a b ha hb hl hlb (by omega)
      obtain ⟨s, hs, hJ⟩ := minus a b ha hb (by omega) (by omega) (by omega)
      obtain rfl := hI.eq hJ
      obtain rfl : d = fitOf r := ev_uniq hd hr
      have hlen : r.length ≤ a.length := Is.len_le hI ha (by have := val_nonneg hb; omega)
      refine Ev.bind hs (Ev.bind (rfitI hI (by omega)) (Ev.bind (same_fit r) ?_))
      refine Ev.congr (fun k => if_pos rfl) ?_
      rw [beq_self_eq_true]
      exact Ev.now _
theorem sums (a b : List Int) (ha : Wf a) (hb : Wf b) (hl : a.length ≤ 35184372087808) (hlb : b.length ≤ 35184372087808) : Ev (fun k => sibyllaw01_LimbSums.f k a b) true := by
  unfold sibyllaw01_LimbSums.f
  refine Ev.bind wakes ?_
  refine Ev.congr (fun k => if_pos rfl) ?_
  rw [own a (by omega), own b (by omega)]
  simp only [Option.bind_some]
  obtain ⟨r, hr, hI⟩ := limbAdd a b ha hb (by omega) (by omega)
  obtain ⟨s, hs, hJ⟩ := plus a b ha hb (by omega) (by omega)
  obtain rfl := hI.eq hJ
  have hlen : r.length ≤ 35184372087809 := add_len ha hb hl hlb hI
  refine Ev.bind hr (Ev.bind hs (Ev.bind (rfitI hI (by omega)) ?_))
  have hd : ∃ d, Ev (fun k => limb_Sub.f k a b) d := by
    by_cases h : val a < val b
    · exact ⟨_, limbSub_lt a b ha hb (by omega) (by omega) h⟩
    · obtain ⟨r, hr, hI⟩ := limbSub a b ha hb (by omega) (by omega) (by omega)
      exact ⟨_, hr⟩
  obtain ⟨d, hd⟩ := hd
  refine Ev.bind hd (Ev.bind (same_fit r) ?_)
  refine Ev.congr (fun k => if_pos rfl) ?_
  rw [bne_self_eq_false]
  exact sums_j0 a b ha hb (by omega) (by omega) d hd
theorem sumsP : sibyllaw01_LimbSums.Pure := fun l0 l1 _ h0 w0 _ h1 w1 => (sums l0 l1 (wf_lit w0) (wf_lit w1) (by omega) (by omega)).rounds
end Go.Proofs.Ytgffficaoioljaa.PlN
end
section
namespace Go.Proofs.Ytgffficaoioljaa.Pure
theorem LimbSums : P.sibyllaw01_LimbSums.Pure := PlN.sumsP
end Go.Proofs.Ytgffficaoioljaa.Pure
end
