import Derived.Test.YtgffficaoioljaaCa9
import Derived.Test.YtgffficaoioljaaCa17
import Derived.Test.YtgffficaoioljaaCa14
section
namespace Go.Proofs.Ytgffficaoioljaa.PlN
open Go.RowKit Go.Proofs.Ytgffficaoioljaa.P Go.Proofs.Ytgffficaoioljaa.Pl Go.Proofs.Ytgffficaoioljaa.PlA Go.Proofs.YtgffficaoioljaaW.PrintWords Go.Proofs.YtgffficaoioljaaW.PrintLast Go.Proofs.YtgffficaoioljaaW.PrintMore
set_option maxRecDepth 100000 in
theorem wakes_at : sibyllaw01_wakes.f 100 = some true := by decide +kernel
theorem wakes : Ev (fun k => sibyllaw01_wakes.f k) true := Ev.of sibyllaw01_wakes.mono wakes_at
end Go.Proofs.Ytgffficaoioljaa.PlN
end
section
namespace Go.Proofs.Ytgffficaoioljaa.PlN
open Go.RowKit Go.Proofs.Ytgffficaoioljaa.P Go.Proofs.Ytgffficaoioljaa.Pl Go.Proofs.Ytgffficaoioljaa.PlA Go.Proofs.YtgffficaoioljaaW.PrintWords Go.Proofs.YtgffficaoioljaaW.PrintLast Go.Proofs.YtgffficaoioljaaW.PrintMore
set_option linter.unusedVariables false
theorem fit_len (l : List Int) : (fitOf l).1.length ≤ 16 := by
  unfold fitOf
  split
  · simp
  · simp only; omega
theorem products (a b : List Int) (ha : Wf a) (hb : Wf b) (hl : a.length + b.length + 1 ≤ 35184372088831) : Ev (fun k => sibyllaw01_LimbProducts.f k a b) true := by
  unfold sibyllaw01_LimbProducts.f
  refine Ev.bind wakes ?_
  refine Ev.congr (fun k => if_pos rfl) ?_
  rw [own a (by omega), own b (by omega)]
  simp only [Option.bind_some]
  obtain ⟨r, hr, hI⟩ := mul a b ha hb (by omega) (by omega)
  obtain ⟨s, hs, hJ⟩ := times a b ha hb (by omega)
  have hrs : r = s := hI.eq hJ
  subst hrs
  have hlen : r.length ≤ 35184372088832 := by
    refine Nat.le_trans (hI.len (n := a.length + b.length) ?_) (by omega)
    have h1 := val_lt ha
    have h2 := val_lt hb
    have h3 := val_nonneg ha
    have h4 := val_nonneg hb
    rw [Int.pow_add]
    have := Int.mul_lt_mul_of_pos_left h2 (pow_pos' a.length)
    have := Int.mul_le_mul_of_nonneg_right (Int.le_of_lt h1) h4
    omega
  have hm : Ev (fun k => limb_Mul.f k a b) (fitOf r) := by
    unfold limb_Mul.f
    refine Ev.bind hr ?_
    refine Ev.congr (fun k => ?_) (Ev.now _)
    rw [fit]; rfl
  refine Ev.bind hm (Ev.bind hs ?_)
  have hf := rfit r hlen
  rw [hI.nm] at hf
  refine Ev.bind hf (Ev.bind (rsame_refl _ (Nat.le_trans (fit_len r) (by decide))) ?_)
  refine Ev.congr (fun k => if_pos rfl) ?_
  rw [beq_self_eq_true]
  exact Ev.now _
theorem productsU (l0 l1 : List Int) (h0 : l0.length ≤ 1048576) (w0 : ∀ x ∈ l0, (Lit.int .u32 x).wf = true) (h1 : l1.length ≤ 1048576) (w1 : ∀ x ∈ l1, (Lit.int .u32 x).wf = true) : ∃ k, sibyllaw01_LimbProducts.f k l0 l1 = some true :=
  (products l0 l1 (wf_lit w0) (wf_lit w1) (by omega)).rounds
end Go.Proofs.Ytgffficaoioljaa.PlN
end
