import Derived.Test.YtgffficaoioljaaCd17
import Derived.Test.YtgffficaoioljaaCd14
import Derived.Test.YtgffficaoioljaaCd18
import Derived.Test.YtgffficaoioljaaCd20
import Derived.Test.YtgffficaoioljaaCd12
import Derived.Test.YtgffficaoioljaaCd19
section
namespace Go.Proofs.Ytgffficaoioljaa.PlN
open Go.RowKit Go.Proofs.Ytgffficaoioljaa.P Go.Proofs.Ytgffficaoioljaa.Pl Go.Proofs.Ytgffficaoioljaa.PlA Go.Proofs.YtgffficaoioljaaW.PrintWords Go.Proofs.YtgffficaoioljaaW.PrintLast Go.Proofs.YtgffficaoioljaaW.PrintMore
set_option linter.unusedVariables false
theorem pow16 : (4294967296 : Int) ^ 16 < 1000000000 ^ 18 ∧ (4294967296 : Int) ^ 16 < 10 ^ 155 := by decide +kernel
theorem limbText (a : List Int) (ha : Wf a) (hl : a.length ≤ 35184372088831) (h : (trim a).length ≤ 16) : Ev (fun k => limb_Text.f k a) (textOf (val a).toNat, 0) := by
  have ia := Is.of ha rfl
  unfold limb_Text.f
  refine Ev.bind (natsBits a ha (by omega)) ?_
  have hb : ¬ bitsOf (trim a) > 512 := fun hn => absurd ((bitsOf_big ia.wf ia.nm).1 hn) (by omega)
  refine Ev.congr (fun k => if_neg hb) ?_
  have h1 := ia.lt
  have h2 := pow_le h
  exact Ev.bind (digits a ha hl (Int.lt_of_lt_of_le h1 (Int.le_trans h2 (Int.le_of_lt pow16.1)))) (Ev.now _)
theorem limbText_big (a : List Int) (ha : Wf a) (hl : a.length ≤ 35184372088831) (h : 16 < (trim a).length) : Ev (fun k => limb_Text.f k a) (⟨#[]⟩, 4) := by
  have ia := Is.of ha rfl
  unfold limb_Text.f
  refine Ev.bind (natsBits a ha (by omega)) ?_
  exact Ev.congr (fun k => if_pos ((bitsOf_big ia.wf ia.nm).2 h)) (Ev.now _)
theorem text_both (a : List Int) (ha : Wf a) (hl : a.length ≤ 35184372088831) : ∃ R, Ev (fun k => limb_Text.f k a) R ∧ Ev (fun k => sibylref01_Text.f k a) R := by
  have ia := Is.of ha rfl
  rcases Nat.lt_or_ge 16 (trim a).length with h | h
  · exact ⟨_, limbText_big a ha hl h, rtext_big a ha (by omega) h⟩
  · have h1 := ia.lt
    have h2 := pow_le h
    exact ⟨_, limbText a ha hl h, rtext a ha (by omega) h (Int.lt_of_lt_of_le h1 (Int.le_trans h2 (Int.le_of_lt pow16.2)))⟩
theorem texts (a : List Int) (s : ByteArray) (ha : Wf a) (hl : a.length ≤ 35184372087808) : Ev (fun k => sibyllaw01_LimbTexts.f k a s) true := by
  unfold sibyllaw01_LimbTexts.f
  refine Ev.bind wakes ?_
  refine Ev.congr (fun k => if_pos rfl) ?_
  rw [own a (by omega)]
  simp only [Option.bind_some]
  obtain ⟨R, h1, h2⟩ := text_both a ha (by omega)
  obtain ⟨S, h3, h4, h5⟩ := read_both s
  refine Ev.bind h1 (Ev.bind h2 (Ev.bind h3 (Ev.bind h4 ?_)))
  refine Ev.congr (fun k => if_pos rfl) (Ev.congr (fun k => if_pos rfl) ?_)
  refine Ev.bind (rsame_refl _ (by omega)) (Ev.congr (fun k => if_pos rfl) ?_)
  rw [beq_self_eq_true]
  exact Ev.now _
theorem textsP : sibyllaw01_LimbTexts.Pure := fun l0 a1 _ h0 w0 _ => (texts l0 a1 (wf_lit w0) (by omega)).rounds
end Go.Proofs.Ytgffficaoioljaa.PlN
end
section
namespace Go.Proofs.Ytgffficaoioljaa.Pure
theorem LimbTexts : P.sibyllaw01_LimbTexts.Pure := PlN.textsP
end Go.Proofs.Ytgffficaoioljaa.Pure
end
