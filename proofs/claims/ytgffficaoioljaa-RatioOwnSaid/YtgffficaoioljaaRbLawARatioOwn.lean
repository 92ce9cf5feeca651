import Derived.Test.YtgffficaoioljaaRows
import Derived.Test.YtgffficaoioljaaRbF
import Derived.Test.YtgffficaoioljaaRbSlQ
import Derived.Test.YtgffficaoioljaaRbSoV
set_option linter.all false
section
namespace Go.Proofs.Ytgffficaoioljaa.ratioOwn
open Go.ChangeShapes Go.WideShapes Go.ChangeAt Go.RowKit
set_option linter.unusedVariables false
theorem own : ownKnob Try.prog.godebug = none := by kernel_rfl
theorem laidOut : laidOutB Try.prog = true := by kernel_rfl
set_option maxRecDepth 100000 in
theorem lifted (os : Os) (started : os.Started) (H : Type) (enc : TypeId × Value → H) :
    ReturnsInHanded {} Try.checked os 17 .any (Rows.ratioOwnSpec.pre6 enc Try.prog Try.f17 Rows.ratioOwnRow.domain false) (Rows.ratioOwnSpec.post enc Try.prog Try.f17 false true false false) := by
  refine returnsInHanded_of_change_sized (C := Try.checked) own started (by kernel_rfl) Try.func17
    (ChangeSpec.witness6 (enc := enc) (C := Try.checked) false ⟨#[], #[.agg #[.bool false, .slice none 0 0, .slice none 0 0], .agg #[.bool false, .slice none 0 0, .slice none 0 0]], []⟩ 8 (by kernel_rfl) (by kernel_rfl) (by kernel_rfl) (by kernel_rfl)) ?_
  intro W base args ds gs before hval0 hW hcnd hsz0 _
  have hsz : (DataW.weightsEach Try.prog (Try.f17.params.toList ++ Rows.ratioOwnSpec.plain.varTypes Try.prog) (ds ++ gs)).all (· ≤ reachBytes) = true := hsz0
  have hval : ∀ (j : Nat) t v, Try.f17.params[j]? = some t → args[j]? = some v → Value.okWide Try.prog W .any base t v := hval0
  have hW' := hW
  obtain ⟨p, q, hA0, hV, rfl, hfz, hnd⟩ := hW
  have hA : DataW.TrodAll enc Try.prog W 0 (fun _ => true) true Try.f17.params.toList args.toList ds p := hA0
  rw [Try.params17] at hA hval hsz
  have hA1 := hA
  obtain ⟨v0, vs0, d0, ds0, p0, q0, hargs, rfl, rfl, h0, r0⟩ := trodAll_cons hA
  obtain ⟨v1, vs1, d1, ds1, p1, q1, rfl, rfl, rfl, h1, r1⟩ := trodAll_cons r0
  obtain ⟨rfl, rfl, rfl⟩ := trodAll_nil r1
  obtain rfl : args = #[v0, v1] := by cases args; simp_all
  obtain ⟨rfl, rfl⟩ := trodVars_none hV
  obtain ⟨x0, rx0, tx0⟩ := Go.Ab.top_open (P := Try.prog) 8 (by kernel_rfl) (hval 0 50 v0 rfl rfl) h0 (fun m hm => by simpa using List.all_eq_true.1 hsz m (DataW.weights_mem_each (j := 0) (t := 50) (d := d0) rfl rfl m hm))
  obtain ⟨p0, rfl, f0_0, f0_1⟩ := Go.Ab.top_RAT tx0
  obtain ⟨x1, rx1, tx1⟩ := Go.Ab.top_open (P := Try.prog) 8 (by kernel_rfl) (hval 1 50 v1 rfl rfl) h1 (fun m hm => by simpa using List.all_eq_true.1 hsz m (DataW.weights_mem_each (j := 1) (t := 50) (d := d1) rfl rfl m hm))
  obtain ⟨p1, rfl, f1_0, f1_1⟩ := Go.Ab.top_RAT tx1
  refine Go.Ab.true_calls (vs := [v0, v1]) (Go.Ab.l_RatioOwn p0 p1 f0_0 f1_0 f0_1 f1_1) (by simp only [Go.Ab.RepL]; exact ⟨rx0, rx1, trivial⟩) (post := fun v W' => Rows.ratioOwnSpec.post enc Try.prog Try.f17 false true false false W #[v0, v1] v W') fun W' bel => ?_
  exact ⟨_, _, _, [], _, [], hW', trodAll_mk1 (shut_bool Try.underlying4 _), Go.Ab.trodAll_below laidOut bel _ _ _ _ (by kernel_rfl) hA1 (Go.Ab.trodAll_lt _ _ _ _ hA1), rfl, bel.frame _, fun h => by cases h⟩
theorem over : Rows.ratioOwnRow.holds Try.pinned (OpenSpec.ofChange Rows.ratioOwnSpec) :=
  OpenClaim.holds_of_wide 17 Try.f17 rfl rfl rfl rfl rfl rfl rfl ⟨rfl, rfl, rfl, rfl, rfl⟩ rfl rfl rfl rfl rfl (by kernel_rfl) Try.func17 (by kernel_rfl)
    (of_decide_eq_true (by kernel_rfl)) (by unfold Func.isWrapper; first | (rw [if_pos (by decide +kernel)]; kernel_rfl) | (rw [if_neg (by decide +kernel)]; exact ⟨rfl, rfl⟩))
    (fun os started H enc _ => lifted os started H enc)
theorem proved : Rows.RatioOwnSaid := over
end Go.Proofs.Ytgffficaoioljaa.ratioOwn
namespace Go.Proofs.Ytgffficaoioljaa
theorem ratioOwn_holds : Rows.RatioOwnSaid := ratioOwn.proved
end Go.Proofs.Ytgffficaoioljaa
end
