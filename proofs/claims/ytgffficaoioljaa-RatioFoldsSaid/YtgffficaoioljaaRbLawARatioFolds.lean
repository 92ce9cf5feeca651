import Derived.Test.YtgffficaoioljaaRows
import Derived.Test.YtgffficaoioljaaRbF
import Derived.Test.YtgffficaoioljaaRbW
import Derived.Test.YtgffficaoioljaaRbSlF
set_option linter.all false
section
namespace Go.Proofs.Ytgffficaoioljaa.ratioFolds
open Go.ChangeShapes Go.WideShapes Go.ChangeAt Go.RowKit
set_option linter.unusedVariables false
theorem own : ownKnob Try.prog.godebug = none := by kernel_rfl
theorem laidOut : laidOutB Try.prog = true := by kernel_rfl
set_option maxRecDepth 100000 in
theorem lifted (os : Os) (started : os.Started) (H : Type) (enc : TypeId × Value → H) :
    ReturnsInHanded {} Try.checked os 16 .any (Rows.ratioFoldsSpec.pre6 enc Try.prog Try.f16 Rows.ratioFoldsRow.domain false) (Rows.ratioFoldsSpec.post enc Try.prog Try.f16 false true false false) := by
  refine returnsInHanded_of_change_sized (C := Try.checked) own started (by kernel_rfl) Try.func16
    (ChangeSpec.witness6 (enc := enc) (C := Try.checked) false ⟨#[], #[.slice none 0 0], []⟩ 8 (by kernel_rfl) (by kernel_rfl) (by kernel_rfl) (by kernel_rfl)) ?_
  intro W base args ds gs before hval0 hW hcnd hsz0 _
  have hsz : (DataW.weightsEach Try.prog (Try.f16.params.toList ++ Rows.ratioFoldsSpec.plain.varTypes Try.prog) (ds ++ gs)).all (· ≤ reachBytes) = true := hsz0
  have hval : ∀ (j : Nat) t v, Try.f16.params[j]? = some t → args[j]? = some v → Value.okWide Try.prog W .any base t v := hval0
  have hW' := hW
  obtain ⟨p, q, hA0, hV, rfl, hfz, hnd⟩ := hW
  have hA : DataW.TrodAll enc Try.prog W 0 (fun _ => true) true Try.f16.params.toList args.toList ds p := hA0
  rw [Try.params16] at hA hval hsz
  have hA1 := hA
  obtain ⟨v0, vs0, d0, ds0, p0, q0, hargs, rfl, rfl, h0, r0⟩ := trodAll_cons hA
  obtain ⟨rfl, rfl, rfl⟩ := trodAll_nil r0
  obtain rfl : args = #[v0] := by cases args; simp_all
  obtain ⟨rfl, rfl⟩ := trodVars_none hV
  obtain ⟨x0, rx0, tx0⟩ := Go.Ab.top_open (P := Try.prog) 8 (by kernel_rfl) (hval 0 67 v0 rfl rfl) h0 (fun m hm => by simpa using List.all_eq_true.1 hsz m (DataW.weights_mem_each (j := 0) (t := 67) (d := d0) rfl rfl m hm))
  obtain ⟨l0, rfl, f0_0, f0_1, f0_2⟩ := Go.Ab.top_RS tx0
  refine Go.Ab.true_calls (vs := [v0]) (Go.Ab.l_RatioFolds l0 f0_0 f0_1 f0_2) (by simp only [Go.Ab.RepL]; exact ⟨rx0, trivial⟩) (post := fun v W' => Rows.ratioFoldsSpec.post enc Try.prog Try.f16 false true false false W #[v0] v W') fun W' bel => ?_
  exact ⟨_, _, _, [], _, [], hW', trodAll_mk1 (shut_bool Try.underlying4 _), Go.Ab.trodAll_below laidOut bel _ _ _ _ (by kernel_rfl) hA1 (Go.Ab.trodAll_lt _ _ _ _ hA1), rfl, bel.frame _, fun h => by cases h⟩
theorem over : Rows.ratioFoldsRow.holds Try.pinned (OpenSpec.ofChange Rows.ratioFoldsSpec) :=
  OpenClaim.holds_of_wide 16 Try.f16 rfl rfl rfl rfl rfl rfl rfl ⟨rfl, rfl, rfl, rfl, rfl⟩ rfl rfl rfl rfl rfl (by kernel_rfl) Try.func16 (by kernel_rfl)
    (of_decide_eq_true (by kernel_rfl)) (by unfold Func.isWrapper; first | (rw [if_pos (by decide +kernel)]; kernel_rfl) | (rw [if_neg (by decide +kernel)]; exact ⟨rfl, rfl⟩))
    (fun os started H enc _ => lifted os started H enc)
theorem proved : Rows.RatioFoldsSaid := over
end Go.Proofs.Ytgffficaoioljaa.ratioFolds
namespace Go.Proofs.Ytgffficaoioljaa
theorem ratioFolds_holds : Rows.RatioFoldsSaid := ratioFolds.proved
end Go.Proofs.Ytgffficaoioljaa
end
