import Derived.Test.YtiamjfckgmnijaaGreatDoorRows
import Derived.Test.YtiamjfckgmnijaaGreatDoorCards
import Derived.Test.YtiamjfckgmnijaaGreatDoorTie
import Derived.Test.YtiamjfckgmnijaaGreatDoorFnF
import Derived.Test.YtiamjfckgmnijaaGreatDoorFnAbW
import Derived.Test.YtiamjfckgmnijaaGreatDoorFnNb
import Derived.Test.YtiamjfckgmnijaaGreatDoorFnNt9
import Derived.Test.YtiamjfckgmnijaaGreatDoorFnFl5
import Derived.Test.YtiamjfckgmnijaaGreatDoorFnW
import Derived.SevenTiedAt
import Derived.Stop.Joined
import Derived.ProofKit
set_option linter.all false
section
namespace Go.Proofs.YtiamjfckgmnijaaGreatDoor.floatsNearest
open Go.ChangeShapes Go.WideShapes Go.ChangeAt Go.RowKit
set_option linter.unusedVariables false
theorem own : ownKnob Tryz.prog.godebug = none := by kernel_rfl
theorem laidOut : laidOutB Tryz.prog = true := by kernel_rfl
set_option maxRecDepth 100000 in
theorem lifted (os : Os) (started : os.Started) (H : Type) (enc : TypeId × Value → H) :
    ReturnsInHanded {} Tryz.checked os 5 .any (fun w args => (Rows.floatsNearestSpec.pre enc Tryz.prog Tryz.f5 Rows.floatsNearestRow.domain false w args ∧ laidMetH Tryz.prog Go.Ab.laidL w) ∧ sizedMet enc Tryz.prog Tryz.f5 (OpenSpec.ofChange Rows.floatsNearestSpec) false w args) (Rows.floatsNearestSpec.post enc Tryz.prog Tryz.f5 false true false false) := by
  refine returnsInHanded_of_change_and (C := Tryz.checked) (X := fun w _ => laidMetH Tryz.prog Go.Ab.laidL w) (fun _ _ _ hh h => h.of_heap hh) own started (by kernel_rfl) Tryz.func5
    (ChangeSpec.witness_shaped (enc := enc) (C := Tryz.checked) (os := os) (X := fun w _ => laidMetH Tryz.prog Go.Ab.laidL w) false (World.laidAll Tryz.prog os Go.Ab.laidL) #[.agg #[.bool false, .slice none 0 0, .slice none 0 0]] 8 (World.laidAll_os _ _ _)
      (World.shaped_of_ZipB (by kernel_rfl) (by kernel_rfl)) (by kernel_rfl) (by kernel_rfl) (by kernel_rfl)
      (by rw [MakeChecks.laidMetH_plain _ _ _ (by kernel_rfl)]; exact laidMet_laidAll _ (by kernel_rfl) (by kernel_rfl))) ?_
  intro W base args ds gs before hval0 hW hcnd hsz0 hL _
  have hsz : (DataW.weightsEach Tryz.prog (Tryz.f5.params.toList ++ Rows.floatsNearestSpec.plain.varTypes Tryz.prog) (ds ++ gs)).all (· ≤ reachBytes) = true := hsz0
  have hval : ∀ (j : Nat) t v, Tryz.f5.params[j]? = some t → args[j]? = some v → Value.okWide Tryz.prog W .any base t v := hval0
  have hW' := hW
  obtain ⟨p, q, hA0, hV, rfl, hfz, hnd⟩ := hW
  have hA : DataW.TrodAll enc Tryz.prog W 0 (fun _ => true) true Tryz.f5.params.toList args.toList ds p := hA0
  rw [Tryz.params5] at hA hval hsz
  have hA1 := hA
  obtain ⟨v0, vs0, d0, ds0, p0, q0, hargs, rfl, rfl, h0, r0⟩ := trodAll_cons hA
  obtain ⟨rfl, rfl, rfl⟩ := trodAll_nil r0
  obtain rfl : args = #[v0] := by cases args; simp_all
  obtain ⟨rfl, rfl⟩ := trodVars_none hV
  obtain ⟨x0, rx0, tx0⟩ := Go.Ab.top_open (P := Tryz.prog) 8 (by kernel_rfl) (hval 0 26 v0 rfl rfl) h0 (fun m hm => by simpa using List.all_eq_true.1 hsz m (DataW.weights_mem_each (j := 0) (t := 26) (d := d0) rfl rfl m hm))
  obtain ⟨p0, rfl, f0_0, f0_1⟩ := Go.Ab.top_RA tx0
  refine Go.Ab.true_calls (vs := [v0]) (Go.Ab.l_FloatsNearest Go.Ab.wakes3 p0 f0_0 f0_1) (by simp only [Go.Ab.RepL]; exact ⟨rx0, trivial⟩) (post := fun v W' => Rows.floatsNearestSpec.post enc Tryz.prog Tryz.f5 false true false false W #[v0] v W') (hp := fun W' bel => ?_) (hT := Go.Ab.tabs_ok hL)
  exact ⟨_, _, _, [], _, [], hW', trodAll_mk1 (shut_bool Tryz.underlying4 _), Go.Ab.trodAll_below laidOut bel _ _ _ _ (by kernel_rfl) hA1 (Go.Ab.trodAll_lt _ _ _ _ hA1), rfl, bel.frame _, fun h => by cases h⟩
theorem over : Rows.floatsNearestRow.holds Tryz.pinned (OpenSpec.ofChange Rows.floatsNearestSpec) :=
  OpenClaim.holds_of_wide 5 Tryz.f5 rfl rfl rfl rfl rfl rfl rfl ⟨rfl, rfl, rfl, rfl, rfl⟩ rfl rfl rfl rfl rfl (by kernel_rfl) Tryz.func5 (by kernel_rfl)
    (of_decide_eq_true (by kernel_rfl)) (by unfold Func.isWrapper; first | (rw [if_pos (by decide +kernel)]; kernel_rfl) | (rw [if_neg (by decide +kernel)]; exact ⟨rfl, rfl⟩))
    (fun os started H enc _ => lifted os started H enc)
theorem row : Rows.FloatsNearestSaid := over
theorem proved : Rows.FloatsNearestCardSaid :=
  Claim7.holds_tied_plain_at .later [] [.data, .data, .data, .sentinel, .sentinel] true (true, "34eb6fb83b291a50532ed449f1ea5d18d9a1b120b4f0aab42ac82192b3be2fd5") true row (fun _ h => by cases h) (by kernel_rfl) (fun _ h => by cases h) floatsNearest_row_tie rfl ⟨rfl, rfl⟩ (by kernel_rfl) rfl
    (fun f fn hf hfn => by
      obtain rfl : f = 5 := Option.some.inj ((show Tryz.prog.funcNamed "sibyl/sibyllaw03.FloatsNearest" = some 5 by kernel_rfl).symm.trans hf) |>.symm
      obtain rfl : fn = Tryz.f5 := (Option.some.inj (Tryz.func5.symm.trans hfn)).symm
      exact ⟨by kernel_rfl, fun j t ht => by
        rw [Tryz.params5] at ht
        have hm : t ∈ [26] := by simpa using Array.mem_of_getElem? ht
        have hall : ([26].all fun u => !Tryz.prog.wantsStandIn u) = true := by kernel_rfl
        exact (show Tryz.prog.wantsStandIn t = false by simpa using List.all_eq_true.1 hall t hm)⟩)
    (by kernel_rfl)
end Go.Proofs.YtiamjfckgmnijaaGreatDoor.floatsNearest
namespace Go.Proofs.YtiamjfckgmnijaaGreatDoor
theorem floatsNearest_holds : Rows.FloatsNearestCardSaid := floatsNearest.proved
end Go.Proofs.YtiamjfckgmnijaaGreatDoor
end
