import Derived.Test.YtiamjfckgmnijaaDoorRows
import Derived.Test.YtiamjfckgmnijaaDoorCards
import Derived.Test.YtiamjfckgmnijaaDoorTie
import Derived.Test.YtiamjfckgmnijaaDoorFtF
import Derived.Test.YtiamjfckgmnijaaDoorFtAbW
import Derived.Test.YtiamjfckgmnijaaDoorFtNb
import Derived.Test.YtiamjfckgmnijaaDoorFtFk4
import Derived.Test.YtiamjfckgmnijaaDoorFtFl5
import Derived.SevenTiedAt
import Derived.Stop.Joined
import Derived.ProofKit
set_option linter.all false
section
namespace Go.Proofs.YtiamjfckgmnijaaDoor.floatsBack
open Go.ChangeShapes Go.WideShapes Go.ChangeAt Go.RowKit
set_option linter.unusedVariables false
theorem own : ownKnob Tryd.prog.godebug = none := by kernel_rfl
theorem laidOut : laidOutB Tryd.prog = true := by kernel_rfl
set_option maxRecDepth 100000 in
theorem lifted (os : Os) (started : os.Started) (H : Type) (enc : TypeId × Value → H) :
    ReturnsInHanded {} Tryd.checked os 8 .any (fun w args => (Rows.floatsBackSpec.pre enc Tryd.prog Tryd.f8 Rows.floatsBackRow.domain false w args ∧ laidMetH Tryd.prog Go.Ab.laidL w) ∧ sizedMet enc Tryd.prog Tryd.f8 (OpenSpec.ofChange Rows.floatsBackSpec) false w args) (Rows.floatsBackSpec.post enc Tryd.prog Tryd.f8 false true false false) := by
  refine returnsInHanded_of_change_and (C := Tryd.checked) (X := fun w _ => laidMetH Tryd.prog Go.Ab.laidL w) (fun _ _ _ hh h => h.of_heap hh) own started (by kernel_rfl) Tryd.func8
    (ChangeSpec.witness_shaped (enc := enc) (C := Tryd.checked) (os := os) (X := fun w _ => laidMetH Tryd.prog Go.Ab.laidL w) false (World.laidAll Tryd.prog os Go.Ab.laidL) #[.int .u64 0] 8 (World.laidAll_os _ _ _)
      (World.shaped_of_ZipB (by kernel_rfl) (by kernel_rfl)) (by kernel_rfl) (by kernel_rfl) (by kernel_rfl)
      (by rw [MakeChecks.laidMetH_plain _ _ _ (by kernel_rfl)]; exact laidMet_laidAll _ (by kernel_rfl) (by kernel_rfl))) ?_
  intro W base args ds gs before hval0 hW hcnd hsz0 hL _
  have hsz : (DataW.weightsEach Tryd.prog (Tryd.f8.params.toList ++ Rows.floatsBackSpec.plain.varTypes Tryd.prog) (ds ++ gs)).all (· ≤ reachBytes) = true := hsz0
  have hval : ∀ (j : Nat) t v, Tryd.f8.params[j]? = some t → args[j]? = some v → Value.okWide Tryd.prog W .any base t v := hval0
  have hW' := hW
  obtain ⟨p, q, hA0, hV, rfl, hfz, hnd⟩ := hW
  have hA : DataW.TrodAll enc Tryd.prog W 0 (fun _ => true) true Tryd.f8.params.toList args.toList ds p := hA0
  rw [Tryd.params8] at hA hval hsz
  have hA1 := hA
  obtain ⟨v0, vs0, d0, ds0, p0, q0, hargs, rfl, rfl, h0, r0⟩ := trodAll_cons hA
  obtain ⟨rfl, rfl, rfl⟩ := trodAll_nil r0
  obtain rfl : args = #[v0] := by cases args; simp_all
  obtain ⟨rfl, rfl⟩ := trodVars_none hV
  obtain ⟨x0, rx0, tx0⟩ := Go.Ab.top_open (P := Tryd.prog) 8 (by kernel_rfl) (hval 0 22 v0 rfl rfl) h0 (fun m hm => by simpa using List.all_eq_true.1 hsz m (DataW.weights_mem_each (j := 0) (t := 22) (d := d0) rfl rfl m hm))
  obtain ⟨z0, rfl, f0_0⟩ := Go.Ab.top_W (by kernel_rfl) tx0
  refine Go.Ab.true_calls (vs := [v0]) (Go.Ab.l_FloatsBack Go.Ab.wakes3 z0 f0_0) (by simp only [Go.Ab.RepL]; exact ⟨rx0, trivial⟩) (post := fun v W' => Rows.floatsBackSpec.post enc Tryd.prog Tryd.f8 false true false false W #[v0] v W') (hp := fun W' bel => ?_) (hT := Go.Ab.tabs_ok hL)
  exact ⟨_, _, _, [], _, [], hW', trodAll_mk1 (shut_bool Tryd.underlying4 _), Go.Ab.trodAll_below laidOut bel _ _ _ _ (by kernel_rfl) hA1 (Go.Ab.trodAll_lt _ _ _ _ hA1), rfl, bel.frame _, fun h => by cases h⟩
theorem over : Rows.floatsBackRow.holds Tryd.pinned (OpenSpec.ofChange Rows.floatsBackSpec) :=
  OpenClaim.holds_of_wide 8 Tryd.f8 rfl rfl rfl rfl rfl rfl rfl ⟨rfl, rfl, rfl, rfl, rfl⟩ rfl rfl rfl rfl rfl (by kernel_rfl) Tryd.func8 (by kernel_rfl)
    (of_decide_eq_true (by kernel_rfl)) (by unfold Func.isWrapper; first | (rw [if_pos (by decide +kernel)]; kernel_rfl) | (rw [if_neg (by decide +kernel)]; exact ⟨rfl, rfl⟩))
    (fun os started H enc _ => lifted os started H enc)
theorem row : Rows.FloatsBackSaid := over
theorem proved : Rows.FloatsBackCardSaid :=
  Claim7.holds_tied_plain_at .later [] [.data, .data, .data, .sentinel, .sentinel] true (true, "e7cf302a6ba7b599ceeff90b7fc152b468cfc93eecaa7fba973e5b862deb4a22") true row (fun _ h => by cases h) (by kernel_rfl) (fun _ h => by cases h) floatsBack_row_tie rfl ⟨rfl, rfl⟩ (by kernel_rfl) rfl
    (fun f fn hf hfn => by
      obtain rfl : f = 8 := Option.some.inj ((show Tryd.prog.funcNamed "sibyl/sibyllaw03.FloatsBack" = some 8 by kernel_rfl).symm.trans hf) |>.symm
      obtain rfl : fn = Tryd.f8 := (Option.some.inj (Tryd.func8.symm.trans hfn)).symm
      exact ⟨by kernel_rfl, fun j t ht => by
        rw [Tryd.params8] at ht
        have hm : t ∈ [22] := by simpa using Array.mem_of_getElem? ht
        have hall : ([22].all fun u => !Tryd.prog.wantsStandIn u) = true := by kernel_rfl
        exact (show Tryd.prog.wantsStandIn t = false by simpa using List.all_eq_true.1 hall t hm)⟩)
    (by kernel_rfl)
end Go.Proofs.YtiamjfckgmnijaaDoor.floatsBack
namespace Go.Proofs.YtiamjfckgmnijaaDoor
theorem floatsBack_holds : Rows.FloatsBackCardSaid := floatsBack.proved
end Go.Proofs.YtiamjfckgmnijaaDoor
end
