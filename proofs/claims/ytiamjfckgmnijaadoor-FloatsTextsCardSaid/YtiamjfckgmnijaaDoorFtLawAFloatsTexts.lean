import Derived.Test.YtiamjfckgmnijaaDoorRows
import Derived.Test.YtiamjfckgmnijaaDoorCards
import Derived.Test.YtiamjfckgmnijaaDoorTie
import Derived.Test.YtiamjfckgmnijaaDoorFtF
import Derived.Test.YtiamjfckgmnijaaDoorFtAbW
import Derived.Test.YtiamjfckgmnijaaDoorFtNb
import Derived.Test.YtiamjfckgmnijaaDoorFtFt19
import Derived.Test.YtiamjfckgmnijaaDoorFtFl5
import Derived.SevenTiedAt
import Derived.Stop.Joined
import Derived.ProofKit
set_option linter.all false
section
namespace Go.Proofs.YtiamjfckgmnijaaDoor.floatsTexts
open Go.ChangeShapes Go.WideShapes Go.ChangeAt Go.RowKit
set_option linter.unusedVariables false
theorem own : ownKnob Tryd.prog.godebug = none := by kernel_rfl
theorem laidOut : laidOutB Tryd.prog = true := by kernel_rfl
set_option maxRecDepth 100000 in
theorem lifted (os : Os) (started : os.Started) (H : Type) (enc : TypeId × Value → H) :
    ReturnsInHanded {} Tryd.checked os 7 .any (fun w args => (Rows.floatsTextsSpec.pre enc Tryd.prog Tryd.f7 Rows.floatsTextsRow.domain false w args ∧ laidMetH Tryd.prog Go.Ab.laidL w) ∧ sizedMet enc Tryd.prog Tryd.f7 (OpenSpec.ofChange Rows.floatsTextsSpec) false w args) (Rows.floatsTextsSpec.post enc Tryd.prog Tryd.f7 false true false false) := by
  refine returnsInHanded_of_change_and (C := Tryd.checked) (X := fun w _ => laidMetH Tryd.prog Go.Ab.laidL w) (fun _ _ _ hh h => h.of_heap hh) own started (by kernel_rfl) Tryd.func7
    (ChangeSpec.witness_shaped (enc := enc) (C := Tryd.checked) (os := os) (X := fun w _ => laidMetH Tryd.prog Go.Ab.laidL w) false (World.laidAll Tryd.prog os Go.Ab.laidL) #[.int .u64 0, .string ByteArray.empty] 8 (World.laidAll_os _ _ _)
      (World.shaped_of_ZipB (by kernel_rfl) (by kernel_rfl)) (by kernel_rfl) (by kernel_rfl) (by kernel_rfl)
      (by rw [MakeChecks.laidMetH_plain _ _ _ (by kernel_rfl)]; exact laidMet_laidAll _ (by kernel_rfl) (by kernel_rfl))) ?_
  intro W base args ds gs before hval0 hW hcnd hsz0 hL _
  have hsz : (DataW.weightsEach Tryd.prog (Tryd.f7.params.toList ++ Rows.floatsTextsSpec.plain.varTypes Tryd.prog) (ds ++ gs)).all (· ≤ reachBytes) = true := hsz0
  have hval : ∀ (j : Nat) t v, Tryd.f7.params[j]? = some t → args[j]? = some v → Value.okWide Tryd.prog W .any base t v := hval0
  have hW' := hW
  obtain ⟨p, q, hA0, hV, rfl, hfz, hnd⟩ := hW
  have hA : DataW.TrodAll enc Tryd.prog W 0 (fun _ => true) true Tryd.f7.params.toList args.toList ds p := hA0
  rw [Tryd.params7] at hA hval hsz
  have hA1 := hA
  obtain ⟨v0, vs0, d0, ds0, p0, q0, hargs, rfl, rfl, h0, r0⟩ := trodAll_cons hA
  obtain ⟨v1, vs1, d1, ds1, p1, q1, rfl, rfl, rfl, h1, r1⟩ := trodAll_cons r0
  obtain ⟨rfl, rfl, rfl⟩ := trodAll_nil r1
  obtain rfl : args = #[v0, v1] := by cases args; simp_all
  obtain ⟨rfl, rfl⟩ := trodVars_none hV
  obtain ⟨x0, rx0, tx0⟩ := Go.Ab.top_open (P := Tryd.prog) 8 (by kernel_rfl) (hval 0 22 v0 rfl rfl) h0 (fun m hm => by simpa using List.all_eq_true.1 hsz m (DataW.weights_mem_each (j := 0) (t := 22) (d := d0) rfl rfl m hm))
  obtain ⟨z0, rfl, f0_0⟩ := Go.Ab.top_W (by kernel_rfl) tx0
  obtain ⟨x1, rx1, tx1⟩ := Go.Ab.top_open (P := Tryd.prog) 8 (by kernel_rfl) (hval 1 9 v1 rfl rfl) h1 (fun m hm => by simpa using List.all_eq_true.1 hsz m (DataW.weights_mem_each (j := 1) (t := 9) (d := d1) rfl rfl m hm))
  obtain ⟨s1, rfl, f1_0⟩ := Go.Ab.top_S (by kernel_rfl) tx1
  refine Go.Ab.true_calls (vs := [v0, v1]) (Go.Ab.l_FloatsTexts Go.Ab.wakes3 z0 s1 f0_0 f1_0) (by simp only [Go.Ab.RepL]; exact ⟨rx0, rx1, trivial⟩) (post := fun v W' => Rows.floatsTextsSpec.post enc Tryd.prog Tryd.f7 false true false false W #[v0, v1] v W') (hp := fun W' bel => ?_) (hT := Go.Ab.tabs_ok hL)
  exact ⟨_, _, _, [], _, [], hW', trodAll_mk1 (shut_bool Tryd.underlying4 _), Go.Ab.trodAll_below laidOut bel _ _ _ _ (by kernel_rfl) hA1 (Go.Ab.trodAll_lt _ _ _ _ hA1), rfl, bel.frame _, fun h => by cases h⟩
theorem over : Rows.floatsTextsRow.holds Tryd.pinned (OpenSpec.ofChange Rows.floatsTextsSpec) :=
  OpenClaim.holds_of_wide 7 Tryd.f7 rfl rfl rfl rfl rfl rfl rfl ⟨rfl, rfl, rfl, rfl, rfl⟩ rfl rfl rfl rfl rfl (by kernel_rfl) Tryd.func7 (by kernel_rfl)
    (of_decide_eq_true (by kernel_rfl)) (by unfold Func.isWrapper; first | (rw [if_pos (by decide +kernel)]; kernel_rfl) | (rw [if_neg (by decide +kernel)]; exact ⟨rfl, rfl⟩))
    (fun os started H enc _ => lifted os started H enc)
theorem row : Rows.FloatsTextsSaid := over
theorem proved : Rows.FloatsTextsCardSaid :=
  Claim7.holds_tied_plain_at .later [] [.data, .data, .data, .sentinel, .sentinel] true (true, "e7cf302a6ba7b599ceeff90b7fc152b468cfc93eecaa7fba973e5b862deb4a22") true row (fun _ h => by cases h) (by kernel_rfl) (fun _ h => by cases h) floatsTexts_row_tie rfl ⟨rfl, rfl⟩ (by kernel_rfl) rfl
    (fun f fn hf hfn => by
      obtain rfl : f = 7 := Option.some.inj ((show Tryd.prog.funcNamed "sibyl/sibyllaw03.FloatsTexts" = some 7 by kernel_rfl).symm.trans hf) |>.symm
      obtain rfl : fn = Tryd.f7 := (Option.some.inj (Tryd.func7.symm.trans hfn)).symm
      exact ⟨by kernel_rfl, fun j t ht => by
        rw [Tryd.params7] at ht
        have hm : t ∈ [22, 9] := by simpa using Array.mem_of_getElem? ht
        have hall : ([22, 9].all fun u => !Tryd.prog.wantsStandIn u) = true := by kernel_rfl
        exact (show Tryd.prog.wantsStandIn t = false by simpa using List.all_eq_true.1 hall t hm)⟩)
    (by kernel_rfl)
end Go.Proofs.YtiamjfckgmnijaaDoor.floatsTexts
namespace Go.Proofs.YtiamjfckgmnijaaDoor
theorem floatsTexts_holds : Rows.FloatsTextsCardSaid := floatsTexts.proved
end Go.Proofs.YtiamjfckgmnijaaDoor
end
