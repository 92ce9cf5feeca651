import Derived.Test.YtgffficaoioljaaRj22
import Derived.Test.YtgffficaoioljaaRj5
import Derived.Test.YtgffficaoioljaaRj24
import Derived.Test.YtgffficaoioljaaRows
import Derived.WalkKit
import Derived.ProofKit
import Derived.OpenShut
import Derived.ShutString
import Derived.ChangeOld
import Derived.Below
import Derived.SizedLaws
section
namespace Go.Proofs.Ytgffficaoioljaa.ratioTexts
open Go.ChangeShapes Go.WideShapes Go.ChangeAt Go.RowKit Go.Proofs.YtgffficaoioljaaW.PrintWords
open Go.ChangeMaps (open_string shut_string)
set_option linter.unusedVariables false
theorem own : ownKnob Try.prog.godebug = none := by kernel_rfl
theorem laidOut : laidOutB Try.prog = true := by kernel_rfl
set_option maxRecDepth 100000 in
theorem lifted (os : Os) (started : os.Started) (H : Type) (enc : TypeId × Value → H) :
    ReturnsInHanded {} Try.checked os 13 .any (Rows.ratioTextsSpec.pre6 enc Try.prog Try.f13 Rows.ratioTextsRow.domain false) (Rows.ratioTextsSpec.post enc Try.prog Try.f13 false true false false) := by
  refine returnsInHanded_of_change_sized (C := Try.checked) own started (by kernel_rfl) Try.func13
    (ChangeSpec.witness6 (enc := enc) (C := Try.checked) false ⟨#[], #[.agg #[.bool false, .slice none 0 0, .slice none 0 0], .string ByteArray.empty], []⟩ 8 (by kernel_rfl) (by kernel_rfl) (by kernel_rfl) (by kernel_rfl)) ?_
  intro W base args ds gs before hval0 hW hcnd hsz0 _
  have hsz : (DataW.weightsEach Try.prog (Try.f13.params.toList ++ Rows.ratioTextsSpec.plain.varTypes Try.prog) (ds ++ gs)).all (· ≤ reachBytes) = true := hsz0
  have hval : ∀ (j : Nat) t v, Try.f13.params[j]? = some t → args[j]? = some v → Value.okWide Try.prog W .any base t v := hval0
  have hW' := hW
  obtain ⟨p, q, hA0, hV, rfl, hfz, hnd⟩ := hW
  have hA : DataW.TrodAll enc Try.prog W 0 (fun _ => true) true Try.f13.params.toList args.toList ds p := hA0
  rw [Try.params13] at hA hval hsz
  obtain ⟨v0, vs0, d0, ds0, p0, q0, hargs, rfl, rfl, h0, r0⟩ := trodAll_cons hA
  obtain ⟨v1, vs1, d1, ds1, p1, q1, rfl, rfl, rfl, h1, r1⟩ := trodAll_cons r0
  obtain ⟨rfl, rfl, rfl⟩ := trodAll_nil r1
  obtain rfl : args = #[v0, v1] := by cases args; simp_all
  obtain ⟨rfl, rfl⟩ := trodVars_none hV
  have k0 := h0
  have lt0 : ∀ x ∈ p0, x.block < W.heap.size := by obtain ⟨m, hm⟩ := k0; exact DataW.trod_lt m _ _ _ hm
  obtain ⟨b0, a01, len01, cap01, z01, a02, len02, cap02, z02, rfl, w01, y01, w02, y02⟩ := open_ratio (j := 0) (t := 50) hsz rfl rfl Try.underlying50 (by kernel_rfl) (by kernel_rfl) Try.underlying4 Try.underlying22 Try.underlying22 Try.underlying47 (by kernel_rfl) (by kernel_rfl) (hval 0 50 v0 rfl rfl) h0
  obtain ⟨a1, rfl, rfl, rfl, y1⟩ := open_string Try.underlying9 (hval 1 9 v1 rfl rfl) h1
  have w1 : a1.size ≤ 140737488351232 := by
    have z := sized_string hsz (j := 1) (t := 9) rfl rfl
    rw [Array.length_toList] at z
    exact z
  clear hA0 hval0 hsz0 hsz
  obtain ⟨l01, rfl, hr01, hm01, hw01, hc01⟩ := ReadsInt.ofRowC w01
  obtain ⟨l02, rfl, hr02, hm02, hw02, hc02⟩ := ReadsInt.ofRowC w02
  obtain ⟨k, h⟩ := PlN.rtextsP b0 l01 l02 a1 (PlA.wf_lit hw01) (PlA.wf_lit hw02) (by omega) (by omega)
  refine (P.w2_RatioTexts.calls k b0 _ _ l01 _ _ l02 a1 true W (Kd.C_of_reads (d := (0 : Int)) (h1 := fun _ => rfl) hr01) hc01 (Kd.C_of_reads (d := (0 : Int)) (h1 := fun _ => rfl) hr02) hc02 h).mono ?_
  rintro e W' ⟨rfl, bel⟩
  exact ⟨_, rfl, _, _, _, [], _, [], hW', trodAll_mk1 (shut_bool Try.underlying4 _), (trodAll_cons_mk (Below.trod laidOut (by kernel_rfl) (of_decide_eq_true (by kernel_rfl)) k0 bel lt0) (trodAll_cons_mk (shut_string Try.underlying9 y1) trodAll_mk0)), rfl, bel.frame _, fun h => by cases h⟩
theorem over : Rows.ratioTextsRow.holds Try.pinned (OpenSpec.ofChange Rows.ratioTextsSpec) :=
  OpenClaim.holds_of_wide 13 Try.f13 rfl rfl rfl rfl rfl rfl rfl ⟨rfl, rfl, rfl, rfl, rfl⟩ rfl rfl rfl rfl rfl (by kernel_rfl) Try.func13 (by kernel_rfl)
    (of_decide_eq_true (by kernel_rfl)) (by unfold Func.isWrapper; first | (rw [if_pos (by decide +kernel)]; kernel_rfl) | (rw [if_neg (by decide +kernel)]; exact ⟨rfl, rfl⟩))
    (fun os started H enc _ => lifted os started H enc)
theorem proved : Rows.RatioTextsSaid := over
end Go.Proofs.Ytgffficaoioljaa.ratioTexts
namespace Go.Proofs.Ytgffficaoioljaa
theorem ratioTexts_holds : Rows.RatioTextsSaid := ratioTexts.proved
end Go.Proofs.Ytgffficaoioljaa
end
