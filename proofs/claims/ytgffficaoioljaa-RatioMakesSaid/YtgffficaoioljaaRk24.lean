import Derived.Test.YtgffficaoioljaaRk21
import Derived.Test.YtgffficaoioljaaRk5
import Derived.Test.YtgffficaoioljaaRk23
import Derived.Test.YtgffficaoioljaaRows
import Derived.WalkKit
import Derived.ProofKit
import Derived.OpenShut
import Derived.ShutString
import Derived.ChangeOld
import Derived.Below
import Derived.SizedLaws
section
namespace Go.Proofs.Ytgffficaoioljaa.ratioMakes
open Go.ChangeShapes Go.WideShapes Go.ChangeAt Go.RowKit Go.Proofs.YtgffficaoioljaaW.PrintWords
open Go.ChangeMaps (open_string shut_string)
set_option linter.unusedVariables false
theorem own : ownKnob Try.prog.godebug = none := by kernel_rfl
theorem laidOut : laidOutB Try.prog = true := by kernel_rfl
set_option maxRecDepth 100000 in
theorem lifted (os : Os) (started : os.Started) (H : Type) (enc : TypeId × Value → H) :
    ReturnsInHanded {} Try.checked os 12 .any (Rows.ratioMakesSpec.pre6 enc Try.prog Try.f12 Rows.ratioMakesRow.domain false) (Rows.ratioMakesSpec.post enc Try.prog Try.f12 false true false false) := by
  refine returnsInHanded_of_change_sized (C := Try.checked) own started (by kernel_rfl) Try.func12
    (ChangeSpec.witness6 (enc := enc) (C := Try.checked) false ⟨#[], #[.agg #[.bool false, .slice none 0 0, .slice none 0 0], .agg #[.bool false, .slice none 0 0, .slice none 0 0], .int .i64 0], []⟩ 8 (by kernel_rfl) (by kernel_rfl) (by kernel_rfl) (by kernel_rfl)) ?_
  intro W base args ds gs before hval0 hW hcnd hsz0 _
  have hsz : (DataW.weightsEach Try.prog (Try.f12.params.toList ++ Rows.ratioMakesSpec.plain.varTypes Try.prog) (ds ++ gs)).all (· ≤ reachBytes) = true := hsz0
  have hval : ∀ (j : Nat) t v, Try.f12.params[j]? = some t → args[j]? = some v → Value.okWide Try.prog W .any base t v := hval0
  have hW' := hW
  obtain ⟨p, q, hA0, hV, rfl, hfz, hnd⟩ := hW
  have hA : DataW.TrodAll enc Try.prog W 0 (fun _ => true) true Try.f12.params.toList args.toList ds p := hA0
  rw [Try.params12] at hA hval hsz
  obtain ⟨v0, vs0, d0, ds0, p0, q0, hargs, rfl, rfl, h0, r0⟩ := trodAll_cons hA
  obtain ⟨v1, vs1, d1, ds1, p1, q1, rfl, rfl, rfl, h1, r1⟩ := trodAll_cons r0
  obtain ⟨v2, vs2, d2, ds2, p2, q2, rfl, rfl, rfl, h2, r2⟩ := trodAll_cons r1
  obtain ⟨rfl, rfl, rfl⟩ := trodAll_nil r2
  obtain rfl : args = #[v0, v1, v2] := by cases args; simp_all
  obtain ⟨rfl, rfl⟩ := trodVars_none hV
  have k0 := h0
  have lt0 : ∀ x ∈ p0, x.block < W.heap.size := by obtain ⟨m, hm⟩ := k0; exact DataW.trod_lt m _ _ _ hm
  obtain ⟨b0, a01, len01, cap01, z01, a02, len02, cap02, z02, rfl, w01, y01, w02, y02⟩ := open_ratio (j := 0) (t := 50) hsz rfl rfl Try.underlying50 (by kernel_rfl) (by kernel_rfl) Try.underlying4 Try.underlying22 Try.underlying22 Try.underlying47 (by kernel_rfl) (by kernel_rfl) (hval 0 50 v0 rfl rfl) h0
  have k1 := h1
  have lt1 : ∀ x ∈ p1, x.block < W.heap.size := by obtain ⟨m, hm⟩ := k1; exact DataW.trod_lt m _ _ _ hm
  obtain ⟨b1, a11, len11, cap11, z11, a12, len12, cap12, z12, rfl, w11, y11, w12, y12⟩ := open_ratio (j := 1) (t := 50) hsz rfl rfl Try.underlying50 (by kernel_rfl) (by kernel_rfl) Try.underlying4 Try.underlying22 Try.underlying22 Try.underlying47 (by kernel_rfl) (by kernel_rfl) (hval 1 50 v1 rfl rfl) h1
  obtain ⟨a2, rfl, rfl, rfl, w2⟩ := open_int Try.underlying3 (hval 2 3 v2 rfl rfl) h2
  clear hA0 hval0 hsz0 hsz
  obtain ⟨l01, rfl, hr01, hm01, hw01, hc01⟩ := ReadsInt.ofRowC w01
  obtain ⟨l02, rfl, hr02, hm02, hw02, hc02⟩ := ReadsInt.ofRowC w02
  obtain ⟨l11, rfl, hr11, hm11, hw11, hc11⟩ := ReadsInt.ofRowC w11
  obtain ⟨l12, rfl, hr12, hm12, hw12, hc12⟩ := ReadsInt.ofRowC w12
  obtain ⟨k, h⟩ := PlN.rmakesP b0 l01 l02 b1 l11 l12 a2 (PlA.wf_lit hw01) (PlA.wf_lit hw02) (by omega) (by omega) (PlA.wf_lit hw11) (PlA.wf_lit hw12) (by omega) (by omega) w2
  refine (P.w2_RatioMakes.calls k b0 _ _ l01 _ _ l02 b1 _ _ l11 _ _ l12 a2 true W (Kd.C_of_reads (d := (0 : Int)) (h1 := fun _ => rfl) hr01) hc01 (Kd.C_of_reads (d := (0 : Int)) (h1 := fun _ => rfl) hr02) hc02 (Kd.C_of_reads (d := (0 : Int)) (h1 := fun _ => rfl) hr11) hc11 (Kd.C_of_reads (d := (0 : Int)) (h1 := fun _ => rfl) hr12) hc12 h).mono ?_
  rintro e W' ⟨rfl, bel⟩
  exact ⟨_, rfl, _, _, _, [], _, [], hW', trodAll_mk1 (shut_bool Try.underlying4 _), (trodAll_cons_mk (Below.trod laidOut (by kernel_rfl) (of_decide_eq_true (by kernel_rfl)) k0 bel lt0) (trodAll_cons_mk (Below.trod laidOut (by kernel_rfl) (of_decide_eq_true (by kernel_rfl)) k1 bel lt1) (trodAll_cons_mk (shut_int Try.underlying3 w2) trodAll_mk0))), rfl, bel.frame _, fun h => by cases h⟩
theorem over : Rows.ratioMakesRow.holds Try.pinned (OpenSpec.ofChange Rows.ratioMakesSpec) :=
  OpenClaim.holds_of_wide 12 Try.f12 rfl rfl rfl rfl rfl rfl rfl ⟨rfl, rfl, rfl, rfl, rfl⟩ rfl rfl rfl rfl rfl (by kernel_rfl) Try.func12 (by kernel_rfl)
    (of_decide_eq_true (by kernel_rfl)) (by unfold Func.isWrapper; first | (rw [if_pos (by decide +kernel)]; kernel_rfl) | (rw [if_neg (by decide +kernel)]; exact ⟨rfl, rfl⟩))
    (fun os started H enc _ => lifted os started H enc)
theorem proved : Rows.RatioMakesSaid := over
end Go.Proofs.Ytgffficaoioljaa.ratioMakes
namespace Go.Proofs.Ytgffficaoioljaa
theorem ratioMakes_holds : Rows.RatioMakesSaid := ratioMakes.proved
end Go.Proofs.Ytgffficaoioljaa
end
