import Derived.Test.YtiamjfckgmnijaaGreatDoorFnE
import Derived.Test.YtiamjfckgmnijaaGreatDoorFnFl4
import Derived.Test.YtiamjfckgmnijaaGreatDoorFnNb
import Derived.Test.YtiamjfckgmnijaaGreatDoorFnOc
set_option linter.all false
section
namespace Go.Ab
open Go Go.Proofs YtiamjfckgmnijaaGreatDoor.Pl
set_option maxRecDepth 100000
set_option maxHeartbeats 8000000
def lent3 (f : FuncId) : Bool := f == 70
theorem prog_ok : progOK Tryz.prog = true := by decide +kernel
theorem e_Form : Spec Tryz.prog 32 [.agg [.sc (.bool false), U [1], U [2]]] (.sc (.bool true)) := (eF_ok mixed prog_ok lent3 4000 20).1 _ _ _ (by kernel_rfl)
theorem e_Bits1 : Spec Tryz.prog 33 [U [1]] (.sc (.int .i64 1)) := (eF_ok mixed prog_ok lent3 4000 20).1 _ _ _ (by kernel_rfl)
theorem e_Bits2 : Spec Tryz.prog 33 [U [2]] (.sc (.int .i64 2)) := (eF_ok mixed prog_ok lent3 4000 20).1 _ _ _ (by kernel_rfl)
theorem e_Shl1 : Spec Tryz.prog 25 [U [1], .sc (.int .i64 62)] (U [0, 1073741824]) := (eF_ok mixed prog_ok lent3 4000 20).1 _ _ _ (by kernel_rfl)
theorem e_Shl2 : Spec Tryz.prog 25 [U [2], .sc (.int .i64 0)] (U [2]) := (eF_ok mixed prog_ok lent3 4000 20).1 _ _ _ (by kernel_rfl)
theorem e_Join : Spec Tryz.prog 24 [.sc (.bool false), u64 4611686018427387904, .sc (.int .i64 (-63))] (f64 4602678819172646912) := (eF_ok mixed prog_ok lent3 4000 20).1 _ _ _ (by kernel_rfl)
theorem e_Join2 : Spec Tryz.prog 24 [.sc (.bool false), u64 1, .sc (.int .i64 1024)] (f64 9218868437227405312) := (eF_ok mixed prog_ok lent3 4000 20).1 _ _ _ (by kernel_rfl)
theorem e_Class : Spec Tryz.prog 20 [f64 9223372036854775808] (.tup [.sc (.int .i64 5), .sc (.bool true)]) := (eF_ok mixed prog_ok lent3 4000 20).1 _ _ _ (by kernel_rfl)
theorem e_Parts : Spec Tryz.prog 21 [f64 4618441417868443648] (.tup [.sc (.bool false), u64 3, .sc (.int .i64 1), .sc (.int .i64 0)]) := (eF_ok mixed prog_ok lent3 4000 20).1 _ _ _ (by kernel_rfl)
theorem e_Exact : Spec Tryz.prog 7 [f64 4602678819172646912] (.tup [.agg [.sc (.bool false), U [1], U [2]], .sc (.int .i64 0)]) := (eF_ok mixed prog_ok lent3 4000 20).1 _ _ _ (by kernel_rfl)
theorem e_Read : Spec Tryz.prog 22 [.sc (.string ⟨#[43, 51, 112, 49]⟩)] (.tup [f64 4618441417868443648, .sc (.int .i64 0)]) := (eF_ok mixed prog_ok lent3 4000 20).1 _ _ _ (by kernel_rfl)
theorem e_Text : Spec Tryz.prog 23 [f64 9223372036854775808] (.sc (.string ⟨#[45, 48, 112, 48]⟩)) := (eF_ok mixed prog_ok lent3 4000 20).1 _ _ _ (by kernel_rfl)
theorem near_QR : SpecG Tryz.prog 34 [U [0, 1073741824], U [2]] [] (.tup [.hs 1000000 1 0 2 1, .hs 1000001 1 0 0 1]) [(1, [u32 0, u32 536870912]), (1, [])] := by
  have h := g_QR2 [0, 1073741824] [2] (by simp [Wf]) (by simp [Wf]) (by decide) (by decide) (by decide) (by decide) (by decide +kernel)
  have e1 : N (val [0, 1073741824] / val [2]) = [0, 536870912] := by decide +kernel
  have e2 : N (val [0, 1073741824] % val [2]) = [] := by decide +kernel
  rw [e1, e2] at h
  exact h
theorem call_by0 {P : Program} {B : Nat} {ops : Array Oper} {K : S → Prop} {rest : List Oper} {s : S} {d : Option Tmp} {f : FuncId} {raw ws : List AV} {v : AV} (h : Spec P f ws v) (hK : AOps0 P B ops K rest (put s d v)) : ACall P B ops K rest s d f raw (some (ws, [])) :=
  call_by h hK
theorem dcall_by0 {P : Program} {B : Nat} {ops : Array Oper} {K : List Ent → S → Prop} {rest : List Oper} {L : List Ent} {rd : List Loc} {s : S} {d : Option Tmp} {f : FuncId} {h0 : Nat → AV} {raw ws : List AV} {v : AV} (h : Spec P f ws v) (hK : AOps P B ops K rest (L ++ [(rd, wr d [])]) (put s d v)) : DCall P B ops K rest L rd s d f h0 raw (some (ws, [])) :=
  dcall_by h hK
theorem e_Near : Spec Tryz.prog 11 [.agg [.sc (.bool false), U [1], U [2]]] (.tup [f64 4602678819172646912, .sc (.int .i64 0)]) := by
  refine spec_of_awp mixed Tryz.func11 rfl Tryz.call11 (by kernel_rfl) (by simp) rfl ?_
  refine T (call_by e_Form ?_)
  refine T (dcall_by0 e_Bits1 ?_)
  refine T (dcall_by0 e_Bits2 ?_)
  refine TM (dcall_by0 e_Shl1 ?_)
  refine TM (dcall_by0 e_Shl2 ?_)
  refine T ?_
  refine call_g [] false near_QR trivial rfl (by simp) (by simp [pOf]) rfl rfl rfl nofun ?_
  refine T ?_
  refine TL (call_by e_Join ?_)
  exact TR rfl
theorem sbin_eq (s : ByteArray) : sbin .eql s s = some (.bool true) := by simp [sbin]
theorem wakes3 : Spec Tryz.prog 6 [] (.sc (.bool true)) := by
  refine spec_of_awp mixed Tryz.func6 rfl Tryz.call6 (by kernel_rfl) (by simp) rfl ?_
  refine T (call_by0 (s_of 9223372036854775808) ?_)
  refine T (call_by0 e_Class ?_)
  refine T (call_by0 e_Parts ?_)
  refine T (call_by0 e_Exact ?_)
  refine T (call_by0 e_Read ?_)
  refine TL ?_
  rw [pr_ne, Option.map_some, show (Ieee.double.order 4618441417868443648 4618441417868443648 != some .eq) = false by decide +kernel]
  refine TL (call_by0 e_Near ?_)
  refine TL ?_
  rw [pr_eq, Option.map_some, show (Ieee.double.order 4602678819172646912 4602678819172646912 == some .eq) = true by decide +kernel]
  refine TL (call_by0 (s_of 9223372036854775808) ?_)
  refine TL (call_by0 e_Text ?_)
  refine TL ?_
  rw [sbin_eq, Option.map_some]
  refine TL (call_by0 (s_of 9223372036854775808) ?_)
  refine TL (call_by0 (s_Next 9223372036854775808 (by decide)) ?_)
  refine TL (call_by0 (s_bits 0) ?_)
  refine TL (call_by0 (s_Prev 0 (by decide)) ?_)
  refine TL (call_by0 (s_bits 9223372036854775808) ?_)
  refine TL (call_by0 e_Join2 ?_)
  refine TL ?_
  rw [pr_gt, Option.map_some, show (Ieee.double.order 9218868437227405312 9218868437227405311 == some .gt) = true by decide +kernel]
  exact TR rfl
end Go.Ab
end
