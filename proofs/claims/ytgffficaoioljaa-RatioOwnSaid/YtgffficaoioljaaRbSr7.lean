import Derived.Test.YtgffficaoioljaaRbSq13
import Derived.Test.YtgffficaoioljaaRbV
set_option linter.all false
section
namespace Go.Ab
open Go Go.Proofs Go.Proofs.Ytgffficaoioljaa.Pl
set_option maxRecDepth 100000
set_option maxHeartbeats 8000000
theorem Spec.weak {P : Program} {f : FuncId} {l : List AV} {r r' : AV} (h : Spec P f l r) (hw : Wk r r') (hp : r'.pure = true) : Spec P f l r' :=
  ⟨h.enter, fun M w vs a b => Calls.mono (h.calls M w vs a b) fun e w' he => by
    cases e with
    | returned v => exact ⟨hw _ _ _ _ he.1, he.2⟩
    | panicked _ => exact he
    | outgrown => exact he, hp⟩
def r0 : RT := (false, [], [1])
def r1 : RT := (false, [1], [1])
theorem mk_zero : mkR false 0 1 = (r0, 0) := by
  rw [mkR, if_neg (by decide), if_pos rfl]; rfl
theorem mk_one : mkR false 1 1 = (r1, 0) := by
  rw [mkR, if_neg (by decide), if_neg (by decide)]
  have e : N ((1 : Int) / (Int.gcd 1 1 : Nat)) = [1] := (N_eq_one (by decide)).2 (by decide)
  rw [e, if_pos (by decide)]; rfl
theorem of0 : Spec Try.prog 55 [.sc (.int .i64 0)] (RA r0.1 r0.2.1 r0.2.2) :=
  Spec.weak (r := .agg [.sc (.bool false), .sc (.slice none 0 0), U [1]]) ((eF_ok mixed prog_ok lentFs 4000 20).1 _ _ _ (by kernel_rfl)) (Wk.agg (WkL.cons (Wk.refl _) (WkL.cons Wk.nil (WkL.refl _)))) rfl
theorem of1 : Spec Try.prog 55 [.sc (.int .i64 1)] (RA r1.1 r1.2.1 r1.2.2) := (eF_ok mixed prog_ok lentFs 4000 20).1 _ _ _ (by kernel_rfl)
theorem qof0 : Spec Try.prog 56 [.sc (.int .i64 0)] (RA r0.1 r0.2.1 r0.2.2) :=
  Spec.weak (r := .agg [.sc (.bool false), .sc (.slice none 0 0), U [1]]) ((eF_ok mixed prog_ok lentFs 4000 20).1 _ _ _ (by kernel_rfl)) (Wk.agg (WkL.cons (Wk.refl _) (WkL.cons Wk.nil (WkL.refl _)))) rfl
theorem qof1 : Spec Try.prog 56 [.sc (.int .i64 1)] (RA r1.1 r1.2.1 r1.2.2) := by
  refine spec_of_awp mixed Try.func56 rfl Try.call56 (by kernel_rfl) (by simp) rfl ?_
  refine T (call_by (q2_Make false [1, 0] [1] (Wf.cons (by decide) (by decide) (Wf.one (by decide) (by decide))) (Wf.one (by decide) (by decide)) (by decide) (by decide)) ?_)
  rw [show val [1, 0] = 1 by decide +kernel, show val [1] = 1 by decide +kernel, mk_one]
  exact TR rfl
end Go.Ab
end
