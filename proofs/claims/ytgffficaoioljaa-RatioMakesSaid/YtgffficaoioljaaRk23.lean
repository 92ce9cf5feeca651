import Derived.Test.YtgffficaoioljaaRk22
import Derived.Test.YtgffficaoioljaaRk21
import Derived.Test.YtgffficaoioljaaRk16
section
namespace Go.Proofs.Ytgffficaoioljaa.PlN
open Go.RowKit Go.Proofs.Ytgffficaoioljaa.P Go.Proofs.Ytgffficaoioljaa.Pl Go.Proofs.Ytgffficaoioljaa.PlA Go.Proofs.YtgffficaoioljaaW.PrintWords Go.Proofs.YtgffficaoioljaaW.PrintLast Go.Proofs.YtgffficaoioljaaW.PrintMore
set_option linter.unusedVariables false
theorem mk_len (neg : Bool) (n d : Nat) : (mkOf neg n d).2.1.length ≤ 16 ∧ (mkOf neg n d).2.2.1.length ≤ 16 := by
 by_cases c : (mkOf neg n d).2.2.2 = 0
 ·obtain ⟨N, D, h⟩ := mk_form c
  exact ⟨h.nlen, h.dlen⟩
 ·have h := mk_err c
  rw [h.2.1, h.2.2]
  exact ⟨by simp, by simp⟩
theorem rmakes (a : Bool) (n d : List Int) (b : Bool) (n2 d2 : List Int) (x : Int) (hn : Wf n) (hd : Wf d) (ln : n.length ≤ 35184372087808) (ld : d.length ≤ 35184372087808) (hn2 : Wf n2) (hd2 : Wf d2) (ln2 : n2.length ≤ 35184372087808) (ld2 : d2.length ≤ 35184372087808) (hx : -9223372036854775808 ≤ x ∧ x < 9223372036854775808) :
  Ev (fun k => w2_RatioMakes.f k a n d b n2 d2 x) true := by
 unfold w2_RatioMakes.f
 refine Ev.bind wakes2 (Ev.congr (fun k => if_pos rfl) ?_)
 rw [own2 a n d (by omega) (by omega), own2 b n2 d2 (by omega) (by omega)]
 simp only [Option.bind_some, List.length_nil, List.nil_append]
 refine Ev.congr (fun k => if_pos (by omega)) (Ev.congr (fun k => if_pos (by omega)) ?_)
 refine Ev.bind (make a n n2 hn hn2 (by omega) (by omega)) (Ev.bind (rmake a n n2 hn hn2 ln ln2) ?_)
 have hml := mk_len a (val n).toNat (val n2).toNat
 generalize mkOf a (val n).toNat (val n2).toNat = M at *
 obtain ⟨v, h1, h2, h3⟩ := form_both a n d hn hd
 refine Ev.bind h1 (Ev.bind h2 (Ev.congr (fun k => if_pos (by simp)) ?_))
 refine Ev.bind (same_dec a n d b n2 d2 (by omega) (by omega)) (Ev.bind (rsame2 a n d b n2 d2 (by omega) (by omega)) (Ev.congr (fun k => if_pos (by simp)) ?_))
 have hL : (L x.natAbs).length ≤ 2 := (L_is x.natAbs).len (by omega)
 refine Ev.bind (of_prog x hx) (Ev.bind (of_ref x hx) ?_)
 refine Ev.bind (rsame2 _ _ _ _ _ _ (show (L x.natAbs).length ≤ 70368744177664 by omega) (show ([1] : List Int).length ≤ 70368744177664 by simp)) (Ev.congr (fun k => if_pos (by simp)) ?_)
 refine Ev.bind (rsame2 M.1 M.2.1 M.2.2.1 M.1 M.2.1 M.2.2.1 (by omega) (by omega)) (Ev.congr (fun k => if_pos (by simp)) ?_)
 rw [beq_self_eq_true]
 exact Ev.now _
theorem rmakesP (a : Bool) (n d : List Int) (b : Bool) (n2 d2 : List Int) (x : Int) (hn : Wf n) (hd : Wf d) (ln : n.length ≤ 35184372087808) (ld : d.length ≤ 35184372087808) (hn2 : Wf n2) (hd2 : Wf d2) (ln2 : n2.length ≤ 35184372087808) (ld2 : d2.length ≤ 35184372087808) (hx : (Lit.int .i64 x).wf = true) :
  ∃ k, w2_RatioMakes.f k a n d b n2 d2 x = some true := (rmakes a n d b n2 d2 x hn hd ln ld hn2 hd2 ln2 ld2 (wf_i64 hx)).rounds
end Go.Proofs.Ytgffficaoioljaa.PlN
end
