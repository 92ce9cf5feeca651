import Derived.Test.YtiamjfckgmnijaaDoorFtFt12
set_option linter.all false
section
namespace Go.Ab
open Go Go.Proofs Go.RowKit Go.Sort Go.Lib
set_option maxRecDepth 100000
set_option maxHeartbeats 4000000
theorem fr_other (s a b t : ByteArray) (i m x : Nat) (e : Int) (sg : Bool) (a1 : (s.toList == [110, 97, 110]) = false) (a2 : (s.toList == [43, 105, 110, 102]) = false) (a3 : (s.toList == [45, 105, 110, 102]) = false)
    (hC : Spec Tryd.prog 42 [.sc (.string s), .sc (.string ⟨#[112]⟩)] (.tup [.sc (.string a), .sc (.string b), .sc (.bool true)])) (sA1 : 2 ≤ a.size) (sA2 : a.size ≤ 18) (sB : b.size ≤ 5)
    (hp : Spec Tryd.prog 43 [.sc (.string (a.extract 1 a.size)), .sc (.int .i64 10), .sc (.int .i64 64)] (.tup [.sc (.int .u64 m), .sc .nilIface])) (hq : Spec Tryd.prog 44 [.sc (.string b)] (.tup [.sc (.int .i64 e), .sc .nilIface]))
    (hJ : Spec Tryd.prog 16 [.sc (.bool sg), .sc (.int .u64 m), .sc (.int .i64 e)] (f64 x)) (hs : (a.data.toList.getD 0 0).toNat = 45 ↔ sg = true) (hX : Spec Tryd.prog 24 [f64 x] (.sc (.string t))) (ht : (t.toList == s.toList) = false) :
    Spec Tryd.prog 22 [.sc (.string s)] (.tup [f64 0, .sc (.int .i64 31)]) := by
  refine spec_of_awp mixed Tryd.func22 rfl Tryd.call22 (by kernel_rfl) (by simp) rfl ?_
  refine T ?_
  rw [sb_eql', show (⟨#[110, 97, 110]⟩ : ByteArray).toList = [110, 97, 110] from (Go.ByteArray.toList_eq _).trans rfl, a1, Option.map_some]
  refine T ?_
  rw [sb_eql', show (⟨#[43, 105, 110, 102]⟩ : ByteArray).toList = [43, 105, 110, 102] from (Go.ByteArray.toList_eq _).trans rfl, a2, Option.map_some]
  refine T ?_
  rw [sb_eql', show (⟨#[45, 105, 110, 102]⟩ : ByteArray).toList = [45, 105, 110, 102] from (Go.ByteArray.toList_eq _).trans rfl, a3, Option.map_some]
  refine T (call_by hC ?_)
  refine T (call_by hp ?_)
  refine T (call_by hq ?_)
  refine T ?_
  rw [pr_nil1, Option.map_some]
  refine T ?_
  rw [pr_nil2, Option.map_some]
  clear hC hp hq a1 a2 a3
  cases hb : sg
  · rw [hb] at hs hJ
    have hs0 : (a.data.toList.getD 0 0).toNat ≠ 45 := fun h => by have := hs.1 h; cases this
    refine T ?_
    generalize hc0 : (a.data.toList.getD 0 0).toNat = c0 at *
    refine T (call_by hJ ?_)
    refine T (call_by hX ?_)
    refine T ?_
    rw [sb_neq, ht, Option.map_some]
    refine T (r_ret ?_)
    rw [Tryd.results22]
    refine R ?_
    exact Wk.refl _
  · rw [hb] at hs hJ
    have hs0 : (a.data.toList.getD 0 0).toNat = 45 := hs.2 rfl
    refine T ?_
    generalize hc0 : (a.data.toList.getD 0 0).toNat = c0 at *
    refine T (call_by hJ ?_)
    refine T (call_by hX ?_)
    refine T ?_
    rw [sb_neq, ht, Option.map_some]
    refine T (r_ret ?_)
    rw [Tryd.results22]
    refine R ?_
    exact Wk.refl _
end Go.Ab
end
