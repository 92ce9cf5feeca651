import Derived.Test.YtiamjfckgmnijaaDoorFtFt18
import Derived.Test.YtiamjfckgmnijaaDoorFtNb
set_option linter.all false
section
namespace Go.Ab
open Go Go.Proofs Go.RowKit Go.Sort Go.Lib
set_option maxRecDepth 100000
set_option maxHeartbeats 4000000
theorem is_lit {s : ByteArray} {l : List UInt8} (h : (s.toList == l) = true) : s = ⟨l.toArray⟩ := by
  have := eq_of_beq h
  rw [Go.ByteArray.toList_eq] at this
  exact ByteArray.ext (Array.toList_inj.1 this)
theorem read_both (s : ByteArray) (hs : s.size ≤ 140737488355328) : ∃ (r : Nat) (z : Int), Spec Tryd.prog 22 [.sc (.string s)] (.tup [f64 r, .sc (.int .i64 z)]) ∧ Spec Tryd.prog 23 [.sc (.string s)] (.tup [u64 r, .sc (.int .i64 z)]) := by
  cases a1 : (s.toList == [110, 97, 110])
  · cases a2 : (s.toList == [43, 105, 110, 102])
    · cases a3 : (s.toList == [45, 105, 110, 102])
      · rcases fr_any s hs a1 a2 a3 with h | ⟨x, m, e, hx, es, t1, t2, t3, t4, t5⟩
        · rcases qr_any s hs a1 a2 a3 with h2 | ⟨x, m, e, hx, es, t1, t2, t3, t4, t5⟩
          · exact ⟨0, 31, h, h2⟩
          · subst es
            exact ⟨x, 0, fr_good x hx m e t1 t2 t3 t4 t5, qr_good x hx m e t1 t2 t3 t4 t5⟩
        · subst es
          exact ⟨x, 0, fr_good x hx m e t1 t2 t3 t4 t5, qr_good x hx m e t1 t2 t3 t4 t5⟩
      · rw [is_lit a3]; exact ⟨_, _, fr_ninf, qr_ninf⟩
    · rw [is_lit a2]; exact ⟨_, _, fr_pinf, qr_pinf⟩
  · rw [is_lit a1]; exact ⟨_, _, fr_nan, qr_nan⟩
theorem l_FloatsTexts (hw : Spec Tryd.prog 9 [] (.sc (.bool true))) (x : Nat) (s : ByteArray) (hx : x < 18446744073709551616) (hs : s.size ≤ 140737488351232) : Spec Tryd.prog 7 [u64 x, .sc (.string s)] (.sc (.bool true)) := by
  refine spec_of_awp mixed Tryd.func7 rfl Tryd.call7 (by kernel_rfl) (by simp) rfl ?_
  obtain ⟨r, z, c1, c2⟩ := read_both s (by omega)
  obtain ⟨t, x1, x2⟩ := text_all x hx
  refine T (call_by hw ?_)
  refine T (call_by c1 ?_)
  refine T (call_by c2 ?_)
  refine T (call_by (s_of x) ?_)
  refine TL (call_by x1 ?_)
  refine TL (call_by x2 ?_)
  refine TL ?_
  rw [sb_eql', show (t.toList == t.toList) = true by simp, Option.map_some]
  refine TL (call_by (s_bits r) ?_)
  refine TL (r_ret ?_)
  rw [Tryd.results7]
  refine R ?_
  exact Wk.refl _
end Go.Ab
end
