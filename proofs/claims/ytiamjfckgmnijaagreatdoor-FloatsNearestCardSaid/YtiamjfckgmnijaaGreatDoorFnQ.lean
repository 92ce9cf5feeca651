import Derived.Test.YtiamjfckgmnijaaGreatDoorFnN
set_option linter.all false
section
namespace Go.Ab
open Go Go.Proofs Go.Proofs.YtiamjfckgmnijaaGreatDoor.Pl
set_option maxRecDepth 100000
set_option maxHeartbeats 8000000
theorem q_Times (a b : List Int) (ha : Wf a) (hb : Wf b) (la : a.length ≤ 1000000000) (lb : b.length ≤ 1000000000) : Spec Tryz.prog 83 [U a, U b] (U (N (val a * val b))) := by
  refine spec_of_awp mixed Tryz.func83 rfl Tryz.call83 (by kernel_rfl) (by simp) rfl ?_
  refine T (call_by (q_Trim a (by omega)) ?_)
  refine T (call_by (q_Trim b (by omega)) ?_)
  have la' := trim_len a
  have lb' := trim_len b
  have ix := Is.of ha rfl
  have iy := Is.of hb rfl
  generalize trim a = x at *
  generalize trim b = y at *
  have hx := ix.wf
  have hy := iy.wf
  refine T ?_
  refine w_loop (α := Nat × List Int) (fun p => [(.t 5, U x), (.t 6, U y), (.t 7, .hs 21 1 0 (x.length + y.length + 1) 1), (.t 8, .sc (.int .i64 p.1)), (.h 21, .blk 1 2 (p.2.map u32))])
    (fun p => p.1 ≤ x.length ∧ p.2.length = x.length + y.length + 1 ∧ Wf p.2 ∧ (∀ k, p.1 + y.length ≤ k → p.2.getD k 0 = 0) ∧ val (p.2.take (p.1 + y.length)) = val (x.take p.1) * val y)
    (fun p => x.length - p.1) (0, List.replicate (x.length + y.length + 1) 0) ⟨Nat.zero_le _, by simp, Wf.zeros _, fun k _ => by simp [List.getD_eq_getElem?_getD, List.getElem?_replicate]; split <;> rfl, by simp [val, List.take_replicate, val_zeros]⟩ ?_ ?_
  · exact Hv
  rintro ⟨i, o⟩ r ⟨h1, h2, h3, h4, h5⟩ J hJ
  simp only at h1 h2 h3 h4 h5
  have H5 := Hd.mk h5
  clear h5
  by_cases hi : i < x.length
  · have hai := hx.at i
    refine T ?_
    refine w_loop (α := Nat × Int × List Int) (fun p => [(.t 5, U x), (.t 6, U y), (.t 7, .hs 21 1 0 (x.length + y.length + 1) 1), (.t 8, .sc (.int .i64 i)), (.t 9, .sc (.int .u64 p.2.1)), (.t 10, .sc (.int .i64 p.1)), (.h 21, .blk 1 2 (p.2.2.map u32))])
      (fun p => p.1 ≤ y.length ∧ p.2.2.length = x.length + y.length + 1 ∧ Wf p.2.2 ∧ 0 ≤ p.2.1 ∧ p.2.1 < 4294967296 ∧ p.2.2.drop (i + p.1) = o.drop (i + p.1) ∧
        val (p.2.2.take (i + p.1)) + 4294967296 ^ i * 4294967296 ^ p.1 * p.2.1 = val (o.take (i + p.1)) + 4294967296 ^ i * x.getD i 0 * val (y.take p.1))
      (fun p => y.length - p.1) (0, 0, o) ⟨Nat.zero_le _, h2, h3, Int.le_refl 0, (by decide : (0 : Int) < 4294967296), rfl, by simp [val]⟩ ?_ ?_
    · exact Hv
    rintro ⟨j, c, q⟩ r ⟨g1, g2, g3, g4, g5, g6, g7⟩ J2 hJ2
    simp only at g1 g2 g3 g4 g5 g6 g7
    have G7 := Hd.mk g7
    clear g7
    by_cases hj : j < y.length
    · have hyj := hy.at j
      have hq := g3.at (i + j)
      have hm := mul_bd hai hyj
      have fin : ∀ s c2 : Int, s + 4294967296 * c2 = x.getD i 0 * y.getD j 0 + q.getD (i + j) 0 + c →
          val ((q.set (i + j) s).take (i + (j + 1))) + 4294967296 ^ i * 4294967296 ^ (j + 1) * c2 = val (o.take (i + (j + 1))) + 4294967296 ^ i * x.getD i 0 * val (y.take (j + 1)) := by
        intro s c2 e
        have hqo : o.getD (i + j) 0 = q.getD (i + j) 0 := by
          have := congrArg (fun l => l.getD 0 0) g6
          simpa [List.getD_eq_getElem?_getD, List.getElem?_drop] using this.symm
        rw [show i + (j + 1) = i + j + 1 from rfl, val_take_set (by omega), val_take_at o, val_take_at y, hqo, pow_snoc, Int.pow_add]
        exact mul_step G7.out e
      refine T ?_
      refine hJ2 _ (j + 1, (c + (q.getD (i + j) 0 + x.getD i 0 * y.getD j 0)) / 4294967296, q.set (i + j) ((c + (q.getD (i + j) 0 + x.getD i 0 * y.getD j 0)) % 4294967296)) ?_ ⟨hj, by simp [g2], g3.set _ (by omega) (by omega), ?_, ?_, ?_, fin ((c + (q.getD (i + j) 0 + x.getD i 0 * y.getD j 0)) % 4294967296) ((c + (q.getD (i + j) 0 + x.getD i 0 * y.getD j 0)) / 4294967296) (by omega)⟩ ?_
      · show y.length - (j + 1) < y.length - j; omega
      · show 0 ≤ _ / _; omega
      · show _ / _ < (4294967296 : Int); omega
      · show (q.set (i + j) _).drop (i + j + 1) = o.drop (i + j + 1)
        rw [drop_set_lt (by omega), ← List.drop_drop, g6, List.drop_drop]
      · exact Hv
    · have hj' : j = y.length := by omega
      subst hj'
      refine T ?_
      refine hJ _ (i + 1, q.set (i + y.length) c) ?_ ⟨hi, by simp [g2], g3.set _ g4 g5, ?_, ?_⟩ ?_
      · show x.length - (i + 1) < x.length - i; omega
      · intro k hk
        simp only at hk
        have e := congrArg (fun l => l.getD (k - (i + y.length)) 0) g6
        simp only [List.getD_eq_getElem?_getD, List.getElem?_drop, show i + y.length + (k - (i + y.length)) = k by omega] at e
        simp only [List.getD_eq_getElem?_getD]
        rw [List.getElem?_set_ne (by omega), e]
        simpa [List.getD_eq_getElem?_getD] using h4 k (by omega)
      · have G := G7.out
        rw [List.take_length] at G
        show val ((q.set (i + y.length) c).take (i + 1 + y.length)) = val (x.take (i + 1)) * val y
        rw [show i + 1 + y.length = i + y.length + 1 by omega, val_take_set (by omega), Int.pow_add, G, val_take_at x, H5.out]
        grind
      · exact Hv
  · have hi' : i = x.length := by omega
    subst hi'
    have h5 := H5.out
    have el : val o = val (o.take (x.length + y.length)) := by
      have := val_take_at o (x.length + y.length)
      rw [List.take_of_length_le (by omega), h4 _ (Nat.le_refl _)] at this
      omega
    rw [← el, List.take_length, ix.val, iy.val] at h5
    refine T ?_
    refine call_eq (by rw [← h2]) (q_Trim o (by omega)) ?_
    refine TR ?_
    rw [trim_N h3, h5]
end Go.Ab
end
