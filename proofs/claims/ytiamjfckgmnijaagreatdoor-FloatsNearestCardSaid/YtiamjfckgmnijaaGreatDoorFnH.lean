import Derived.Test.YtiamjfckgmnijaaGreatDoorFnG
import Derived.Test.YtiamjfckgmnijaaGreatDoorFnA
set_option linter.all false
section
namespace Go.Ab
open Go Go.Proofs Go.Proofs.YtiamjfckgmnijaaGreatDoor.Pl
set_option maxRecDepth 100000
theorem getD_lt {l : List Int} {n : Nat} (h : n < l.length) : l.getD n 0 = l[n] := by simp [List.getD_eq_getElem?_getD, h]
theorem trim_take_zero {l : List Int} {n : Nat} (h : n < l.length) (h0 : l.getD n 0 = 0) : trim (l.take (n + 1)) = trim (l.take n) := by
  rw [List.take_succ_eq_append_getElem h, ← getD_lt h, h0, trim_zero]
theorem trim_take_ne {l : List Int} {n : Nat} (h : n < l.length) (h0 : l.getD n 0 ≠ 0) : trim (l.take (n + 1)) = l.take (n + 1) := by
  rw [List.take_succ_eq_append_getElem h, ← getD_lt h, trim_snoc _ _ h0]
theorem U_eq {l m : List Int} {n : Nat} {xs : List AV} (h : l = m) (hn : n = l.length) (hx : xs = l.map u32) : AV.vs n xs = U m := by subst h hn hx; rfl
theorem s_cut (l : List Int) (hl : l.length ≤ 4611686018427387904) : Spec Tryz.prog 59 [U l] (U (trim l)) := by
  refine spec_of_awp mixed Tryz.func59 rfl Tryz.call59 (by kernel_rfl) (by simp) rfl ?_
  refine T (w_loop (α := Nat) (fun n => [(.t 0, U l), (.t 3, .sc (.int .i64 n))]) (fun n => n ≤ l.length ∧ trim (l.take n) = trim l) id l.length ⟨Nat.le_refl _, by simp⟩ ?_ ?_)
  · exact Hv
  rintro n r ⟨hn, ht⟩ J hJ
  rcases n with _ | n
  · refine T (r_ret ?_)
    rw [Tryz.results59]
    refine R (wk_eq ?_)
    exact U_eq ht (by simp [trim]) (by simp [trim])
  · by_cases h0 : l.getD n 0 = 0
    · refine T ?_
      exact hJ _ n (Nat.lt_succ_self _) ⟨by omega, by rw [← ht, trim_take_zero hn h0]⟩ Hv
    · refine T (r_ret ?_)
      rw [Tryz.results59]
      refine R (wk_eq ?_)
      rw [trim_take_ne hn h0] at ht
      exact U_eq ht (by simp; omega) (by simp)
end Go.Ab
end
section
namespace Go.Ab
open Go Go.Proofs Go.Proofs.YtiamjfckgmnijaaGreatDoor.Pl
set_option maxRecDepth 100000
theorem s_Trim (l : List Int) (hl : l.length ≤ 35184372088832) : Spec Tryz.prog 60 [U l] (U (trim l)) := by
  refine spec_of_awp mixed Tryz.func60 rfl Tryz.call60 (by kernel_rfl) (by simp) rfl ?_
  refine T (w_loop (α := Nat) (fun n => [(.t 0, U l), (.t 3, .sc (.int .i64 n))]) (fun n => n ≤ l.length ∧ trim (l.take n) = trim l) id l.length ⟨Nat.le_refl _, by simp⟩ ?_ ?_)
  · exact Hv
  rintro n r ⟨hn, ht⟩ J hJ
  rcases n with _ | n
  · refine T (r_ret ?_)
    rw [Tryz.results60]
    refine R ?_
    rw [← ht]
    exact Wk.nil
  · by_cases h0 : l.getD n 0 = 0
    · refine T ?_
      exact hJ _ n (Nat.lt_succ_self _) ⟨by omega, by rw [← ht, trim_take_zero hn h0]⟩ Hv
    · refine T (r_ret ?_)
      rw [Tryz.results60]
      refine R (wk_eq ?_)
      rw [trim_take_ne hn h0] at ht
      exact U_eq ht (by simp; omega) (by simp)
theorem s_Add32 (x y c : Int) (hx : 0 ≤ x) (hx' : x < 4294967296) (hy : 0 ≤ y) (hy' : y < 4294967296) (hc : 0 ≤ c) (hc' : c < 2) : Spec Tryz.prog 96 [u32 x, u32 y, u32 c] (.tup [u32 ((x + y + c) % 4294967296), u32 ((x + y + c) / 4294967296)]) := by
  refine spec_of_awp mixed Tryz.func96 rfl Tryz.call96 (by kernel_rfl) (by simp) rfl ?_
  refine T (r_ret ?_)
  rw [Tryz.results96]
  exact R (wk_eq rfl)
end Go.Ab
end
section
namespace Go.Ab
open Go Go.Proofs Go.Proofs.YtiamjfckgmnijaaGreatDoor.Pl
set_option maxRecDepth 100000
set_option maxHeartbeats 4000000
theorem getD_wf {l : List Int} (h : Wf l) {n : Nat} (hn : n < l.length) : 0 ≤ l.getD n 0 ∧ l.getD n 0 < 4294967296 := by
  rw [getD_lt hn]; exact h _ (List.getElem_mem hn)
theorem take_snoc {l : List Int} {n : Nat} (h : n < l.length) : l.take (n + 1) = l.take n ++ [l.getD n 0] := by
  rw [List.take_succ_eq_append_getElem h, getD_lt h]
theorem val_take_snoc {l : List Int} {n : Nat} (h : n < l.length) : val (l.take (n + 1)) = val (l.take n) + 4294967296 ^ n * l.getD n 0 := by
  rw [take_snoc h, val_snoc, List.length_take, Nat.min_eq_left (by omega)]
theorem add_step {A B O P x y c q m : Int} (h : A + B = O + P * c) (e : x + y + c = q * 4294967296 + m) : (A + P * x) + (B + P * y) = (O + P * m) + P * 4294967296 * q := by
  have : P * (x + y + c) = P * (q * 4294967296 + m) := by rw [e]
  grind
end Go.Ab
end
section
namespace Go.Ab
open Go Go.Proofs Go.Proofs.YtiamjfckgmnijaaGreatDoor.Pl
set_option maxRecDepth 100000
set_option maxHeartbeats 4000000
theorem s_Cmp (a b : List Int) (ha : Wf a) (hb : Wf b) (la : a.length ≤ 35184372088000) (lb : b.length ≤ 35184372088000) : Spec Tryz.prog 67 [U a, U b] (.sc (.int .i64 (sgn (val a) (val b)))) := by
  refine spec_of_awp mixed Tryz.func67 rfl Tryz.call67 (by kernel_rfl) (by simp) rfl ?_
  refine T (call_by (s_cut a (by omega)) ?_)
  refine T (call_by (s_cut b (by omega)) ?_)
  have la' := trim_len a
  have lb' := trim_len b
  have ia := Is.of ha rfl
  have ib := Is.of hb rfl
  by_cases h : (trim a).length = (trim b).length
  · refine T ?_
    refine w_loop (α := Nat) (fun n => [(.t 0, U (trim a)), (.t 1, U (trim b)), (.t 5, .sc (.int .i64 ((n : Int) - 1)))]) (fun n => n ≤ (trim a).length ∧ (trim a).drop n = (trim b).drop n) id (trim a).length ⟨Nat.le_refl _, by rw [List.drop_length, h, List.drop_length]⟩ ?_ ?_
    · exact Hv
    rintro n r ⟨h1, h2⟩ J hJ
    rcases n with _ | n
    · refine TR ?_
      rw [sgn_eq (by rw [← trim_val a, ← trim_val b]; simpa using congrArg val h2)]
    · by_cases e : (trim a).getD n 0 = (trim b).getD n 0
      · refine T ?_
        refine hJ _ n (Nat.lt_succ_self _) ⟨by omega, ?_⟩ Hv
        rw [drop_at (show n < (trim a).length by omega), drop_at (show n < (trim b).length by omega), e, h2]
      · by_cases e2 : (trim a).getD n 0 < (trim b).getD n 0
        · refine TR ?_
          rw [sgn_lt (by rw [← trim_val a, ← trim_val b]; exact lt_at ia.wf ib.wf (by omega) (by omega) h2 e2)]
        · refine TR ?_
          rw [sgn_gt (by rw [← trim_val a, ← trim_val b]; exact lt_at ib.wf ia.wf (by omega) (by omega) h2.symm (by omega))]
  · by_cases h2 : (trim a).length < (trim b).length
    · refine TR ?_
      rw [sgn_lt (ia.lt_of_len ib h2)]
    · refine TR ?_
      rw [sgn_gt (ib.lt_of_len ia (by omega))]
end Go.Ab
end
