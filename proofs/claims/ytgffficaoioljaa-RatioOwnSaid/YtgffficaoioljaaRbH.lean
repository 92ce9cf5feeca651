import Derived.Test.YtgffficaoioljaaRbG
import Derived.Test.YtgffficaoioljaaRbA
set_option linter.all false
section
namespace Go.Ab
open Go Go.Proofs Go.Proofs.Ytgffficaoioljaa.Pl
set_option maxRecDepth 100000
theorem getD_lt {l : List Int} {n : Nat} (h : n < l.length) : l.getD n 0 = l[n] := by simp [List.getD_eq_getElem?_getD, h]
theorem trim_take_zero {l : List Int} {n : Nat} (h : n < l.length) (h0 : l.getD n 0 = 0) : trim (l.take (n + 1)) = trim (l.take n) := by
  rw [List.take_succ_eq_append_getElem h, ← getD_lt h, h0, trim_zero]
theorem trim_take_ne {l : List Int} {n : Nat} (h : n < l.length) (h0 : l.getD n 0 ≠ 0) : trim (l.take (n + 1)) = l.take (n + 1) := by
  rw [List.take_succ_eq_append_getElem h, ← getD_lt h, trim_snoc _ _ h0]
theorem U_eq {l m : List Int} {n : Nat} {xs : List AV} (h : l = m) (hn : n = l.length) (hx : xs = l.map u32) : AV.vs n xs = U m := by subst h hn hx; rfl
theorem s_cut (l : List Int) (hl : l.length ≤ 4611686018427387904) : Spec Try.prog 108 [U l] (U (trim l)) := by
  refine spec_of_awp mixed Try.func108 rfl Try.call108 (by kernel_rfl) (by simp) rfl ?_
  refine T (w_loop (α := Nat) (fun n => [(.t 0, U l), (.t 3, .sc (.int .i64 n))]) (fun n => n ≤ l.length ∧ trim (l.take n) = trim l) id l.length ⟨Nat.le_refl _, by simp⟩ ?_ ?_)
  · exact Hv
  rintro n r ⟨hn, ht⟩ J hJ
  rcases n with _ | n
  · refine T (r_ret ?_)
    rw [Try.results108]
    refine R (wk_eq ?_)
    exact U_eq ht (by simp [trim]) (by simp [trim])
  · by_cases h0 : l.getD n 0 = 0
    · refine T ?_
      exact hJ _ n (Nat.lt_succ_self _) ⟨by omega, by rw [← ht, trim_take_zero hn h0]⟩ Hv
    · refine T (r_ret ?_)
      rw [Try.results108]
      refine R (wk_eq ?_)
      rw [trim_take_ne hn h0] at ht
      exact U_eq ht (by simp; omega) (by simp)
end Go.Ab
end
section
namespace Go.Ab
open Go Go.Proofs Go.Proofs.Ytgffficaoioljaa.Pl
set_option maxRecDepth 100000
theorem s_Trim (l : List Int) (hl : l.length ≤ 35184372088832) : Spec Try.prog 90 [U l] (U (trim l)) := by
  refine spec_of_awp mixed Try.func90 rfl Try.call90 (by kernel_rfl) (by simp) rfl ?_
  refine T (w_loop (α := Nat) (fun n => [(.t 0, U l), (.t 3, .sc (.int .i64 n))]) (fun n => n ≤ l.length ∧ trim (l.take n) = trim l) id l.length ⟨Nat.le_refl _, by simp⟩ ?_ ?_)
  · exact Hv
  rintro n r ⟨hn, ht⟩ J hJ
  rcases n with _ | n
  · refine T (r_ret ?_)
    rw [Try.results90]
    refine R ?_
    rw [← ht]
    exact Wk.nil
  · by_cases h0 : l.getD n 0 = 0
    · refine T ?_
      exact hJ _ n (Nat.lt_succ_self _) ⟨by omega, by rw [← ht, trim_take_zero hn h0]⟩ Hv
    · refine T (r_ret ?_)
      rw [Try.results90]
      refine R (wk_eq ?_)
      rw [trim_take_ne hn h0] at ht
      exact U_eq ht (by simp; omega) (by simp)
theorem s_Add32 (x y c : Int) (hx : 0 ≤ x) (hx' : x < 4294967296) (hy : 0 ≤ y) (hy' : y < 4294967296) (hc : 0 ≤ c) (hc' : c < 2) : Spec Try.prog 115 [u32 x, u32 y, u32 c] (.tup [u32 ((x + y + c) % 4294967296), u32 ((x + y + c) / 4294967296)]) := by
  refine spec_of_awp mixed Try.func115 rfl Try.call115 (by kernel_rfl) (by simp) rfl ?_
  refine T (r_ret ?_)
  rw [Try.results115]
  exact R (wk_eq rfl)
end Go.Ab
end
section
namespace Go.Ab
open Go Go.Proofs Go.Proofs.Ytgffficaoioljaa.Pl
set_option maxRecDepth 100000
set_option maxHeartbeats 4000000
theorem getD_wf {l : List Int} (h : Wf l) {n : Nat} (hn : n < l.length) : 0 ≤ l.getD n 0 ∧ l.getD n 0 < 4294967296 := by
  rw [getD_lt hn]; exact h _ (List.getElem_mem hn)
theorem take_snoc {l : List Int} {n : Nat} (h : n < l.length) : l.take (n + 1) = l.take n ++ [l.getD n 0] := by
  rw [List.take_succ_eq_append_getElem h, getD_lt h]
theorem val_take_snoc {l : List Int} {n : Nat} (h : n < l.length) : val (l.take (n + 1)) = val (l.take n) + 4294967296 ^ n * l.getD n 0 := by
  rw [take_snoc h, val_snoc, List.length_take, Nat.min_eq_left (by omega)]
theorem add_step {A B O P x y c q m : Int} (h : A + B = O + P * c) (e : x + y + c = q * 4294967296 + m) : (A + P * x) + (B + P * y) = (O + P * m) + P * 4294967296 * q := by
  have : P * (x + y + c) = P * (q * 4294967296 + m) := by rw [e]
  grind
theorem s_Add (a b : List Int) (ha : Wf a) (hb : Wf b) (la : a.length ≤ 35184372088000) (lb : b.length ≤ 35184372088000) : Spec Try.prog 93 [U a, U b] (U (N (val a + val b))) := by
  refine spec_of_awp mixed Try.func93 rfl Try.call93 (by kernel_rfl) (by simp) rfl ?_
  refine w_seq (S1 ?_)
  refine w_cut (α := List Int × List Int) (fun p => [(.t 0, U p.1), (.t 1, U p.2), (.h 20, .blk 0 0 [])]) (fun p => Wf p.1 ∧ Wf p.2 ∧ p.1.length ≤ 35184372088000 ∧ p.2.length ≤ p.1.length ∧ val p.1 + val p.2 = val a + val b) ?_ ?_
  · intro J hJ
    by_cases h : a.length < b.length
    · refine T ?_
      exact hJ _ (b, a) ⟨hb, ha, lb, by show a.length ≤ b.length; omega, Int.add_comm _ _⟩ Hv
    · refine T ?_
      exact hJ _ (a, b) ⟨ha, hb, la, by show b.length ≤ a.length; omega, rfl⟩ Hv
  rintro ⟨x, y⟩ r ⟨hx, hy, lx, h, hv⟩
  simp only at hx hy lx h hv
  refine T (w_loop (α := Nat × Nat × Int × List Int) (fun p => [(.t 0, U x), (.t 1, U y), (.t 5, .hs 20 p.2.1 0 p.1 1), (.t 6, u32 p.2.2.1), (.t 22, .sc (.int .i64 x.length)), (.t 23, .sc (.int .i64 p.1)), (.h 20, .blk p.2.1 2 (p.2.2.2.map u32))])
    (fun p => p.1 ≤ x.length ∧ p.2.2.2.length = p.1 ∧ Wf p.2.2.2 ∧ 0 ≤ p.2.2.1 ∧ p.2.2.1 < 2 ∧ val (x.take p.1) + val (y.take p.1) = val p.2.2.2 + 4294967296 ^ p.1 * p.2.2.1)
    (fun p => x.length - p.1) (0, 1, 0, []) ⟨Nat.zero_le _, rfl, Wf.nil, by decide, by decide, by simp [val]⟩ ?_ ?_)
  · exact Hv
  rintro ⟨i, g, c, o⟩ r ⟨h1, h2, h3, h4, h5, h6⟩ J hJ
  simp only at h1 h2 h3 h4 h5 h6
  have H6 := Hd.mk h6
  clear h6
  by_cases hi : i < x.length
  · have hai := getD_wf hx hi
    have fin : ∀ z : Int, 0 ≤ z → z < 4294967296 → val (y.take (i + 1)) = val (y.take i) + 4294967296 ^ i * z →
        val (x.take (i + 1)) + val (y.take (i + 1)) = val (o ++ [(x.getD i 0 + z + c) % 4294967296]) + 4294967296 ^ (i + 1) * ((x.getD i 0 + z + c) / 4294967296) := by
      intro z _ _ hy
      rw [val_take_snoc hi, hy, val_snoc, h2, Int.pow_succ]
      exact add_step H6.out (by have := Int.mul_ediv_add_emod (x.getD i 0 + z + c) 4294967296; omega)
    by_cases hyi : i < y.length
    · have hyi' := getD_wf hy hyi
      refine T (call_by (s_Add32 _ _ _ hai.1 hai.2 hyi'.1 hyi'.2 h4 h5) ?_)
      refine T ?_
      refine hJ _ (i + 1, g + 1, (x.getD i 0 + y.getD i 0 + c) / 4294967296, o ++ [(x.getD i 0 + y.getD i 0 + c) % 4294967296]) ?_ ⟨?_, ?_, ?_, ?_, ?_, ?_⟩ ?_
      · show x.length - (i + 1) < x.length - i; omega
      · exact hi
      · simp [h2]
      · exact Wf.append h3 (Wf.one (by omega) (by omega))
      · show 0 ≤ _ / _; omega
      · show _ / _ < 2; omega
      · exact fin _ hyi'.1 hyi'.2 (val_take_snoc hyi)
      · exact Hv
    · refine T (call_by (s_Add32 _ 0 _ hai.1 hai.2 (by decide) (by decide) h4 h5) ?_)
      refine T ?_
      refine hJ _ (i + 1, g + 1, (x.getD i 0 + 0 + c) / 4294967296, o ++ [(x.getD i 0 + 0 + c) % 4294967296]) ?_ ⟨?_, ?_, ?_, ?_, ?_, ?_⟩ ?_
      · show x.length - (i + 1) < x.length - i; omega
      · exact hi
      · simp [h2]
      · exact Wf.append h3 (Wf.one (by omega) (by omega))
      · show 0 ≤ _ / _; omega
      · show _ / _ < 2; omega
      · exact fin 0 (by decide) (by decide) (by rw [List.take_of_length_le (by omega), List.take_of_length_le (by omega)]; simp)
      · exact Hv
  · have hi' : i = x.length := by omega
    refine T ?_
    refine call_eq (by rw [show i + 1 = (o ++ [c]).length by simp [h2]]) (s_cut (o ++ [c]) (by simp; omega)) ?_
    refine T (r_ret ?_)
    rw [Try.results93]
    refine R (wk_eq ?_)
    have hw : Wf (o ++ [c]) := Wf.append h3 (Wf.one h4 (by omega))
    have h6 := H6.out
    rw [hi', List.take_length, List.take_of_length_le (by omega)] at h6
    rw [trim_N hw, val_snoc, h2, hi', ← h6, hv]
end Go.Ab
end
section
namespace Go.Ab
open Go Go.Proofs Go.Proofs.Ytgffficaoioljaa.Pl
set_option maxRecDepth 100000
set_option maxHeartbeats 4000000
theorem s_Cmp (a b : List Int) (ha : Wf a) (hb : Wf b) (la : a.length ≤ 35184372088000) (lb : b.length ≤ 35184372088000) : Spec Try.prog 89 [U a, U b] (.sc (.int .i64 (sgn (val a) (val b)))) := by
  refine spec_of_awp mixed Try.func89 rfl Try.call89 (by kernel_rfl) (by simp) rfl ?_
  refine T (call_by (s_cut a (by omega)) ?_)
  refine T (call_by (s_cut b (by omega)) ?_)
  have la' := trim_len a
  have lb' := trim_len b
  have ia := Is.of ha rfl
  have ib := Is.of hb rfl
  by_cases h : (trim a).length = (trim b).length
  · refine T ?_
    refine w_loop (α := Nat) (fun n => [(.t 0, U (trim a)), (.t 1, U (trim b)), (.t 5, .sc (.int .i64 ((n : Int) - 1)))]) (fun n => n ≤ (trim a).length ∧ (trim a).drop n = (trim b).drop n) id (trim a).length ⟨Nat.le_refl _, by rw [List.drop_length, h, List.drop_length]⟩ ?_ ?_
    · exact Hv
    rintro n r ⟨h1, h2⟩ J hJ
    rcases n with _ | n
    · refine TR ?_
      rw [sgn_eq (by rw [← trim_val a, ← trim_val b]; simpa using congrArg val h2)]
    · by_cases e : (trim a).getD n 0 = (trim b).getD n 0
      · refine T ?_
        refine hJ _ n (Nat.lt_succ_self _) ⟨by omega, ?_⟩ Hv
        rw [drop_at (show n < (trim a).length by omega), drop_at (show n < (trim b).length by omega), e, h2]
      · by_cases e2 : (trim a).getD n 0 < (trim b).getD n 0
        · refine TR ?_
          rw [sgn_lt (by rw [← trim_val a, ← trim_val b]; exact lt_at ia.wf ib.wf (by omega) (by omega) h2 e2)]
        · refine TR ?_
          rw [sgn_gt (by rw [← trim_val a, ← trim_val b]; exact lt_at ib.wf ia.wf (by omega) (by omega) h2.symm (by omega))]
  · by_cases h2 : (trim a).length < (trim b).length
    · refine TR ?_
      rw [sgn_lt (ia.lt_of_len ib h2)]
    · refine TR ?_
      rw [sgn_gt (ib.lt_of_len ia (by omega))]
end Go.Ab
end
