import Derived.Test.YtiamjfckgmnijaaGreatDoorFnN
set_option linter.all false
section
namespace Go.Ab
open Go Go.Proofs Go.Proofs.YtiamjfckgmnijaaGreatDoor.Pl
set_option maxRecDepth 100000
set_option maxHeartbeats 8000000
theorem q_Cmp (a b : List Int) (ha : Wf a) (hb : Wf b) (la : a.length ≤ 35184372088000) (lb : b.length ≤ 35184372088000) : Spec Tryz.prog 74 [U a, U b] (.sc (.int .i64 (sgn (val a) (val b)))) := by
  refine spec_of_awp mixed Tryz.func74 rfl Tryz.call74 (by kernel_rfl) (by simp) rfl ?_
  refine T (call_by (q_Trim a (by omega)) ?_)
  refine T (call_by (q_Trim b (by omega)) ?_)
  have la' := trim_len a
  have lb' := trim_len b
  have ia := Is.of ha rfl
  have ib := Is.of hb rfl
  by_cases h : (trim a).length = (trim b).length
  · refine T ?_
    refine w_loop (α := Nat) (fun n => [(.t 5, U (trim a)), (.t 6, U (trim b)), (.t 7, .sc (.int .i64 ((n : Int) - 1)))]) (fun n => n ≤ (trim a).length ∧ (trim a).drop n = (trim b).drop n) id (trim a).length ⟨Nat.le_refl _, by rw [List.drop_length, h, List.drop_length]⟩ ?_ ?_
    · exact Hv
    rintro n r ⟨h1, h2⟩ J hJ
    rcases n with _ | n
    · refine TR ?_
      rw [sgn_eq (by rw [← trim_val a, ← trim_val b]; simpa using congrArg val h2)]
    · by_cases e : (trim a).getD n 0 = (trim b).getD n 0
      · refine T ?_
        refine hJ _ n (Nat.lt_succ_self _) ⟨by omega, ?_⟩ Hv
        rw [drop_at (show n < (trim a).length by omega), drop_at (show n < (trim b).length by omega), e, h2]
      · by_cases e2 : (trim a).getD n 0 < (trim b).getD n 0
        · refine TR ?_
          rw [sgn_lt (by rw [← trim_val a, ← trim_val b]; exact lt_at ia.wf ib.wf (by omega) (by omega) h2 e2)]
        · refine TR ?_
          rw [sgn_gt (by rw [← trim_val a, ← trim_val b]; exact lt_at ib.wf ia.wf (by omega) (by omega) h2.symm (by omega))]
  · by_cases h2 : (trim a).length < (trim b).length
    · refine TR ?_
      rw [sgn_lt (ia.lt_of_len ib h2)]
    · refine TR ?_
      rw [sgn_gt (ib.lt_of_len ia (by omega))]
def bitL (l : List Int) (n : Nat) : Bool := decide (l.getD (n / 32) 0 / 2 ^ (n % 32) % 2 = 1)
theorem q_Bit (l : List Int) (n : Nat) (hw : Wf l) (hl : l.length ≤ 4611686018427387904) (hn : n ≤ 4611686018427387904) : Spec Tryz.prog 72 [U l, .sc (.int .i64 n)] (.sc (.bool (bitL l n))) := by
  refine spec_of_awp mixed Tryz.func72 rfl Tryz.call72 (by kernel_rfl) (by simp) rfl ?_
  have hs : n % 32 < 32 := Nat.mod_lt _ (by decide)
  by_cases h : n / 32 < l.length
  · have w := hw.at (n / 32)
    refine TR ?_
    have hp : (0 : Int) < 2 ^ (n % 32) := Int.pow_pos (by decide)
    rw [bitL, Int.fdiv_eq_ediv_of_nonneg _ (Int.le_of_lt hp), Int.tmod_eq_emod_of_nonneg (Int.ediv_nonneg w.1 (Int.le_of_lt hp))]
  · refine TR ?_
    rw [bitL, getD_big (by omega)]
    simp
end Go.Ab
end
section
namespace Go.Ab
open Go Go.Proofs Go.Proofs.YtiamjfckgmnijaaGreatDoor.Pl
set_option maxRecDepth 100000
set_option maxHeartbeats 8000000
theorem plus_step {a b o : List Int} {i : Nat} {c s : Int} (ho : o.length = i) (h : val (a.take i) + val (b.take i) = val o + 4294967296 ^ i * c) (e : s = c + a.getD i 0 + b.getD i 0) :
    val (a.take (i + 1)) + val (b.take (i + 1)) = val (o ++ [s % 4294967296]) + 4294967296 ^ (i + 1) * (s / 4294967296) := by
  rw [val_take_at a, val_take_at b, val_snoc, ho, Int.pow_succ]
  exact add_step h (by have := Int.mul_ediv_add_emod s 4294967296; omega)
theorem q_Plus (a b : List Int) (ha : Wf a) (hb : Wf b) (la : a.length ≤ 35184372088000) (lb : b.length ≤ 35184372088000) : Spec Tryz.prog 73 [U a, U b] (U (N (val a + val b))) := by
  refine spec_of_awp mixed Tryz.func73 rfl Tryz.call73 (by kernel_rfl) (by simp) rfl ?_
  refine T ?_
  refine w_loop (α := Nat × Int × List Int) (fun p => [(.t 0, U a), (.t 1, U b), (.t 6, .sc (.int .u64 p.2.1)), (.t 7, .sc (.int .i64 p.1)), (.t 5, oV 47 p.1), (.h 47, oB p.1 p.2.2), (.h 54, .blk 0 0 [])])
    (fun p => p.1 ≤ max a.length b.length ∧ p.2.2.length = p.1 ∧ Wf p.2.2 ∧ 0 ≤ p.2.1 ∧ p.2.1 < 2 ∧ val (a.take p.1) + val (b.take p.1) = val p.2.2 + 4294967296 ^ p.1 * p.2.1)
    (fun p => max a.length b.length - p.1) (0, 0, []) ⟨Nat.zero_le _, rfl, Wf.nil, by decide, by decide, by simp [val]⟩ ?_ ?_
  · dsimp only [oV, oB]
    exact Hv
  rintro ⟨i, c, o⟩ r ⟨h1, h2, h3, h4, h5, h6⟩ J hJ
  simp only at h1 h2 h3 h4 h5 h6
  have H6 := Hd.mk h6
  clear h6
  have wa := ha.at i
  have wb := hb.at i
  have fin : ∀ s, s = c + a.getD i 0 + b.getD i 0 → i < max a.length b.length → ∀ s', Has [(.t 0, U a), (.t 1, U b), (.t 6, .sc (.int .u64 (s / 4294967296))), (.t 7, .sc (.int .i64 ((i : Int) + 1))), (.t 5, .hs 47 (i + 1) 0 (i + 1) 1), (.h 47, .blk (i + 1) 2 ((o ++ [s % 4294967296]).map u32)), (.h 54, .blk 0 0 [])] s' → J s' := by
    intro s e hi s' hs
    refine hJ s' (i + 1, s / 4294967296, o ++ [s % 4294967296]) (by show _ - (i + 1) < _ - i; omega) ⟨by show i + 1 ≤ _; omega, by simp [h2], Wf.append h3 (Wf.one (by omega) (by omega)), ?_, ?_, plus_step h2 H6.out e⟩ hs
    · show 0 ≤ s / 4294967296; omega
    · show s / 4294967296 < 2; omega
  rcases i with _ | i
  · have : o = [] := List.eq_nil_of_length_eq_zero h2
    subst this
    dsimp only [oV, oB]
    by_cases h7 : 0 < a.length
    · by_cases h8 : 0 < b.length
      · refine T ?_
        refine fin _ rfl (by omega) _ (H ?_)
        exact ⟨rfl, rfl⟩
      · have : b.getD 0 0 = 0 := getD_big (by omega)
        refine T ?_
        refine fin (c + a.getD 0 0) (by omega) (by omega) _ (H ?_)
        exact ⟨rfl, rfl⟩
    · have e1 : a.getD 0 0 = 0 := getD_big (by omega)
      by_cases h8 : 0 < b.length
      · refine T ?_
        refine fin (c + b.getD 0 0) (by omega) (by omega) _ (H ?_)
        exact ⟨rfl, rfl⟩
      · have h6 := H6.out
        rw [List.take_zero, List.take_zero, Int.pow_zero, Int.one_mul] at h6
        refine T (call_by (q_Trim [c] (by simp)) ?_)
        refine TR ?_
        have e2 : a = [] := List.eq_nil_of_length_eq_zero (by omega)
        have e3 : b = [] := List.eq_nil_of_length_eq_zero (by omega)
        rw [trim_N (Wf.one h4 (by omega)), val_one, e2, e3, show val [] + val [] = c by have e0 : val [] = 0 := rfl; omega]
  · dsimp only [oV, oB]
    by_cases h7 : i + 1 < a.length
    · by_cases h8 : i + 1 < b.length
      · refine T ?_
        refine fin _ rfl (by omega) _ ?_
        exact Hv
      · have : b.getD (i + 1) 0 = 0 := getD_big (by omega)
        refine T ?_
        refine fin (c + a.getD (i + 1) 0) (by omega) (by omega) _ ?_
        exact Hv
    · have e1 : a.getD (i + 1) 0 = 0 := getD_big (by omega)
      by_cases h8 : i + 1 < b.length
      · refine T ?_
        refine fin (c + b.getD (i + 1) 0) (by omega) (by omega) _ ?_
        exact Hv
      · have h6 := H6.out
        rw [List.take_of_length_le (by omega), List.take_of_length_le (by omega)] at h6
        refine T ?_
        refine call_eq (by rw [show i + 1 + 1 = (o ++ [c]).length by simp [h2]]) (q_Trim (o ++ [c]) (by simp; omega)) ?_
        refine TR ?_
        rw [trim_N (Wf.append h3 (Wf.one h4 (by omega))), val_snoc, h2, h6]
end Go.Ab
end
