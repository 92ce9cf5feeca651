import Derived.Test.YtiamjfckgmnijaaGreatDoorFnL
set_option linter.all false
section
namespace Go.Ab
open Go Go.Proofs Go.Proofs.YtiamjfckgmnijaaGreatDoor.Pl
set_option maxRecDepth 100000
set_option maxHeartbeats 8000000
def oV (k : Nat) : Nat → AV
  | 0 => .sc (.slice none 0 0)
  | g + 1 => .hs k (g + 1) 0 (g + 1) 1
def oB : Nat → List Int → AV
  | 0, _ => .blk 0 0 []
  | g + 1, o => .blk (g + 1) 2 (o.map u32)
theorem q_Trim (l : List Int) (hl : l.length ≤ 35184372088832) : Spec Tryz.prog 64 [U l] (U (trim l)) := by
  refine spec_of_awp mixed Tryz.func64 rfl Tryz.call64 (by kernel_rfl) (by simp) rfl ?_
  refine TB ?_
  refine w_cut (α := Nat) (fun n => [(.t 0, U l), (.t 3, .sc (.int .i64 n)), (.h 31, .blk 0 0 [])]) (fun n => n ≤ l.length ∧ trim l = l.take n) ?_ ?_
  · intro J hJ
    refine T (w_loop (α := Nat) (fun n => [(.t 0, U l), (.t 3, .sc (.int .i64 n)), (.h 31, .blk 0 0 [])]) (fun n => n ≤ l.length ∧ trim (l.take n) = trim l) id l.length ⟨Nat.le_refl _, by simp⟩ ?_ ?_)
    · exact Hv
    rintro n r ⟨hn, et⟩ J2 hJ2
    rcases n with _ | n
    · refine T ?_
      exact hJ _ 0 ⟨Nat.zero_le _, by rw [← et]; rfl⟩ Hv
    · by_cases h0 : l.getD n 0 = 0
      · refine T ?_
        exact hJ2 _ n (Nat.lt_succ_self _) ⟨by omega, by rw [← et, trim_take_zero hn h0]⟩ Hv
      · refine T ?_
        exact hJ _ (n + 1) ⟨hn, by rw [← et, trim_take_ne hn h0]⟩ Hv
  rintro n r ⟨hn, et⟩
  refine T ?_
  refine w_loop (α := Nat) (fun i => [(.t 0, U l), (.t 3, .sc (.int .i64 n)), (.t 5, .sc (.int .i64 i)), (.t 4, oV 31 i), (.h 31, oB i (l.take i))]) (fun i => i ≤ n) (fun i => n - i) 0 (Nat.zero_le _) ?_ ?_
  · dsimp only [oV, oB]
    exact Hv
  rintro i r h1 J hJ
  rcases i with _ | i
  · dsimp only [oV, oB]
    by_cases h : n = 0
    · refine T (r_ret ?_)
      refine R ?_
      rw [et, h]
      exact Wk.nil
    · refine T ?_
      refine hJ _ 1 (by omega) (by omega) ?_
      have e : l.take 1 = [l.getD 0 0] := take_at (n := 0) (by omega)
      dsimp only [oV, oB]
      rw [e]
      refine H ?_
      exact ⟨rfl, rfl⟩
  · dsimp only [oV, oB]
    by_cases h : i + 1 < n
    · refine T ?_
      refine hJ _ (i + 2) (by omega) (by omega) ?_
      have e : l.take (i + 1 + 1) = l.take (i + 1) ++ [l.getD (i + 1) 0] := take_at (n := i + 1) (by omega)
      dsimp only [oV, oB]
      rw [e]
      exact Hv
    · have e : i + 1 = n := by omega
      subst e
      refine TR ?_
      rw [et]
      show AV.vs (i + 1) _ = AV.vs (l.take (i + 1)).length _
      rw [List.length_take, Nat.min_eq_left hn]
end Go.Ab
end
section
namespace Go.Ab
open Go Go.Proofs Go.Proofs.YtiamjfckgmnijaaGreatDoor.Pl
set_option maxRecDepth 100000
set_option maxHeartbeats 8000000
theorem q_Form (l : List Int) (hl : l.length ≤ 4611686018427387904) : Spec Tryz.prog 39 [U l] (.sc (.bool (natB l))) := by
  refine spec_of_awp mixed Tryz.func39 rfl Tryz.call39 (by kernel_rfl) (by simp) rfl ?_
  by_cases h1 : l.length ≤ 16
  · by_cases h2 : l.length = 0
    · refine TR ?_
      have : l = [] := List.eq_nil_of_length_eq_zero h2
      subst this
      rfl
    · obtain ⟨n, hn⟩ : ∃ n, l.length = n + 1 := ⟨l.length - 1, by omega⟩
      have hi : ((l.length : Int) - 1).toNat = n := by omega
      by_cases h3 : l.getD ((l.length : Int) - 1).toNat 0 = 0
      · refine TR ?_
        rw [natB, decide_eq_false]
        rintro ⟨_, h4⟩
        have := (nm_iff h2).1 h4
        rw [hi] at h3
        rw [show l.length - 1 = n by omega] at this
        exact this h3
      · refine TR ?_
        rw [natB, decide_eq_true]
        refine ⟨h1, (nm_iff h2).2 ?_⟩
        rw [hi] at h3
        rwa [show l.length - 1 = n by omega]
  · refine TR ?_
    rw [natB, decide_eq_false]
    exact fun h => h1 h.1
theorem take_ext {a b : List Int} {i : Nat} (h : a.take i = b.take i) (ha : i < a.length) (hb : i < b.length) (e : a.getD i 0 = b.getD i 0) : a.take (i + 1) = b.take (i + 1) := by
  rw [take_at ha, take_at hb, h, e]
theorem q_Same1 (a b : List Int) (la : a.length ≤ 4611686018427387904) (lb : b.length ≤ 4611686018427387904) : Spec Tryz.prog 31 [U a, U b] (.sc (.bool (decide (a = b)))) := by
  refine spec_of_awp mixed Tryz.func31 rfl Tryz.call31 (by kernel_rfl) (by simp) rfl ?_
  by_cases h : a.length = b.length
  · refine T ?_
    refine w_loop (α := Nat) (fun i => [(.t 0, U a), (.t 1, U b), (.t 5, .sc (.int .i64 i))]) (fun i => i ≤ a.length ∧ a.take i = b.take i) (fun i => a.length - i) 0 ⟨Nat.zero_le _, rfl⟩ ?_ ?_
    · exact Hv
    rintro i r ⟨h1, h2⟩ J hJ
    by_cases h3 : i < a.length
    · by_cases h4 : a.getD i 0 = b.getD i 0
      · refine T ?_
        exact hJ _ (i + 1) (by omega) ⟨by omega, take_ext h2 h3 (by omega) h4⟩ Hv
      · refine TR ?_
        rw [decide_eq_false]
        rintro rfl
        exact h4 rfl
    · refine TR ?_
      rw [List.take_of_length_le (by omega), List.take_of_length_le (by omega)] at h2
      rw [h2, decide_eq_true rfl]
  · refine TR ?_
    rw [decide_eq_false]
    rintro rfl
    exact h rfl
end Go.Ab
end
