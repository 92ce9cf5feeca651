import Derived.Test.YtiamjfckgmnijaaGreatDoorFnN
set_option linter.all false
section
namespace Go.Ab
open Go Go.Proofs Go.Proofs.YtiamjfckgmnijaaGreatDoor.Pl
set_option maxRecDepth 100000
set_option maxHeartbeats 8000000
theorem o_Trim (l : List Int) (hl : l.length ≤ 35184372088832) (h0 : (trim l).length ≠ 0) : SpecO Tryz.prog 64 [U l] (.hs 1000000 1 0 (trim l).length 1) ((trim l).map u32) := by
  refine specO_of_awp 31 (trim l).length mixed Tryz.func64 rfl Tryz.call64 (by kernel_rfl) (by simp) rfl ?_
  refine TB ?_
  refine w_cut (α := Nat) (fun n => [(.t 0, U l), (.t 3, .sc (.int .i64 n)), (.h 31, .blk 0 0 [])]) (fun n => n ≤ l.length ∧ trim l = l.take n) ?_ ?_
  · intro J hJ
    refine T (w_loop (α := Nat) (fun n => [(.t 0, U l), (.t 3, .sc (.int .i64 n)), (.h 31, .blk 0 0 [])]) (fun n => n ≤ l.length ∧ trim (l.take n) = trim l) id l.length ⟨Nat.le_refl _, by simp⟩ ?_ ?_)
    · exact Hv
    rintro n r ⟨hn, et⟩ J2 hJ2
    rcases n with _ | n
    · refine T ?_
      exact hJ _ 0 ⟨Nat.zero_le _, by rw [← et]; rfl⟩ Hv
    · by_cases h0 : l.getD n 0 = 0
      · refine T ?_
        exact hJ2 _ n (Nat.lt_succ_self _) ⟨by omega, by rw [← et, trim_take_zero hn h0]⟩ Hv
      · refine T ?_
        exact hJ _ (n + 1) ⟨hn, by rw [← et, trim_take_ne hn h0]⟩ Hv
  rintro n r ⟨hn, et⟩
  have ln : (trim l).length = n := by rw [et, List.length_take, Nat.min_eq_left hn]
  refine T ?_
  refine w_loop (α := Nat) (fun i => [(.t 0, U l), (.t 3, .sc (.int .i64 n)), (.t 5, .sc (.int .i64 i)), (.t 4, oV 31 i), (.h 31, oB i (l.take i))]) (fun i => i ≤ n) (fun i => n - i) 0 (Nat.zero_le _) ?_ ?_
  · dsimp only [oV, oB]
    exact Hv
  rintro i r h1 J hJ
  rcases i with _ | i
  · dsimp only [oV, oB]
    refine T ?_
    refine hJ _ 1 (by omega) (by omega) ?_
    have e : l.take 1 = [l.getD 0 0] := take_at (n := 0) (by omega)
    dsimp only [oV, oB]
    rw [e]
    refine H ?_
    exact ⟨rfl, rfl⟩
  · dsimp only [oV, oB]
    by_cases h : i + 1 < n
    · refine T ?_
      refine hJ _ (i + 2) (by omega) (by omega) ?_
      have e : l.take (i + 1 + 1) = l.take (i + 1) ++ [l.getD (i + 1) 0] := take_at (n := i + 1) (by omega)
      dsimp only [oV, oB]
      rw [e]
      exact Hv
    · have e : i + 1 = n := by omega
      subst e
      refine TO ?_
      rw [ln, et]
      exact ⟨by simp, Wk.refl _, rfl⟩
theorem q_Minus (a b : List Int) (ha : Wf a) (hb : Wf b) (la : a.length ≤ 35184372088000) (lb : b.length ≤ 35184372088000) (hle : val b ≤ val a) : Spec Tryz.prog 75 [U a, U b] (U (N (val a - val b))) := by
  refine spec_of_awp mixed Tryz.func75 rfl Tryz.call75 (by kernel_rfl) (by simp) rfl ?_
  have la' := trim_len a
  have ix := Is.of ha rfl
  have iy := Is.of hb rfl
  have hlen : (trim b).length ≤ (trim a).length := iy.len (Int.lt_of_le_of_lt hle ix.lt)
  by_cases h0 : (trim a).length = 0
  · refine T (call_by (q_Trim a (by omega)) ?_)
    refine T (call_by (q_Trim b (by omega)) ?_)
    refine T ?_
    refine w_loop (α := Unit) (fun _ => [(.t 5, U (trim a)), (.t 8, .sc (.int .i64 0))]) (fun _ => True) (fun _ => 0) () trivial ?_ ?_
    · exact Hv
    rintro ⟨⟩ r _ J hJ
    refine T (call_by (q_Trim (trim a) (by omega)) ?_)
    refine TR ?_
    have e := List.eq_nil_of_length_eq_zero h0
    have va : val a = 0 := by rw [← trim_val a, e]; rfl
    have vb := val_nonneg hb
    rw [trim_trim, e, show val a - val b = 0 by omega, N_zero]
  · refine T (call_o rfl (o_Trim a (by omega) h0) rfl ?_)
    refine T (call_by (q_Trim b (by omega)) ?_)
    have la' := trim_len a
    generalize trim a = x at *
    generalize trim b = y at *
    have hx := ix.wf
    have hy := iy.wf
    refine T ?_
    refine w_loop (α := Nat × Int × List Int) (fun p => [(.t 5, .hs 11 1 0 x.length 1), (.t 6, U y), (.t 7, .sc (.int .i64 p.2.1)), (.t 8, .sc (.int .i64 p.1)), (.h 11, .blk 1 2 (p.2.2.map u32))])
      (fun p => p.1 ≤ x.length ∧ p.2.2.length = x.length ∧ Wf p.2.2 ∧ 0 ≤ p.2.1 ∧ p.2.1 < 2 ∧ p.2.2.drop p.1 = x.drop p.1 ∧ val (p.2.2.take p.1) + val (y.take p.1) = val (x.take p.1) + 4294967296 ^ p.1 * p.2.1)
      (fun p => x.length - p.1) (0, 0, x) ⟨Nat.zero_le _, rfl, hx, Int.le_refl 0, (by decide : (0 : Int) < 2), rfl, by simp [val]⟩ ?_ ?_
    · exact Hv
    rintro ⟨i, c, o⟩ r ⟨h1, h2, h3, h4, h5, h7, h6⟩ J hJ
    simp only at h1 h2 h3 h4 h5 h6 h7
    have H6 := Hd.mk h6
    clear h6
    by_cases hi : i < x.length
    · have hai := hx.at i
      have hq : o.getD i 0 = x.getD i 0 := by
        have := congrArg (fun l => l.getD 0 0) h7
        simpa [List.getD_eq_getElem?_getD, List.getElem?_drop] using this
      have fin : ∀ z s c2 : Int, val (y.take (i + 1)) = val (y.take i) + 4294967296 ^ i * z → s + z + c = x.getD i 0 + 4294967296 * c2 → 0 ≤ s → s < 4294967296 → 0 ≤ c2 → c2 < 2 → ∀ s', Has [(.t 5, .hs 11 1 0 x.length 1), (.t 6, U y), (.t 7, .sc (.int .i64 c2)), (.t 8, .sc (.int .i64 ((i : Int) + 1))), (.h 11, .blk 1 2 ((o.set i s).map u32))] s' → J s' := by
        intro z s c2 hz e s0 s1 b0 b1 s' hs
        refine hJ s' (i + 1, c2, o.set i s) (by show _ - (i + 1) < _ - i; omega) ⟨hi, by simp [h2], Wf.set h3 _ s0 s1, b0, b1, ?_, ?_⟩ hs
        · show (o.set i s).drop (i + 1) = x.drop (i + 1)
          rw [drop_set_lt (by omega), ← List.drop_drop, h7, List.drop_drop]
        · show val ((o.set i s).take (i + 1)) + val (y.take (i + 1)) = val (x.take (i + 1)) + 4294967296 ^ (i + 1) * c2
          rw [val_take_at x, hz, val_take_set (by omega), pow_snoc]
          exact sub_step H6.out e
      rw [← hq] at fin hai
      by_cases hyi : i < y.length
      · have hyi' := hy.at i
        have hz := val_take_at y i
        by_cases hneg : o.getD i 0 - c - y.getD i 0 < 0
        · refine T ?_
          refine fin (y.getD i 0) (o.getD i 0 - c - y.getD i 0 + 4294967296) 1 hz (by omega) (by omega) (by omega) (by omega) (by omega) _ ?_
          exact Hv
        · refine T ?_
          refine fin (y.getD i 0) (o.getD i 0 - c - y.getD i 0) 0 hz (by omega) (by omega) (by omega) (by omega) (by omega) _ ?_
          exact Hv
      · have hz : val (y.take (i + 1)) = val (y.take i) + 4294967296 ^ i * 0 := by rw [val_take_at, getD_big (by omega)]
        by_cases hneg : o.getD i 0 - c < 0
        · refine T ?_
          refine fin 0 (o.getD i 0 - c + 4294967296) 1 hz (by omega) (by omega) (by omega) (by omega) (by omega) _ ?_
          exact Hv
        · refine T ?_
          refine fin 0 (o.getD i 0 - c) 0 hz (by omega) (by omega) (by omega) (by omega) (by omega) _ ?_
          exact Hv
    · have hi' : i = x.length := by omega
      subst hi'
      have h6 := H6.out
      rw [List.take_length, List.take_of_length_le (by omega), List.take_of_length_le hlen, ix.val, iy.val] at h6
      have hc0 : c = 0 := by
        have l1 := val_lt h3
        rw [h2] at l1
        rcases Int.lt_or_le c 1 with h | h
        · omega
        · have e : c = 1 := by omega
          rw [e] at h6
          omega
      rw [hc0] at h6
      refine T ?_
      refine call_eq (by rw [← h2]) (q_Trim o (by omega)) ?_
      refine TR ?_
      rw [trim_N h3, show val o = val a - val b by omega]
end Go.Ab
end
