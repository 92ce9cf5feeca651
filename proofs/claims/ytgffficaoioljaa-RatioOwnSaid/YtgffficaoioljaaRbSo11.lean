import Derived.Test.YtgffficaoioljaaRbSo10
import Derived.Test.YtgffficaoioljaaRbOa
set_option linter.all false
section
namespace Go.Ab
open Go Go.Proofs Go.Proofs.Ytgffficaoioljaa.Pl
set_option maxRecDepth 100000
set_option maxHeartbeats 8000000
def spR (x y : Int) (n k : Nat) : List Int := List.replicate n x ++ List.replicate k y
theorem spR_len (x y : Int) (n k : Nat) : (spR x y n k).length = n + k := by simp [spR]
theorem spR_snoc (x y : Int) (n k : Nat) : spR x y n k ++ [y] = spR x y n (k + 1) := by simp [spR, List.replicate_succ']
theorem spR_step {x : Int} {l : List Int} {i : Nat} (h : i < l.length) : (List.replicate i x ++ l.drop i).set i x = List.replicate (i + 1) x ++ l.drop (i + 1) := by
  rw [List.set_append_right _ _ (by simp), List.drop_eq_getElem_cons h, List.length_replicate, Nat.sub_self, List.set_cons_zero, List.replicate_succ', List.append_assoc]
  rfl
theorem spR_zero (x y : Int) (l : List Int) : List.replicate l.length x ++ l.drop l.length = spR x y l.length 0 := by simp [spR]
theorem rep_snoc (x : Int) (k : Nat) : List.replicate k x ++ [x] = List.replicate (k + 1) x := by rw [List.replicate_succ']
theorem g_spoil2 (b : Bool) (n d : List Int) (ln : n.length ≤ 16) (ld : d.length ≤ 16) : SpecG Try.prog 73 [.agg [.sc (.bool b), .hs 1000000 1 0 n.length 1, .hs 1000001 1 0 d.length 1]] [n.map u32, d.map u32] (.tup []) [(21, (spR 90 92 n.length 20).map u32), (21, (spR 91 93 d.length 20).map u32)] := by
  refine specG_of_awp mixed Try.func73 rfl Try.call73 (by kernel_rfl) (by simp) rfl rfl (by simp) ?_
  refine w_forget [(.t 0, .agg [.sc (.bool b), .hs 1000000 1 0 n.length 1, .hs 1000001 1 0 d.length 1]), (.h 1, .blk 0 0 []), (.h 1000000, .blk 1 2 (n.map u32)), (.h 1000001, .blk 1 2 (d.map u32))] (Hc2 rfl <| Hc2 rfl <| Hc2 rfl <| Hc2 rfl <| trivial) fun r => ?_
  refine T ?_
  refine w_loop (α := Nat) (fun i => [(.t 1, .hp 1 1 0), (.h 1, .blk 1 2 [.sc (.bool b), .hs 1000000 1 0 n.length 1, .hs 1000001 1 0 d.length 1]), (.t 8, .sc (.int .i64 n.length)), (.t 9, .sc (.int .i64 i)), (.h 1000000, .blk 1 2 ((List.replicate i 90 ++ n.drop i).map u32)), (.h 1000001, .blk 1 2 (d.map u32))]) (fun i => i ≤ n.length) (fun i => n.length - i) 0 (Nat.zero_le _) ?_ ?_
  · refine H ?_
    exact rfl
  rintro i r h1 J hJ
  by_cases h : i < n.length
  · refine T ?_
    refine hJ _ (i + 1) (by omega) (by omega) ?_
    rw [spR_step h]
    exact Hv
  have e : i = n.length := by omega
  subst e
  clear h hJ h1
  refine T ?_
  rw [spR_zero 90 92]
  refine w_loop (α := Nat) (fun i => [(.t 1, .hp 1 1 0), (.h 1, .blk 1 2 [.sc (.bool b), .hs 1000000 1 0 n.length 1, .hs 1000001 1 0 d.length 1]), (.t 19, .sc (.int .i64 d.length)), (.t 20, .sc (.int .i64 i)), (.h 1000000, .blk 1 2 ((spR 90 92 n.length 0).map u32)), (.h 1000001, .blk 1 2 ((List.replicate i 91 ++ d.drop i).map u32))]) (fun i => i ≤ d.length) (fun i => d.length - i) 0 (Nat.zero_le _) ?_ ?_
  · refine H ?_
    exact rfl
  rintro i r h1 J hJ
  by_cases h : i < d.length
  · refine T ?_
    refine hJ _ (i + 1) (by omega) (by omega) ?_
    rw [spR_step h]
    exact Hv
  have e : i = d.length := by omega
  subst e
  clear h hJ h1
  refine T ?_
  rw [spR_zero 91 93]
  refine w_loop (α := Nat) (fun k => [(.t 1, .hp 1 1 0), (.h 1, .blk 1 2 [.sc (.bool b), .hs 1000000 (k + 1) 0 (spR 90 92 n.length k).length 1, .hs 1000001 1 0 d.length 1]), (.t 4, .sc (.int .i64 k)), (.h 1000000, .blk (k + 1) 2 ((spR 90 92 n.length k).map u32)), (.h 1000001, .blk 1 2 ((spR 91 93 d.length 0).map u32))]) (fun k => k ≤ 20) (fun k => 20 - k) 0 (by omega) ?_ ?_
  · refine H ?_
    simp [spR]
  rintro k r h2 J2 hJ2
  have hL := spR_len 90 92 n.length k
  by_cases h : k < 20
  · refine T ?_
    refine hJ2 _ (k + 1) (by omega) (by omega) ?_
    rw [spR_snoc]
    refine H ?_
    rw [show (spR 90 92 n.length (k + 1)).length = (spR 90 92 n.length k).length + 1 by rw [spR_len, spR_len]; rfl]
  have e : k = 20 := by omega
  subst e
  clear h hJ2 h2
  refine T ?_
  refine w_loop (α := Nat) (fun k => [(.t 1, .hp 1 1 0), (.h 1, .blk 1 2 [.sc (.bool b), .hs 1000000 21 0 (spR 90 92 n.length 20).length 1, .hs 1000001 (k + 1) 0 (spR 91 93 d.length k).length 1]), (.t 5, .sc (.int .i64 k)), (.h 1000000, .blk 21 2 ((spR 90 92 n.length 20).map u32)), (.h 1000001, .blk (k + 1) 2 ((spR 91 93 d.length k).map u32))]) (fun k => k ≤ 20) (fun k => 20 - k) 0 (by omega) ?_ ?_
  · refine H ?_
    simp [spR]
  rintro k r h2 J2 hJ2
  have hL := spR_len 91 93 d.length k
  by_cases h : k < 20
  · refine T ?_
    refine hJ2 _ (k + 1) (by omega) (by omega) ?_
    rw [spR_snoc]
    refine H ?_
    rw [show (spR 91 93 d.length (k + 1)).length = (spR 91 93 d.length k).length + 1 by rw [spR_len, spR_len]; rfl]
  have e : k = 20 := by omega
  subst e
  clear h hJ2 h2
  refine T ?_
  refine (r_retG [(1000000, 21), (1000001, 21)] (by simp) ?_ ?_ : RetG _ _ _ _ _ .ret _)
  · exact ⟨rfl, nofun, rfl, nofun, trivial⟩
  rw [Try.results73]
  refine RG ?_
  exact Wk.refl _
theorem g_spoil1 (b : Bool) (d : List Int) (ld : d.length ≤ 16) : SpecG Try.prog 73 [.agg [.sc (.bool b), .sc (.slice none 0 0), .hs 1000000 1 0 d.length 1]] [d.map u32] (.tup []) [(21, (spR 91 93 d.length 20).map u32)] := by
  refine specG_of_awp mixed Try.func73 rfl Try.call73 (by kernel_rfl) (by simp) rfl rfl (by simp) ?_
  refine w_forget [(.t 0, .agg [.sc (.bool b), .sc (.slice none 0 0), .hs 1000000 1 0 d.length 1]), (.h 1, .blk 0 0 []), (.h 35, .blk 0 0 []), (.h 1000000, .blk 1 2 (d.map u32))] (Hc2 rfl <| Hc2 rfl <| Hc2 rfl <| Hc2 rfl <| trivial) fun r => ?_
  refine T ?_
  refine w_loop (α := Nat) (fun _ => [(.t 1, .hp 1 1 0), (.h 1, .blk 1 2 [.sc (.bool b), .sc (.slice none 0 0), .hs 1000000 1 0 d.length 1]), (.t 8, .sc (.int .i64 0)), (.t 9, .sc (.int .i64 0)), (.h 35, .blk 0 0 []), (.h 1000000, .blk 1 2 (d.map u32))]) (fun i => i = 0) (fun i => 0) 0 rfl ?_ ?_
  · exact Hv
  rintro i r rfl J hJ
  refine T ?_
  refine w_loop (α := Nat) (fun i => [(.t 1, .hp 1 1 0), (.h 1, .blk 1 2 [.sc (.bool b), .sc (.slice none 0 0), .hs 1000000 1 0 d.length 1]), (.t 19, .sc (.int .i64 d.length)), (.t 20, .sc (.int .i64 i)), (.h 35, .blk 0 0 []), (.h 1000000, .blk 1 2 ((List.replicate i 91 ++ d.drop i).map u32))]) (fun i => i ≤ d.length) (fun i => d.length - i) 0 (Nat.zero_le _) ?_ ?_
  · refine H ?_
    exact rfl
  rintro i r h1 J hJ
  by_cases h : i < d.length
  · refine T ?_
    refine hJ _ (i + 1) (by omega) (by omega) ?_
    rw [spR_step h]
    exact Hv
  have e : i = d.length := by omega
  subst e
  clear h hJ h1
  refine T ?_
  rw [spR_zero 91 93]
  refine w_loop (α := Nat) (fun k => [(.t 1, .hp 1 1 0), (.h 1, .blk 1 2 [.sc (.bool b), spV 35 k, .hs 1000000 1 0 d.length 1]), (.t 4, .sc (.int .i64 k)), (.h 35, spB k (List.replicate k 92)), (.h 1000000, .blk 1 2 ((spR 91 93 d.length 0).map u32))]) (fun k => k ≤ 20) (fun k => 20 - k) 0 (by omega) ?_ ?_
  · dsimp only [spV, spB]
    exact Hv
  rintro k r h2 J2 hJ2
  by_cases h : k < 20
  · rcases k with _ | k
    · dsimp only [spV, spB]
      refine T ?_
      refine hJ2 _ 1 (by omega) (by omega) ?_
      dsimp only [spV, spB]
      refine H ?_
      exact ⟨rfl, rfl⟩
    · have hL : (List.replicate (k + 1) (92 : Int)).length = k + 1 := List.length_replicate
      dsimp only [spV, spB]
      refine T ?_
      refine hJ2 _ (k + 2) (by omega) (by omega) ?_
      rw [rep_snoc]
      dsimp only [spV, spB]
      exact Hv
  have e : k = 20 := by omega
  subst e
  clear h hJ2 h2
  dsimp only [spV, spB]
  refine T ?_
  refine w_loop (α := Nat) (fun k => [(.t 1, .hp 1 1 0), (.h 1, .blk 1 2 [.sc (.bool b), .hs 35 20 0 20 1, .hs 1000000 (k + 1) 0 (spR 91 93 d.length k).length 1]), (.t 5, .sc (.int .i64 k)), (.h 1000000, .blk (k + 1) 2 ((spR 91 93 d.length k).map u32))]) (fun k => k ≤ 20) (fun k => 20 - k) 0 (by omega) ?_ ?_
  · refine H ?_
    simp [spR]
  rintro k r h2 J2 hJ2
  have hL := spR_len 91 93 d.length k
  by_cases h : k < 20
  · refine T ?_
    refine hJ2 _ (k + 1) (by omega) (by omega) ?_
    rw [spR_snoc]
    refine H ?_
    rw [show (spR 91 93 d.length (k + 1)).length = (spR 91 93 d.length k).length + 1 by rw [spR_len, spR_len]; rfl]
  have e : k = 20 := by omega
  subst e
  clear h hJ2 h2
  refine T ?_
  refine (r_retG [(1000000, 21)] (by simp) ?_ ?_ : RetG _ _ _ _ _ .ret _)
  · exact ⟨rfl, nofun, trivial⟩
  rw [Try.results73]
  refine RG ?_
  exact Wk.refl _
theorem n_spoil2 (b : Bool) : Spec Try.prog 73 [.agg [.sc (.bool b), .sc (.slice none 0 0), .sc (.slice none 0 0)]] (.tup []) := by
  refine spec_of_awp mixed Try.func73 rfl Try.call73 (by kernel_rfl) (by simp) rfl ?_
  refine w_forget [(.t 0, .agg [.sc (.bool b), .sc (.slice none 0 0), .sc (.slice none 0 0)]), (.h 1, .blk 0 0 []), (.h 35, .blk 0 0 []), (.h 44, .blk 0 0 [])] (Hc2 rfl <| Hc2 rfl <| Hc2 rfl <| Hc2 rfl <| trivial) fun r => ?_
  refine T ?_
  refine w_loop (α := Nat) (fun _ => [(.t 1, .hp 1 1 0), (.h 1, .blk 1 2 [.sc (.bool b), .sc (.slice none 0 0), .sc (.slice none 0 0)]), (.t 8, .sc (.int .i64 0)), (.t 9, .sc (.int .i64 0)), (.h 35, .blk 0 0 []), (.h 44, .blk 0 0 [])]) (fun i => i = 0) (fun i => 0) 0 rfl ?_ ?_
  · exact Hv
  rintro i r rfl J hJ
  refine T ?_
  refine w_loop (α := Nat) (fun _ => [(.t 1, .hp 1 1 0), (.h 1, .blk 1 2 [.sc (.bool b), .sc (.slice none 0 0), .sc (.slice none 0 0)]), (.t 19, .sc (.int .i64 0)), (.t 20, .sc (.int .i64 0)), (.h 35, .blk 0 0 []), (.h 44, .blk 0 0 [])]) (fun i => i = 0) (fun i => 0) 0 rfl ?_ ?_
  · exact Hv
  rintro i r rfl J hJ
  refine T ?_
  refine w_loop (α := Nat) (fun k => [(.t 1, .hp 1 1 0), (.h 1, .blk 1 2 [.sc (.bool b), spV 35 k, .sc (.slice none 0 0)]), (.t 4, .sc (.int .i64 k)), (.h 35, spB k (List.replicate k 92)), (.h 44, .blk 0 0 [])]) (fun k => k ≤ 20) (fun k => 20 - k) 0 (by omega) ?_ ?_
  · dsimp only [spV, spB]
    exact Hv
  rintro k r h2 J2 hJ2
  by_cases h : k < 20
  · rcases k with _ | k
    · dsimp only [spV, spB]
      refine T ?_
      refine hJ2 _ 1 (by omega) (by omega) ?_
      dsimp only [spV, spB]
      refine H ?_
      exact ⟨rfl, rfl⟩
    · have hL : (List.replicate (k + 1) (92 : Int)).length = k + 1 := List.length_replicate
      dsimp only [spV, spB]
      refine T ?_
      refine hJ2 _ (k + 2) (by omega) (by omega) ?_
      rw [rep_snoc]
      dsimp only [spV, spB]
      exact Hv
  have e : k = 20 := by omega
  subst e
  clear h hJ2 h2
  dsimp only [spV, spB]
  refine T ?_
  refine w_loop (α := Nat) (fun k => [(.t 1, .hp 1 1 0), (.h 1, .blk 1 2 [.sc (.bool b), .hs 35 20 0 20 1, spV 44 k]), (.t 5, .sc (.int .i64 k)), (.h 44, spB k (List.replicate k 93))]) (fun k => k ≤ 20) (fun k => 20 - k) 0 (by omega) ?_ ?_
  · dsimp only [spV, spB]
    exact Hv
  rintro k r h2 J2 hJ2
  by_cases h : k < 20
  · rcases k with _ | k
    · dsimp only [spV, spB]
      refine T ?_
      refine hJ2 _ 1 (by omega) (by omega) ?_
      dsimp only [spV, spB]
      refine H ?_
      exact ⟨rfl, rfl⟩
    · have hL : (List.replicate (k + 1) (93 : Int)).length = k + 1 := List.length_replicate
      dsimp only [spV, spB]
      refine T ?_
      refine hJ2 _ (k + 2) (by omega) (by omega) ?_
      rw [rep_snoc]
      dsimp only [spV, spB]
      exact Hv
  have e : k = 20 := by omega
  subst e
  clear h hJ2 h2
  dsimp only [spV, spB]
  refine T ?_
  refine (r_ret ?_ : Ret _ _ _ .ret _)
  rw [Try.results73]
  refine R ?_
  exact Wk.refl _
end Go.Ab
end
