import Derived.Test.YtgffficaoioljaaRbH
set_option linter.all false
section
namespace Go.Ab
open Go Go.Proofs Go.Proofs.Ytgffficaoioljaa.Pl
set_option maxRecDepth 100000
set_option maxHeartbeats 4000000
theorem len_u32 (l : List Int) : (l.map u32).length = l.length := List.length_map ..
theorem h_cut (l : List Int) (hl : l.length ≤ 4611686018427387904) : SpecH Try.prog 108 [.hs 1000000 1 0 l.length 1] (l.map u32) (.hs 1000000 1 0 (trim l).length 1) 1 (l.map u32) := by
  refine specH_of_awp mixed Try.func108 rfl Try.call108 (by kernel_rfl) (by simp) (by rfl) (by decide) (fun _ => rfl) ?_
  refine T (w_loop (α := Nat) (fun n => [(.t 0, .hs 1000000 1 0 l.length 1), (.t 3, .sc (.int .i64 n)), (.h 1000000, .blk 1 2 (l.map u32))]) (fun n => n ≤ l.length ∧ trim (l.take n) = trim l) id l.length ⟨Nat.le_refl _, by simp⟩ ?_ ?_)
  · exact Hv
  rintro n r ⟨hn, et⟩ J hJ
  rcases n with _ | n
  · have e : trim l = [] := by rw [← et]; rfl
    rw [e]
    refine TH ?_
    exact Wk.refl _
  · by_cases h0 : l.getD n 0 = 0
    · refine T ?_
      exact hJ _ n (Nat.lt_succ_self _) ⟨by omega, by rw [← et, trim_take_zero hn h0]⟩ Hv
    · rw [trim_take_ne hn h0] at et
      have e : (trim l).length = n + 1 := by rw [← et, List.length_take]; omega
      rw [e]
      refine TH ?_
      exact Wk.refl _
theorem g_Trim (l : List Int) (hl : l.length ≤ 35184372088832) (h : trim l ≠ []) : SpecG Try.prog 90 [U l] [] (.hs 1000000 1 0 (trim l).length 1) [(1, (trim l).map u32)] := by
  refine specG_of_awp mixed Try.func90 rfl Try.call90 (by kernel_rfl) (by simp) rfl rfl (by simp) ?_
  refine T (w_loop (α := Nat) (fun n => [(.t 0, U l), (.t 3, .sc (.int .i64 n)), (.h 21, .blk 0 0 [])]) (fun n => n ≤ l.length ∧ trim (l.take n) = trim l) id l.length ⟨Nat.le_refl _, by simp⟩ ?_ ?_)
  · exact Hv
  rintro n r ⟨hn, et⟩ J hJ
  rcases n with _ | n
  · exact absurd (by rw [← et]; rfl) h
  · by_cases h0 : l.getD n 0 = 0
    · refine T ?_
      exact hJ _ n (Nat.lt_succ_self _) ⟨by omega, by rw [← et, trim_take_zero hn h0]⟩ Hv
    · refine T (r_retG [(21, 1)] (by simp) ?_ ?_)
      · trivial
      rw [Try.results90]
      refine RG ?_
      rw [trim_take_ne hn h0] at et
      have e : (trim l).length = n + 1 := by rw [← et, List.length_take]; omega
      exact ⟨by omega, by rw [e]; exact Wk.refl _, by rw [← et, List.length_take, Nat.min_eq_left hn, Nat.min_self]⟩
theorem all_u32f (l : List Int) : (l.map u32).all AV.fz = true := by simp [AV.fz, oneV]
theorem frz_row {h : Nat → AV} {k g st n : Nat} (l e : List Int) (hh : h k = .blk g st ((l ++ e).map u32)) (hs : st ≠ 0) (hn : n = l.length) : frz h (.hs k g 0 n 1) = some (U l, [k]) := by
  subst hn
  have e1 : ((((l ++ e).map u32).drop 0).take (l.length * 1)) = l.map u32 := by
    rw [List.drop_zero, Nat.mul_one, ← List.map_take, List.take_left]
  simp only [frz, hh]
  rw [e1, if_pos ⟨trivial, hs, by simp, all_u32f l⟩]
theorem frzG_row {h : Nat → AV} {k g st n : Nat} (l e : List Int) (hh : h k = .blk g st ((l ++ e).map u32)) (hs : st ≠ 0) (hn : n = l.length) : frzG h [] (.hs k g 0 n 1) = some (U l, [k]) := by
  simp only [frzG, frz_row l e hh hs hn, frzE, List.contains_nil, Bool.false_eq_true, if_false]
theorem frzGL_sc {h : Nat → AV} {ts : List Nat} {v : Value} {xs ys : List AV} {ks : List Nat} (hx : frzGL h ts xs = some (ys, ks)) : frzGL h ts (.sc v :: xs) = some (.sc v :: ys, ks) := by
  simp [frzGL, frzG, hx]
theorem frzGL_row {h : Nat → AV} {k g st n : Nat} (l e : List Int) {xs ys : List AV} {ks : List Nat} (hh : h k = .blk g st ((l ++ e).map u32)) (hs : st ≠ 0) (hn : n = l.length) (hx : frzGL h [] xs = some (ys, ks)) : frzGL h [] (.hs k g 0 n 1 :: xs) = some (U l :: ys, k :: ks) := by
  simp [frzGL, frzG_row l e hh hs hn, hx]
theorem call_cut {P : Program} {B : Nat} {ops : Array Oper} {K : S → Prop} {rest : List Oper} {s : S} {d : Option Tmp} {x : Option (List AV × List Nat)} (o : List Int) (k g : Nat) {n : Nat} (hP : P = Try.prog) (hl : o.length ≤ 4611686018427387904) (hn : n = o.length) (h0 : hall s k = .blk g 2 (o.map u32))
    (hK : AOps0 P B ops K rest (put (upd s (.h k) (.blk g 2 (o.map u32))) d (.hs k g 0 (trim o).length 1))) : ACall P B ops K rest s d 108 [.hs k g 0 n 1] x := by
  subst hP
  have e1 : frzHL (hall s) k [.hs k g 0 n 1] = some ([.hs k g 0 n 1], []) := by simp [frzHL, frzH]
  have e2 : AV.keepL k g [.hs k g 0 n 1] = true := by simp [AV.keepL, AV.keep]
  refine call_h (as' := [.hs 1000000 1 0 o.length 1]) h0 (all_u32f _) e1 rfl e2 (by rw [hn]; rfl) (h_cut o hl) ?_
  exact hK
theorem SpecG.of_spec {P : Program} {f : FuncId} {xs : List AV} {r : AV} (h : Spec P f xs r) (hp : AV.pureL xs = true) (hr : r.kp (okL []) = true) : SpecG P f xs [] r [] := by
  refine ⟨h.enter, fun M w vs bs hM lb ap hbs hrep => ?_, hr, Nat.le_refl _, fun i O hO => by simp at hO⟩
  have e : bs = [] := List.eq_nil_of_length_eq_zero (by simpa using lb)
  subst e
  refine Calls.mono (h.calls M w vs hM (RepL.ghost (fun b hb => .inl hb) xs vs hp hrep)) fun e w' he => ?_
  cases e with
  | panicked ch => exact he.elim
  | outgrown => exact he.elim
  | returned v =>
    obtain ⟨h1, h2⟩ := he
    refine ⟨[], rfl, fun i j b b' e => by simp at e, fun i b O e => by simp at e, Rep.ghost (fun b hb => ?_) _ _ h.pure h1, h2.weaken fun b _ hb => hb.elim⟩
    rcases hb with hb | ⟨p, hp, _⟩
    · exact hb
    · cases hp
def oX (k : Nat) (f : Bool) (v : List Int) : AV := if f then .hs k 1 0 v.length 1 else .sc (.slice none 0 0)
def oO (f : Bool) (v : List Int) : List (Nat × List AV) := if f then [(1, v.map u32)] else []
theorem n_Trim (l : List Int) (hl : l.length ≤ 35184372088832) (h : trim l = []) : Spec Try.prog 90 [U l] (.sc (.slice none 0 0)) := by
  refine spec_of_awp mixed Try.func90 rfl Try.call90 (by kernel_rfl) (by simp) rfl ?_
  refine T (w_loop (α := Nat) (fun n => [(.t 0, U l), (.t 3, .sc (.int .i64 n))]) (fun n => n ≤ l.length ∧ trim (l.take n) = trim l) id l.length ⟨Nat.le_refl _, by simp⟩ ?_ ?_)
  · exact Hv
  rintro n r ⟨hn, et⟩ J hJ
  rcases n with _ | n
  · refine T (r_ret ?_)
    rw [Try.results90]
    refine R ?_
    exact Wk.refl _
  · by_cases h0 : l.getD n 0 = 0
    · refine T ?_
      exact hJ _ n (Nat.lt_succ_self _) ⟨by omega, by rw [← et, trim_take_zero hn h0]⟩ Hv
    · rw [trim_take_ne hn h0, h] at et
      have := congrArg List.length et
      rw [List.length_take, List.length_nil] at this
      omega
end Go.Ab
end
section
namespace Go.Ab
open Go Go.Proofs Go.Proofs.Ytgffficaoioljaa.Pl
set_option maxRecDepth 100000
set_option maxHeartbeats 4000000
theorem g_own (l : List Int) (hl : l.length ≤ 35184372088832) : SpecG Try.prog 22 [U l] [] (.hs 1000000 1 0 l.length 1) [(1, l.map u32)] := by
  refine specG_of_awp mixed Try.func22 rfl Try.call22 (by kernel_rfl) (by simp) rfl rfl (by simp) ?_
  by_cases h : l.length = 0
  · obtain rfl : l = [] := List.eq_nil_of_length_eq_zero h
    refine T (r_retG [(3, 1)] (by simp) ?_ ?_)
    · trivial
    rw [Try.results22]
    refine RG ?_
    exact Wk.refl _
  · refine T ?_
    refine T (r_retG [(3, 2)] (by simp) ?_ ?_)
    · trivial
    rw [Try.results22]
    refine RG ?_
    exact ⟨Nat.le_refl _, Wk.refl _⟩
theorem h_fit0 (l : List Int) (hl : l.length ≤ 16) : SpecH Try.prog 80 [.hs 1000000 1 0 l.length 1] (l.map u32) (.tup [.hs 1000000 1 0 l.length 1, .sc (.int .i64 0)]) 1 (l.map u32) := by
  refine specH_of_awp mixed Try.func80 rfl Try.call80 (by kernel_rfl) (by simp) (by rfl) (by decide) (fun _ => rfl) ?_
  refine TH ?_
  exact Wk.refl _
theorem h_fit1 (l : List Int) (hl : 16 < l.length) (hl' : l.length ≤ 140000000000000) : SpecH Try.prog 80 [.hs 1000000 1 0 l.length 1] (l.map u32) (.tup [.sc (.slice none 0 0), .sc (.int .i64 4)]) 1 (l.map u32) := by
  refine specH_of_awp mixed Try.func80 rfl Try.call80 (by kernel_rfl) (by simp) (by rfl) (by decide) (fun _ => rfl) ?_
  refine TH ?_
  exact Wk.refl _
def fitV (l : List Int) : List Int × Int := if l.length ≤ 16 then (l, 0) else ([], 4)
theorem wk_nil (z : Int) : Wk (.tup [.sc (.slice none 0 0), .sc (.int .i64 z)]) (.tup [U [], .sc (.int .i64 z)]) :=
  Wk.tup (WkL.cons Wk.nil (WkL.refl _))
theorem s_fit (l : List Int) (hl : l.length ≤ 35184372088832) : Spec Try.prog 80 [U l] (.tup [U (fitV l).1, .sc (.int .i64 (fitV l).2)]) := by
  refine spec_of_awp mixed Try.func80 rfl Try.call80 (by kernel_rfl) (by simp) rfl ?_
  by_cases h : l.length ≤ 16
  · rw [fitV, if_pos h]
    exact TR rfl
  · rw [fitV, if_neg h]
    refine T (r_ret ?_)
    rw [Try.results80]
    refine R ?_
    exact wk_nil _
theorem n_fit : Spec Try.prog 80 [.sc (.slice none 0 0)] (.tup [.sc (.slice none 0 0), .sc (.int .i64 0)]) := by
  refine spec_of_awp mixed Try.func80 rfl Try.call80 (by kernel_rfl) (by simp) rfl ?_
  refine T (r_ret ?_)
  refine R ?_
  exact Wk.refl _
theorem s_Norm (l : List Int) (hl : l.length ≤ 35184372088832) : Spec Try.prog 38 [U l] (.tup [U (fitV (trim l)).1, .sc (.int .i64 (fitV (trim l)).2)]) := by
  refine spec_of_awp mixed Try.func38 rfl Try.call38 (by kernel_rfl) (by simp) rfl ?_
  have := trim_len l
  refine T (call_by (s_Trim l (by omega)) ?_)
  refine T (call_by (s_fit (trim l) (by omega)) ?_)
  exact TR rfl
def spO (n : Nat) (k : Nat) : List Int := List.replicate n 77 ++ List.replicate k 78
theorem spO_len (n k : Nat) : (spO n k).length = n + k := by simp [spO]
theorem spO_snoc (n k : Nat) : spO n k ++ [78] = spO n (k + 1) := by simp [spO, List.replicate_succ']
theorem spO_step {l : List Int} {i : Nat} (h : i < l.length) : (List.replicate i 77 ++ l.drop i).set i 77 = List.replicate (i + 1) 77 ++ l.drop (i + 1) := by
  rw [List.set_append_right _ _ (by simp), List.drop_eq_getElem_cons h, List.length_replicate, Nat.sub_self, List.set_cons_zero, List.replicate_succ', List.append_assoc]
  rfl
def spV (k : Nat) : Nat → AV
  | 0 => .sc (.slice none 0 0)
  | g + 1 => .hs k (g + 1) 0 (g + 1) 1
def spB : Nat → List Int → AV
  | 0, _ => .blk 0 0 []
  | g + 1, o => .blk (g + 1) 2 (o.map u32)
theorem h_spoil (l : List Int) (hl : l.length ≤ 1000000000) : SpecH Try.prog 43 [.hs 1000000 1 0 l.length 1] (l.map u32) (.tup []) 21 ((spO l.length 20).map u32) := by
  refine specH_of_awp mixed Try.func43 rfl Try.call43 (by kernel_rfl) (by simp) (by rfl) (by decide) (by simp) ?_
  refine T ?_
  refine w_loop (α := Nat) (fun i => [(.t 0, .hs 1000000 1 0 l.length 1), (.t 5, .sc (.int .i64 l.length)), (.t 6, .sc (.int .i64 i)), (.h 1000000, .blk 1 2 ((List.replicate i 77 ++ l.drop i).map u32))]) (fun i => i ≤ l.length) (fun i => l.length - i) 0 (Nat.zero_le _) ?_ ?_
  · refine H ?_
    exact rfl
  rintro i r h1 J hJ
  by_cases h : i < l.length
  · refine T ?_
    refine hJ _ (i + 1) (by omega) (by omega) ?_
    rw [spO_step h]
    exact Hv
  · have e : i = l.length := by omega
    subst e
    refine T ?_
    refine w_loop (α := Nat) (fun k => [(.t 0, .hs 1000000 (k + 1) 0 (spO l.length k).length 1), (.t 3, .sc (.int .i64 k)), (.h 1000000, .blk (k + 1) 2 ((spO l.length k).map u32))]) (fun k => k ≤ 20) (fun k => 20 - k) 0 (by omega) ?_ ?_
    · refine H ?_
      rw [spO_len]
      simp [spO]
    rintro k r h2 J2 hJ2
    have hL := spO_len l.length k
    by_cases h : k < 20
    · refine T ?_
      refine hJ2 _ (k + 1) (by omega) (by omega) ?_
      rw [spO_snoc]
      refine H ?_
      rw [spO_len, spO_len]
      rfl
    · have e : k = 20 := by omega
      subst e
      refine T ?_
      refine (r_retH ?_ : RetH _ _ _ _ _ .ret _)
      exact ⟨rfl, rfl, Wk.refl _, all_u32f _, rfl⟩
theorem n_spoil : Spec Try.prog 43 [.sc (.slice none 0 0)] (.tup []) := by
  refine spec_of_awp mixed Try.func43 rfl Try.call43 (by kernel_rfl) (by simp) rfl ?_
  refine T ?_
  refine w_loop (α := Nat) (fun i => [(.t 0, .sc (.slice none 0 0)), (.t 5, .sc (.int .i64 0)), (.t 6, .sc (.int .i64 i)), (.h 19, .blk 0 0 [])]) (fun i => i = 0) (fun i => 0) 0 rfl ?_ ?_
  · exact Hv
  rintro i r rfl J hJ
  refine T ?_
  refine w_loop (α := Nat) (fun k => [(.t 0, spV 19 k), (.t 3, .sc (.int .i64 k)), (.h 19, spB k (spO 0 k))]) (fun k => k ≤ 20) (fun k => 20 - k) 0 (by omega) ?_ ?_
  · dsimp only [spV, spB]
    exact Hv
  rintro k r h2 J2 hJ2
  by_cases h : k < 20
  · rcases k with _ | k
    · dsimp only [spV, spB]
      refine T ?_
      refine hJ2 _ 1 (by omega) (by omega) ?_
      dsimp only [spV, spB]
      refine H ?_
      exact ⟨rfl, rfl⟩
    · have hL := spO_len 0 (k + 1)
      dsimp only [spV, spB]
      refine T ?_
      refine hJ2 _ (k + 2) (by omega) (by omega) ?_
      rw [spO_snoc]
      dsimp only [spV, spB]
      exact Hv
  · have e : k = 20 := by omega
    subst e
    dsimp only [spV, spB]
    refine T ?_
    refine (r_ret ?_ : Ret _ _ _ .ret _)
    refine R ?_
    exact Wk.refl _
end Go.Ab
end
