import Derived.Test.YtiamjfckgmnijaaGreatDoorFnH
set_option linter.all false
section
namespace Go.Ab
open Go Go.Proofs Go.Proofs.YtiamjfckgmnijaaGreatDoor.Pl
set_option maxRecDepth 100000
set_option maxHeartbeats 4000000
theorem len_u32 (l : List Int) : (l.map u32).length = l.length := List.length_map ..
theorem h_cut (l : List Int) (hl : l.length ≤ 4611686018427387904) : SpecH Tryz.prog 59 [.hs 1000000 1 0 l.length 1] (l.map u32) (.hs 1000000 1 0 (trim l).length 1) 1 (l.map u32) := by
  refine specH_of_awp mixed Tryz.func59 rfl Tryz.call59 (by kernel_rfl) (by simp) (by rfl) (by decide) (fun _ => rfl) ?_
  refine T (w_loop (α := Nat) (fun n => [(.t 0, .hs 1000000 1 0 l.length 1), (.t 3, .sc (.int .i64 n)), (.h 1000000, .blk 1 2 (l.map u32))]) (fun n => n ≤ l.length ∧ trim (l.take n) = trim l) id l.length ⟨Nat.le_refl _, by simp⟩ ?_ ?_)
  · exact Hv
  rintro n r ⟨hn, et⟩ J hJ
  rcases n with _ | n
  · have e : trim l = [] := by rw [← et]; rfl
    rw [e]
    refine TH ?_
    exact Wk.refl _
  · by_cases h0 : l.getD n 0 = 0
    · refine T ?_
      exact hJ _ n (Nat.lt_succ_self _) ⟨by omega, by rw [← et, trim_take_zero hn h0]⟩ Hv
    · rw [trim_take_ne hn h0] at et
      have e : (trim l).length = n + 1 := by rw [← et, List.length_take]; omega
      rw [e]
      refine TH ?_
      exact Wk.refl _
theorem g_Trim (l : List Int) (hl : l.length ≤ 35184372088832) (h : trim l ≠ []) : SpecG Tryz.prog 60 [U l] [] (.hs 1000000 1 0 (trim l).length 1) [(1, (trim l).map u32)] := by
  refine specG_of_awp mixed Tryz.func60 rfl Tryz.call60 (by kernel_rfl) (by simp) rfl rfl (by simp) ?_
  refine T (w_loop (α := Nat) (fun n => [(.t 0, U l), (.t 3, .sc (.int .i64 n)), (.h 21, .blk 0 0 [])]) (fun n => n ≤ l.length ∧ trim (l.take n) = trim l) id l.length ⟨Nat.le_refl _, by simp⟩ ?_ ?_)
  · exact Hv
  rintro n r ⟨hn, et⟩ J hJ
  rcases n with _ | n
  · exact absurd (by rw [← et]; rfl) h
  · by_cases h0 : l.getD n 0 = 0
    · refine T ?_
      exact hJ _ n (Nat.lt_succ_self _) ⟨by omega, by rw [← et, trim_take_zero hn h0]⟩ Hv
    · refine T (r_retG [(21, 1)] (by simp) ?_ ?_)
      · trivial
      rw [Tryz.results60]
      refine RG ?_
      rw [trim_take_ne hn h0] at et
      have e : (trim l).length = n + 1 := by rw [← et, List.length_take]; omega
      exact ⟨by omega, by rw [e]; exact Wk.refl _, by rw [← et, List.length_take, Nat.min_eq_left hn, Nat.min_self]⟩
theorem all_u32f (l : List Int) : (l.map u32).all AV.fz = true := by simp [AV.fz, oneV]
theorem frz_row {h : Nat → AV} {k g st n : Nat} (l e : List Int) (hh : h k = .blk g st ((l ++ e).map u32)) (hs : st ≠ 0) (hn : n = l.length) : frz h (.hs k g 0 n 1) = some (U l, [k]) := by
  subst hn
  have e1 : ((((l ++ e).map u32).drop 0).take (l.length * 1)) = l.map u32 := by
    rw [List.drop_zero, Nat.mul_one, ← List.map_take, List.take_left]
  simp only [frz, hh]
  rw [e1, if_pos ⟨trivial, hs, by simp, all_u32f l⟩]
theorem frzG_row {h : Nat → AV} {k g st n : Nat} (l e : List Int) (hh : h k = .blk g st ((l ++ e).map u32)) (hs : st ≠ 0) (hn : n = l.length) : frzG h [] (.hs k g 0 n 1) = some (U l, [k]) := by
  simp only [frzG, frz_row l e hh hs hn, frzE, List.contains_nil, Bool.false_eq_true, if_false]
theorem frzGL_sc {h : Nat → AV} {ts : List Nat} {v : Value} {xs ys : List AV} {ks : List Nat} (hx : frzGL h ts xs = some (ys, ks)) : frzGL h ts (.sc v :: xs) = some (.sc v :: ys, ks) := by
  simp [frzGL, frzG, hx]
theorem frzGL_row {h : Nat → AV} {k g st n : Nat} (l e : List Int) {xs ys : List AV} {ks : List Nat} (hh : h k = .blk g st ((l ++ e).map u32)) (hs : st ≠ 0) (hn : n = l.length) (hx : frzGL h [] xs = some (ys, ks)) : frzGL h [] (.hs k g 0 n 1 :: xs) = some (U l :: ys, k :: ks) := by
  simp [frzGL, frzG_row l e hh hs hn, hx]
theorem call_cut {P : Program} {B : Nat} {ops : Array Oper} {K : S → Prop} {rest : List Oper} {s : S} {d : Option Tmp} {x : Option (List AV × List Nat)} (o : List Int) (k g : Nat) {n : Nat} (hP : P = Tryz.prog) (hl : o.length ≤ 4611686018427387904) (hn : n = o.length) (h0 : hall s k = .blk g 2 (o.map u32))
    (hK : AOps0 P B ops K rest (put (upd s (.h k) (.blk g 2 (o.map u32))) d (.hs k g 0 (trim o).length 1))) : ACall P B ops K rest s d 59 [.hs k g 0 n 1] x := by
  subst hP
  have e1 : frzHL (hall s) k [.hs k g 0 n 1] = some ([.hs k g 0 n 1], []) := by simp [frzHL, frzH]
  have e2 : AV.keepL k g [.hs k g 0 n 1] = true := by simp [AV.keepL, AV.keep]
  refine call_h (as' := [.hs 1000000 1 0 o.length 1]) h0 (all_u32f _) e1 rfl e2 (by rw [hn]; rfl) (h_cut o hl) ?_
  exact hK
theorem SpecG.of_spec {P : Program} {f : FuncId} {xs : List AV} {r : AV} (h : Spec P f xs r) (hp : AV.pureL xs = true) (hr : r.kp (okL []) = true) : SpecG P f xs [] r [] := by
  refine ⟨h.enter, fun M w vs bs hM lb ap hbs hT hrep => ?_, hr, Nat.le_refl _, fun i O hO => by simp at hO⟩
  have e : bs = [] := List.eq_nil_of_length_eq_zero (by simpa using lb)
  subst e
  refine Calls.mono (h.calls M w vs hM (hT.weaken fun b hb => .inl hb) (RepL.ghost (fun b hb => .inl hb) xs vs hp hrep)) fun e w' he => ?_
  cases e with
  | panicked ch => exact he.elim
  | outgrown => exact he.elim
  | returned v =>
    obtain ⟨h1, h2⟩ := he
    refine ⟨[], rfl, fun i j b b' e => by simp at e, fun i b O e => by simp at e, Rep.ghost (fun b hb => ?_) _ _ h.pure h1, h2.weaken fun b _ hb => hb.elim⟩
    rcases hb with hb | ⟨p, hp, _⟩
    · exact hb
    · cases hp
def oX (k : Nat) (f : Bool) (v : List Int) : AV := if f then .hs k 1 0 v.length 1 else .sc (.slice none 0 0)
def oO (f : Bool) (v : List Int) : List (Nat × List AV) := if f then [(1, v.map u32)] else []
theorem n_Trim (l : List Int) (hl : l.length ≤ 35184372088832) (h : trim l = []) : Spec Tryz.prog 60 [U l] (.sc (.slice none 0 0)) := by
  refine spec_of_awp mixed Tryz.func60 rfl Tryz.call60 (by kernel_rfl) (by simp) rfl ?_
  refine T (w_loop (α := Nat) (fun n => [(.t 0, U l), (.t 3, .sc (.int .i64 n))]) (fun n => n ≤ l.length ∧ trim (l.take n) = trim l) id l.length ⟨Nat.le_refl _, by simp⟩ ?_ ?_)
  · exact Hv
  rintro n r ⟨hn, et⟩ J hJ
  rcases n with _ | n
  · refine T (r_ret ?_)
    rw [Tryz.results60]
    refine R ?_
    exact Wk.refl _
  · by_cases h0 : l.getD n 0 = 0
    · refine T ?_
      exact hJ _ n (Nat.lt_succ_self _) ⟨by omega, by rw [← et, trim_take_zero hn h0]⟩ Hv
    · rw [trim_take_ne hn h0, h] at et
      have := congrArg List.length et
      rw [List.length_take, List.length_nil] at this
      omega
end Go.Ab
end
