import Derived.Test.YtgffficaoioljaaRbSoD
import Derived.Test.YtgffficaoioljaaRbAbTs
set_option linter.all false
section
namespace Go.Ab
open Go Go.Proofs Go.Proofs.Ytgffficaoioljaa.Pl
set_option maxRecDepth 100000
set_option maxHeartbeats 16000000
theorem c_forget2 {P : Program} {B : Nat} {ops : Array Oper} {K : S → Prop} {rest : List Oper} {s : S} {d : Option Tmp} {f : FuncId} {raw : List AV} {x : Option (List AV × List Nat)} (l : List (Loc × AV)) (h : Has l s) (hK : ∀ r, ACall P B ops K rest (kn l r) d f raw x) : ACall P B ops K rest s d f raw x := by
  have := hK s
  rwa [kn_self h] at this
theorem call_by0' {P : Program} {B : Nat} {ops : Array Oper} {K : S → Prop} {rest : List Oper} {s : S} {d : Option Tmp} {f : FuncId} {raw ws : List AV} {v : AV} (h : Spec P f ws v) (hK : AOps0 P B ops K rest (put s d v)) : ACall P B ops K rest s d f raw (some (ws, [])) :=
  call_by h hK
def RLT (p : RT) : Prop := p.2.1.length ≤ 35184372087808 ∧ p.2.2.length ≤ 35184372087808
theorem mul_one_err {p : RT} (hp : RW p) (h : formR p = true) : (mulR r1 p).2 = 0 := by
  obtain ⟨a1, a2, a3, a4, a5, a6, a7⟩ := form_len h
  have v0 := val_nonneg hp.wd
  have u0 := val_nonneg hp.wn
  have vn := val_ne hp.wd a5 a3
  show (mkR (false != p.1) (val [1] * val p.2.1) (val [1] * val p.2.2)).2 = 0
  rw [val_one, Int.one_mul, Int.one_mul, mkR, if_neg vn]
  by_cases hu : val p.2.1 = 0
  · rw [if_pos hu]
  · rw [if_neg hu, a7]
    have e1 : N (val p.2.1) = p.2.1 := by rw [← trim_N hp.wn]; exact a4
    have e2 : N (val p.2.2) = p.2.2 := by rw [← trim_N hp.wd]; exact a5
    rw [show ((1 : Nat) : Int) = 1 from rfl, Int.ediv_one, Int.ediv_one, e1, e2, if_pos ⟨a1, a2⟩]
theorem prod_one (p : RT) (hp : RW p) : (foldL true r1 [p]).2 = (if formR p = true then 0 else 20) ∧ (foldL true r1 [p]).1.2.1.length ≤ 16 ∧ (foldL true r1 [p]).1.2.2.length ≤ 16 := by
  have ml := mulR_len r1 p
  by_cases h : formR p = true
  · have e := mul_one_err hp h
    have : foldL true r1 [p] = ((mulR r1 p).1, 0) := by
      rw [foldL, if_pos (by simp [h]), foldR]
      show (if (mulR r1 p).2 = 0 then _ else _) = _
      rw [if_pos e]
      rfl
    rw [this, if_pos h]
    exact ⟨rfl, ml⟩
  · have : foldL true r1 [p] = ((false, [], []), 20) := by rw [foldL, if_neg (by simp [h])]
    rw [this, if_neg h]
    exact ⟨rfl, by decide, by decide⟩
theorem l_RatioOwn (p q : RT) (hp : RW p) (hq : RW q) (lp : RLT p) (lq : RLT q) : Spec Try.prog 17 [RA p.1 p.2.1 p.2.2, RA q.1 q.2.1 q.2.2] (.sc (.bool true)) := by
  have gA := g_rAdd p q hp hq
  have gN := g_rNeg p hp
  have gP := g_Prod p hp
  have wA := q2_Add p q hp hq
  have lA := ifF_len p q _ (addR_len p q)
  have lN := negR_len p hp.wn hp.wd
  obtain ⟨eP, lP⟩ := prod_one p hp
  have eN : (negR p).2 = if formR p = true then 0 else 20 := by
    rw [negR]
    split <;> rfl
  generalize ifF p q (addR p q) = A at *
  generalize negR p = M at *
  generalize foldL true r1 [p] = T1 at *
  have lp1 := lp.1
  have lp2 := lp.2
  have lq1 := lq.1
  have lq2 := lq.2
  have kp := g_kept p.1 p.2.1 p.2.2 (by omega) (by omega)
  have kq := g_kept q.1 q.2.1 q.2.2 (by omega) (by omega)
  have fF := s_Form p.1 p.2.1 p.2.2 hp.wn hp.wd hp.ln hp.ld
  rw [show formB p.1 p.2.1 p.2.2 = formR p from rfl] at fF
  have ow := q2_own p ⟨by omega, by omega⟩
  refine spec_of_awp mixed Try.func17 rfl Try.call17 (by kernel_rfl) (by simp) rfl ?_
  refine T (call_by wakes2 ?_)
  refine TS ?_
  refine w_cut (α := Unit) (fun _ => [(.t 2, .hp 2 1 0), (.h 2, rb p), (.t 3, .hp 3 1 0), (.h 3, rb q), (.t 5, .hp 5 1 0), (.h 5, .blk 1 2 [.sc (.bool p.1), .hs 20 1 0 p.2.1.length 1, .hs 3000020 1 0 p.2.2.length 1]), (.t 6, .hp 6 1 0), (.h 6, .blk 1 2 [.sc (.bool q.1), .hs 22 1 0 q.2.1.length 1, .hs 3000022 1 0 q.2.2.length 1]), (.h 20, .blk 1 2 ((p.2.1 ++ [51, 52]).map u32)), (.h 3000020, .blk 1 2 ((p.2.2 ++ [53, 54]).map u32)), (.h 22, .blk 1 2 ((q.2.1 ++ [51, 52]).map u32)), (.h 3000022, .blk 1 2 ((q.2.2 ++ [53, 54]).map u32)), (.h 7, .blk 0 0 []), (.h 9, .blk 0 0 []), (.h 11, .blk 0 0 []), (.h 13, .blk 0 0 []), (.h 15, .blk 0 0 []), (.h 26, .blk 0 0 []), (.h 3000026, .blk 0 0 []), (.h 32, .blk 0 0 []), (.h 3000032, .blk 0 0 []), (.h 37, .blk 0 0 []), (.h 3000037, .blk 0 0 []), (.h 42, .blk 0 0 []), (.h 43, .blk 0 0 []), (.h 3000043, .blk 0 0 [])]) (fun _ => True) ?_ ?_
  · intro J hJ
    refine T ?_
    refine dcall_g [] false (g_roomy p.1 p.2.1 p.2.2 (by omega) (by omega)) trivial rfl (by simp) (by simp [pOf]) rfl rfl rfl nofun ?_
    refine T ?_
    refine dcall_g [] false (g_roomy q.1 q.2.1 q.2.2 (by omega) (by omega)) trivial rfl (by simp) (by simp [pOf]) rfl rfl rfl nofun ?_
    refine T ?_
    exact hJ _ () trivial (Hc2 rfl <| Hc2 rfl <| Hc2 rfl <| Hc2 rfl <| Hc2 rfl <| Hc2 rfl <| Hc2 rfl <| Hc2 rfl <| Hc2 rfl <| Hc2 rfl <| Hc2 rfl <| Hc2 rfl <| Hc2 rfl <| Hc2 rfl <| Hc2 rfl <| Hc2 rfl <| Hc2 rfl <| Hc2 rfl <| Hc2 rfl <| Hc2 rfl <| Hc2 rfl <| Hc2 rfl <| Hc2 rfl <| Hc2 rfl <| Hc2 rfl <| Hc2 rfl <| trivial)
  rintro ⟨⟩ r _
  refine w_cut (α := Bool × Bool) (fun z => [(.t 2, .hp 2 1 0), (.h 2, rb p), (.t 3, .hp 3 1 0), (.h 3, rb q), (.t 5, .hp 5 1 0), (.h 5, .blk 1 2 [.sc (.bool p.1), .hs 20 1 0 p.2.1.length 1, .hs 3000020 1 0 p.2.2.length 1]), (.t 6, .hp 6 1 0), (.h 6, .blk 1 2 [.sc (.bool q.1), .hs 22 1 0 q.2.1.length 1, .hs 3000022 1 0 q.2.2.length 1]), (.h 20, .blk 1 2 ((p.2.1 ++ [51, 52]).map u32)), (.h 3000020, .blk 1 2 ((p.2.2 ++ [53, 54]).map u32)), (.h 22, .blk 1 2 ((q.2.1 ++ [51, 52]).map u32)), (.h 3000022, .blk 1 2 ((q.2.2 ++ [53, 54]).map u32)), (.h 7, .blk 1 2 [.sc (.bool A.1.1), oX 26 z.1 A.1.2.1, oX 3000026 z.2 A.1.2.2]), (.h 9, .blk 0 0 []), (.h 11, .blk 0 0 []), (.h 13, .blk 0 0 []), (.h 15, .blk 0 0 []), (.h 26, oS z.1 A.1.2.1), (.h 3000026, oS z.2 A.1.2.2), (.h 32, .blk 0 0 []), (.h 3000032, .blk 0 0 []), (.h 37, .blk 0 0 []), (.h 3000037, .blk 0 0 []), (.h 42, .blk 0 0 []), (.h 43, .blk 0 0 []), (.h 3000043, .blk 0 0 []), (.t 7, .hp 7 1 0), (.t 8, .sc (.int .i64 A.2))]) (fun z => (z.1 = false → A.1.2.1 = []) ∧ (z.2 = false → A.1.2.2 = []) ∧ (z.1 = true → z.2 = true)) ?_ ?_
  · intro J hJ
    refine T ?_
    refine call_limr 26 3000026 rfl rfl rfl gA (frzGL_RA (st1 := 2) (st2 := 2) p.2.1 [51, 52] p.2.2 [53, 54] Hv (by decide) rfl Hv (by decide) rfl (frzGL_RA (st1 := 2) (st2 := 2) q.2.1 [51, 52] q.2.2 [53, 54] Hv (by decide) rfl Hv (by decide) rfl rfl)) rfl rfl rfl Hv Hv ?_
    intro f g hf hg hfg
    cases f with
    | false =>
      cases g with
      | false =>
        simp only [oX, oS, Bool.false_eq_true, if_false, if_true]
        refine T ?_
        exact hJ _ (false, false) ⟨hf, hg, hfg⟩ (Hc2 rfl <| Hc2 rfl <| Hc2 rfl <| Hc2 rfl <| Hc2 rfl <| Hc2 rfl <| Hc2 rfl <| Hc2 rfl <| Hc2 rfl <| Hc2 rfl <| Hc2 rfl <| Hc2 rfl <| Hc2 rfl <| Hc2 rfl <| Hc2 rfl <| Hc2 rfl <| Hc2 rfl <| Hc2 rfl <| Hc2 rfl <| Hc2 rfl <| Hc2 rfl <| Hc2 rfl <| Hc2 rfl <| Hc2 rfl <| Hc2 rfl <| Hc2 rfl <| Hc2 rfl <| Hc2 rfl <| trivial)
      | true =>
        simp only [oX, oS, Bool.false_eq_true, if_false, if_true]
        refine T ?_
        exact hJ _ (false, true) ⟨hf, hg, hfg⟩ (Hc2 rfl <| Hc2 rfl <| Hc2 rfl <| Hc2 rfl <| Hc2 rfl <| Hc2 rfl <| Hc2 rfl <| Hc2 rfl <| Hc2 rfl <| Hc2 rfl <| Hc2 rfl <| Hc2 rfl <| Hc2 rfl <| Hc2 rfl <| Hc2 rfl <| Hc2 rfl <| Hc2 rfl <| Hc2 rfl <| Hc2 rfl <| Hc2 rfl <| Hc2 rfl <| Hc2 rfl <| Hc2 rfl <| Hc2 rfl <| Hc2 rfl <| Hc2 rfl <| Hc2 rfl <| Hc2 rfl <| trivial)
    | true =>
      obtain rfl : g = true := hfg rfl
      simp only [oX, oS, Bool.false_eq_true, if_false, if_true]
      refine T ?_
      exact hJ _ (true, true) ⟨hf, hg, hfg⟩ (Hc2 rfl <| Hc2 rfl <| Hc2 rfl <| Hc2 rfl <| Hc2 rfl <| Hc2 rfl <| Hc2 rfl <| Hc2 rfl <| Hc2 rfl <| Hc2 rfl <| Hc2 rfl <| Hc2 rfl <| Hc2 rfl <| Hc2 rfl <| Hc2 rfl <| Hc2 rfl <| Hc2 rfl <| Hc2 rfl <| Hc2 rfl <| Hc2 rfl <| Hc2 rfl <| Hc2 rfl <| Hc2 rfl <| Hc2 rfl <| Hc2 rfl <| Hc2 rfl <| Hc2 rfl <| Hc2 rfl <| trivial)
  rintro ⟨f1, g1⟩ r ⟨hf1, hg1, hf1g1⟩
  simp only at hf1 hg1 hf1g1
  refine w_cut (α := Bool × Bool) (fun z => [(.t 2, .hp 2 1 0), (.h 2, rb p), (.t 3, .hp 3 1 0), (.h 3, rb q), (.t 5, .hp 5 1 0), (.h 5, .blk 1 2 [.sc (.bool p.1), .hs 20 1 0 p.2.1.length 1, .hs 3000020 1 0 p.2.2.length 1]), (.t 6, .hp 6 1 0), (.h 6, .blk 1 2 [.sc (.bool q.1), .hs 22 1 0 q.2.1.length 1, .hs 3000022 1 0 q.2.2.length 1]), (.h 20, .blk 1 2 ((p.2.1 ++ [51, 52]).map u32)), (.h 3000020, .blk 1 2 ((p.2.2 ++ [53, 54]).map u32)), (.h 22, .blk 1 2 ((q.2.1 ++ [51, 52]).map u32)), (.h 3000022, .blk 1 2 ((q.2.2 ++ [53, 54]).map u32)), (.h 7, .blk 1 2 [.sc (.bool A.1.1), oX 26 f1 A.1.2.1, oX 3000026 g1 A.1.2.2]), (.h 9, .blk 1 2 [.sc (.bool A.1.1), oX 32 z.1 A.1.2.1, oX 3000032 z.2 A.1.2.2]), (.h 11, .blk 0 0 []), (.h 13, .blk 0 0 []), (.h 15, .blk 0 0 []), (.h 26, oS f1 A.1.2.1), (.h 3000026, oS g1 A.1.2.2), (.h 32, oS z.1 A.1.2.1), (.h 3000032, oS z.2 A.1.2.2), (.h 37, .blk 0 0 []), (.h 3000037, .blk 0 0 []), (.h 42, .blk 0 0 []), (.h 43, .blk 0 0 []), (.h 3000043, .blk 0 0 []), (.t 7, .hp 7 1 0), (.t 8, .sc (.int .i64 A.2)), (.t 9, .hp 9 1 0), (.t 10, .sc (.int .i64 A.2))]) (fun z => (z.1 = false → A.1.2.1 = []) ∧ (z.2 = false → A.1.2.2 = []) ∧ (z.1 = true → z.2 = true)) ?_ ?_
  · intro J hJ
    refine T ?_
    refine call_limr 32 3000032 rfl rfl rfl gA (frzGL_RA (st1 := 2) (st2 := 2) p.2.1 [51, 52] p.2.2 [53, 54] Hv (by decide) rfl Hv (by decide) rfl (frzGL_RA (st1 := 2) (st2 := 2) q.2.1 [51, 52] q.2.2 [53, 54] Hv (by decide) rfl Hv (by decide) rfl rfl)) rfl rfl rfl Hv Hv ?_
    intro f g hf hg hfg
    cases f with
    | false =>
      cases g with
      | false =>
        simp only [oX, oS, Bool.false_eq_true, if_false, if_true]
        refine T ?_
        exact hJ _ (false, false) ⟨hf, hg, hfg⟩ (Hc2 rfl <| Hc2 rfl <| Hc2 rfl <| Hc2 rfl <| Hc2 rfl <| Hc2 rfl <| Hc2 rfl <| Hc2 rfl <| Hc2 rfl <| Hc2 rfl <| Hc2 rfl <| Hc2 rfl <| Hc2 rfl <| Hc2 rfl <| Hc2 rfl <| Hc2 rfl <| Hc2 rfl <| Hc2 rfl <| Hc2 rfl <| Hc2 rfl <| Hc2 rfl <| Hc2 rfl <| Hc2 rfl <| Hc2 rfl <| Hc2 rfl <| Hc2 rfl <| Hc2 rfl <| Hc2 rfl <| Hc2 rfl <| Hc2 rfl <| trivial)
      | true =>
        simp only [oX, oS, Bool.false_eq_true, if_false, if_true]
        refine T ?_
        exact hJ _ (false, true) ⟨hf, hg, hfg⟩ (Hc2 rfl <| Hc2 rfl <| Hc2 rfl <| Hc2 rfl <| Hc2 rfl <| Hc2 rfl <| Hc2 rfl <| Hc2 rfl <| Hc2 rfl <| Hc2 rfl <| Hc2 rfl <| Hc2 rfl <| Hc2 rfl <| Hc2 rfl <| Hc2 rfl <| Hc2 rfl <| Hc2 rfl <| Hc2 rfl <| Hc2 rfl <| Hc2 rfl <| Hc2 rfl <| Hc2 rfl <| Hc2 rfl <| Hc2 rfl <| Hc2 rfl <| Hc2 rfl <| Hc2 rfl <| Hc2 rfl <| Hc2 rfl <| Hc2 rfl <| trivial)
    | true =>
      obtain rfl : g = true := hfg rfl
      simp only [oX, oS, Bool.false_eq_true, if_false, if_true]
      refine T ?_
      exact hJ _ (true, true) ⟨hf, hg, hfg⟩ (Hc2 rfl <| Hc2 rfl <| Hc2 rfl <| Hc2 rfl <| Hc2 rfl <| Hc2 rfl <| Hc2 rfl <| Hc2 rfl <| Hc2 rfl <| Hc2 rfl <| Hc2 rfl <| Hc2 rfl <| Hc2 rfl <| Hc2 rfl <| Hc2 rfl <| Hc2 rfl <| Hc2 rfl <| Hc2 rfl <| Hc2 rfl <| Hc2 rfl <| Hc2 rfl <| Hc2 rfl <| Hc2 rfl <| Hc2 rfl <| Hc2 rfl <| Hc2 rfl <| Hc2 rfl <| Hc2 rfl <| Hc2 rfl <| Hc2 rfl <| trivial)
  rintro ⟨f2, g2⟩ r ⟨hf2, hg2, hf2g2⟩
  simp only at hf2 hg2 hf2g2
  refine w_cut (α := Bool × Bool) (fun z => [(.t 2, .hp 2 1 0), (.h 2, rb p), (.t 3, .hp 3 1 0), (.h 3, rb q), (.t 5, .hp 5 1 0), (.h 5, .blk 1 2 [.sc (.bool p.1), .hs 20 1 0 p.2.1.length 1, .hs 3000020 1 0 p.2.2.length 1]), (.t 6, .hp 6 1 0), (.h 6, .blk 1 2 [.sc (.bool q.1), .hs 22 1 0 q.2.1.length 1, .hs 3000022 1 0 q.2.2.length 1]), (.h 20, .blk 1 2 ((p.2.1 ++ [51, 52]).map u32)), (.h 3000020, .blk 1 2 ((p.2.2 ++ [53, 54]).map u32)), (.h 22, .blk 1 2 ((q.2.1 ++ [51, 52]).map u32)), (.h 3000022, .blk 1 2 ((q.2.2 ++ [53, 54]).map u32)), (.h 7, .blk 1 2 [.sc (.bool A.1.1), oX 26 f1 A.1.2.1, oX 3000026 g1 A.1.2.2]), (.h 9, .blk 1 2 [.sc (.bool A.1.1), oX 32 f2 A.1.2.1, oX 3000032 g2 A.1.2.2]), (.h 11, .blk 1 2 [.sc (.bool M.1.1), oX 37 z.1 M.1.2.1, oX 3000037 z.2 M.1.2.2]), (.h 13, .blk 0 0 []), (.h 15, .blk 0 0 []), (.h 26, oS f1 A.1.2.1), (.h 3000026, oS g1 A.1.2.2), (.h 32, oS f2 A.1.2.1), (.h 3000032, oS g2 A.1.2.2), (.h 37, oS z.1 M.1.2.1), (.h 3000037, oS z.2 M.1.2.2), (.h 42, .blk 0 0 []), (.h 43, .blk 0 0 []), (.h 3000043, .blk 0 0 []), (.t 7, .hp 7 1 0), (.t 8, .sc (.int .i64 A.2)), (.t 9, .hp 9 1 0), (.t 10, .sc (.int .i64 A.2)), (.t 11, .hp 11 1 0), (.t 12, .sc (.int .i64 M.2))]) (fun z => (z.1 = false → M.1.2.1 = []) ∧ (z.2 = false → M.1.2.2 = []) ∧ (z.1 = true → z.2 = true)) ?_ ?_
  · intro J hJ
    refine T ?_
    refine call_limr 37 3000037 rfl rfl rfl gN (frzGL_RA (st1 := 2) (st2 := 2) p.2.1 [51, 52] p.2.2 [53, 54] Hv (by decide) rfl Hv (by decide) rfl rfl) rfl rfl rfl Hv Hv ?_
    intro f g hf hg hfg
    cases f with
    | false =>
      cases g with
      | false =>
        simp only [oX, oS, Bool.false_eq_true, if_false, if_true]
        refine T ?_
        exact hJ _ (false, false) ⟨hf, hg, hfg⟩ (Hc2 rfl <| Hc2 rfl <| Hc2 rfl <| Hc2 rfl <| Hc2 rfl <| Hc2 rfl <| Hc2 rfl <| Hc2 rfl <| Hc2 rfl <| Hc2 rfl <| Hc2 rfl <| Hc2 rfl <| Hc2 rfl <| Hc2 rfl <| Hc2 rfl <| Hc2 rfl <| Hc2 rfl <| Hc2 rfl <| Hc2 rfl <| Hc2 rfl <| Hc2 rfl <| Hc2 rfl <| Hc2 rfl <| Hc2 rfl <| Hc2 rfl <| Hc2 rfl <| Hc2 rfl <| Hc2 rfl <| Hc2 rfl <| Hc2 rfl <| Hc2 rfl <| Hc2 rfl <| trivial)
      | true =>
        simp only [oX, oS, Bool.false_eq_true, if_false, if_true]
        refine T ?_
        exact hJ _ (false, true) ⟨hf, hg, hfg⟩ (Hc2 rfl <| Hc2 rfl <| Hc2 rfl <| Hc2 rfl <| Hc2 rfl <| Hc2 rfl <| Hc2 rfl <| Hc2 rfl <| Hc2 rfl <| Hc2 rfl <| Hc2 rfl <| Hc2 rfl <| Hc2 rfl <| Hc2 rfl <| Hc2 rfl <| Hc2 rfl <| Hc2 rfl <| Hc2 rfl <| Hc2 rfl <| Hc2 rfl <| Hc2 rfl <| Hc2 rfl <| Hc2 rfl <| Hc2 rfl <| Hc2 rfl <| Hc2 rfl <| Hc2 rfl <| Hc2 rfl <| Hc2 rfl <| Hc2 rfl <| Hc2 rfl <| Hc2 rfl <| trivial)
    | true =>
      obtain rfl : g = true := hfg rfl
      simp only [oX, oS, Bool.false_eq_true, if_false, if_true]
      refine T ?_
      exact hJ _ (true, true) ⟨hf, hg, hfg⟩ (Hc2 rfl <| Hc2 rfl <| Hc2 rfl <| Hc2 rfl <| Hc2 rfl <| Hc2 rfl <| Hc2 rfl <| Hc2 rfl <| Hc2 rfl <| Hc2 rfl <| Hc2 rfl <| Hc2 rfl <| Hc2 rfl <| Hc2 rfl <| Hc2 rfl <| Hc2 rfl <| Hc2 rfl <| Hc2 rfl <| Hc2 rfl <| Hc2 rfl <| Hc2 rfl <| Hc2 rfl <| Hc2 rfl <| Hc2 rfl <| Hc2 rfl <| Hc2 rfl <| Hc2 rfl <| Hc2 rfl <| Hc2 rfl <| Hc2 rfl <| Hc2 rfl <| Hc2 rfl <| trivial)
  rintro ⟨f3, g3⟩ r ⟨hf3, hg3, hf3g3⟩
  simp only at hf3 hg3 hf3g3
  refine w_cut (α := Bool × Bool) (fun z => [(.t 2, .hp 2 1 0), (.h 2, rb p), (.t 3, .hp 3 1 0), (.h 3, rb q), (.t 5, .hp 5 1 0), (.h 5, .blk 1 2 [.sc (.bool p.1), .hs 20 1 0 p.2.1.length 1, .hs 3000020 1 0 p.2.2.length 1]), (.t 6, .hp 6 1 0), (.h 6, .blk 1 2 [.sc (.bool q.1), .hs 22 1 0 q.2.1.length 1, .hs 3000022 1 0 q.2.2.length 1]), (.h 20, .blk 1 2 ((p.2.1 ++ [51, 52]).map u32)), (.h 3000020, .blk 1 2 ((p.2.2 ++ [53, 54]).map u32)), (.h 22, .blk 1 2 ((q.2.1 ++ [51, 52]).map u32)), (.h 3000022, .blk 1 2 ((q.2.2 ++ [53, 54]).map u32)), (.h 7, .blk 1 2 [.sc (.bool A.1.1), oX 26 f1 A.1.2.1, oX 3000026 g1 A.1.2.2]), (.h 9, .blk 1 2 [.sc (.bool A.1.1), oX 32 f2 A.1.2.1, oX 3000032 g2 A.1.2.2]), (.h 11, .blk 1 2 [.sc (.bool M.1.1), oX 37 f3 M.1.2.1, oX 3000037 g3 M.1.2.2]), (.h 13, .blk 1 2 [.sc (.bool T1.1.1), oX 43 z.1 T1.1.2.1, oX 3000043 z.2 T1.1.2.2]), (.h 15, .blk 0 0 []), (.h 26, oS f1 A.1.2.1), (.h 3000026, oS g1 A.1.2.2), (.h 32, oS f2 A.1.2.1), (.h 3000032, oS g2 A.1.2.2), (.h 37, oS f3 M.1.2.1), (.h 3000037, oS g3 M.1.2.2), (.h 43, oS z.1 T1.1.2.1), (.h 3000043, oS z.2 T1.1.2.2), (.t 7, .hp 7 1 0), (.t 8, .sc (.int .i64 A.2)), (.t 9, .hp 9 1 0), (.t 10, .sc (.int .i64 A.2)), (.t 11, .hp 11 1 0), (.t 12, .sc (.int .i64 M.2)), (.t 13, .hp 13 1 0), (.t 14, .sc (.int .i64 T1.2))]) (fun z => (z.1 = false → T1.1.2.1 = []) ∧ (z.2 = false → T1.1.2.2 = []) ∧ (z.1 = true → z.2 = true)) ?_ ?_
  · intro J hJ
    refine T ?_
    refine call_limr 43 3000043 rfl rfl rfl gP (frzGL_RS1 (st := 2) (st1 := 2) (st2 := 2) p.2.1 [51, 52] p.2.2 [53, 54] rfl (by decide) rfl (by decide) rfl rfl (by decide) rfl) rfl rfl rfl Hv Hv ?_
    intro f g hf hg hfg
    cases f with
    | false =>
      cases g with
      | false =>
        simp only [oX, oS, Bool.false_eq_true, if_false, if_true]
        refine T ?_
        exact hJ _ (false, false) ⟨hf, hg, hfg⟩ (Hc2 rfl <| Hc2 rfl <| Hc2 rfl <| Hc2 rfl <| Hc2 rfl <| Hc2 rfl <| Hc2 rfl <| Hc2 rfl <| Hc2 rfl <| Hc2 rfl <| Hc2 rfl <| Hc2 rfl <| Hc2 rfl <| Hc2 rfl <| Hc2 rfl <| Hc2 rfl <| Hc2 rfl <| Hc2 rfl <| Hc2 rfl <| Hc2 rfl <| Hc2 rfl <| Hc2 rfl <| Hc2 rfl <| Hc2 rfl <| Hc2 rfl <| Hc2 rfl <| Hc2 rfl <| Hc2 rfl <| Hc2 rfl <| Hc2 rfl <| Hc2 rfl <| Hc2 rfl <| Hc2 rfl <| trivial)
      | true =>
        simp only [oX, oS, Bool.false_eq_true, if_false, if_true]
        refine T ?_
        exact hJ _ (false, true) ⟨hf, hg, hfg⟩ (Hc2 rfl <| Hc2 rfl <| Hc2 rfl <| Hc2 rfl <| Hc2 rfl <| Hc2 rfl <| Hc2 rfl <| Hc2 rfl <| Hc2 rfl <| Hc2 rfl <| Hc2 rfl <| Hc2 rfl <| Hc2 rfl <| Hc2 rfl <| Hc2 rfl <| Hc2 rfl <| Hc2 rfl <| Hc2 rfl <| Hc2 rfl <| Hc2 rfl <| Hc2 rfl <| Hc2 rfl <| Hc2 rfl <| Hc2 rfl <| Hc2 rfl <| Hc2 rfl <| Hc2 rfl <| Hc2 rfl <| Hc2 rfl <| Hc2 rfl <| Hc2 rfl <| Hc2 rfl <| Hc2 rfl <| trivial)
    | true =>
      obtain rfl : g = true := hfg rfl
      simp only [oX, oS, Bool.false_eq_true, if_false, if_true]
      refine T ?_
      exact hJ _ (true, true) ⟨hf, hg, hfg⟩ (Hc2 rfl <| Hc2 rfl <| Hc2 rfl <| Hc2 rfl <| Hc2 rfl <| Hc2 rfl <| Hc2 rfl <| Hc2 rfl <| Hc2 rfl <| Hc2 rfl <| Hc2 rfl <| Hc2 rfl <| Hc2 rfl <| Hc2 rfl <| Hc2 rfl <| Hc2 rfl <| Hc2 rfl <| Hc2 rfl <| Hc2 rfl <| Hc2 rfl <| Hc2 rfl <| Hc2 rfl <| Hc2 rfl <| Hc2 rfl <| Hc2 rfl <| Hc2 rfl <| Hc2 rfl <| Hc2 rfl <| Hc2 rfl <| Hc2 rfl <| Hc2 rfl <| Hc2 rfl <| Hc2 rfl <| trivial)
  rintro ⟨f4, g4⟩ r ⟨hf4, hg4, hf4g4⟩
  simp only at hf4 hg4 hf4g4
  refine w_cut (α := Unit) (fun _ => [(.t 2, .hp 2 1 0), (.h 2, rb p), (.t 3, .hp 3 1 0), (.h 3, rb q), (.t 5, .hp 5 1 0), (.h 5, .blk 1 2 [.sc (.bool p.1), .hs 20 1 0 p.2.1.length 1, .hs 3000020 1 0 p.2.2.length 1]), (.t 6, .hp 6 1 0), (.h 6, .blk 1 2 [.sc (.bool q.1), .hs 22 1 0 q.2.1.length 1, .hs 3000022 1 0 q.2.2.length 1]), (.h 20, .blk 1 2 ((p.2.1 ++ [51, 52]).map u32)), (.h 3000020, .blk 1 2 ((p.2.2 ++ [53, 54]).map u32)), (.h 22, .blk 1 2 ((q.2.1 ++ [51, 52]).map u32)), (.h 3000022, .blk 1 2 ((q.2.2 ++ [53, 54]).map u32)), (.h 7, .blk 1 2 [.sc (.bool A.1.1), oX 26 f1 A.1.2.1, oX 3000026 g1 A.1.2.2]), (.h 9, .blk 1 2 [.sc (.bool A.1.1), oX 32 f2 A.1.2.1, oX 3000032 g2 A.1.2.2]), (.h 11, .blk 1 2 [.sc (.bool M.1.1), oX 37 f3 M.1.2.1, oX 3000037 g3 M.1.2.2]), (.h 13, .blk 1 2 [.sc (.bool T1.1.1), oX 43 f4 T1.1.2.1, oX 3000043 g4 T1.1.2.2]), (.h 15, .blk 0 0 []), (.h 26, oS f1 A.1.2.1), (.h 3000026, oS g1 A.1.2.2), (.h 32, oS f2 A.1.2.1), (.h 3000032, oS g2 A.1.2.2), (.h 37, oS f3 M.1.2.1), (.h 3000037, oS g3 M.1.2.2), (.h 43, oS f4 T1.1.2.1), (.h 3000043, oS g4 T1.1.2.2), (.t 7, .hp 7 1 0), (.t 8, .sc (.int .i64 A.2)), (.t 9, .hp 9 1 0), (.t 10, .sc (.int .i64 A.2)), (.t 11, .hp 11 1 0), (.t 12, .sc (.int .i64 M.2)), (.t 13, .hp 13 1 0), (.t 14, .sc (.int .i64 T1.2)), (.t 55, .sc (.bool false))]) (fun _ => True) ?_ ?_
  · intro J hJ
    refine T ?_
    refine call_g [(20, 1), (3000020, 1)] false kp ⟨rfl, all_u32f _, rfl, all_u32f _, trivial⟩ rfl (by simp) (by simp [pOf]) rfl rfl rfl nofun ?_
    refine T ?_
    refine call_g [(22, 1), (3000022, 1)] false kq ⟨rfl, all_u32f _, rfl, all_u32f _, trivial⟩ rfl (by simp) (by simp [pOf]) rfl rfl rfl nofun ?_
    refine T ?_
    exact hJ _ () trivial (Hc2 rfl <| Hc2 rfl <| Hc2 rfl <| Hc2 rfl <| Hc2 rfl <| Hc2 rfl <| Hc2 rfl <| Hc2 rfl <| Hc2 rfl <| Hc2 rfl <| Hc2 rfl <| Hc2 rfl <| Hc2 rfl <| Hc2 rfl <| Hc2 rfl <| Hc2 rfl <| Hc2 rfl <| Hc2 rfl <| Hc2 rfl <| Hc2 rfl <| Hc2 rfl <| Hc2 rfl <| Hc2 rfl <| Hc2 rfl <| Hc2 rfl <| Hc2 rfl <| Hc2 rfl <| Hc2 rfl <| Hc2 rfl <| Hc2 rfl <| Hc2 rfl <| Hc2 rfl <| Hc2 rfl <| Hc2 rfl <| trivial)
  rintro ⟨⟩ r _
  refine TS ?_
  refine w_cut (α := Unit) (fun _ => [(.t 2, .hp 2 1 0), (.h 2, rb p), (.t 3, .hp 3 1 0), (.h 3, rb q), (.t 5, .hp 5 1 0), (.h 5, .blk 1 2 [.sc (.bool p.1), .hs 20 1 0 p.2.1.length 1, .hs 3000020 1 0 p.2.2.length 1]), (.t 6, .hp 6 1 0), (.h 6, .blk 1 2 [.sc (.bool q.1), .hs 22 1 0 q.2.1.length 1, .hs 3000022 1 0 q.2.2.length 1]), (.h 20, .blk 1 2 ((p.2.1 ++ [51, 52]).map u32)), (.h 3000020, .blk 1 2 ((p.2.2 ++ [53, 54]).map u32)), (.h 22, .blk 1 2 ((q.2.1 ++ [51, 52]).map u32)), (.h 3000022, .blk 1 2 ((q.2.2 ++ [53, 54]).map u32)), (.h 9, .blk 1 2 [.sc (.bool A.1.1), oX 32 f2 A.1.2.1, oX 3000032 g2 A.1.2.2]), (.h 11, .blk 1 2 [.sc (.bool M.1.1), oX 37 f3 M.1.2.1, oX 3000037 g3 M.1.2.2]), (.h 13, .blk 1 2 [.sc (.bool T1.1.1), oX 43 f4 T1.1.2.1, oX 3000043 g4 T1.1.2.2]), (.h 15, .blk 0 0 []), (.h 32, oS f2 A.1.2.1), (.h 3000032, oS g2 A.1.2.2), (.h 37, oS f3 M.1.2.1), (.h 3000037, oS g3 M.1.2.2), (.h 43, oS f4 T1.1.2.1), (.h 3000043, oS g4 T1.1.2.2), (.t 8, .sc (.int .i64 A.2)), (.t 9, .hp 9 1 0), (.t 10, .sc (.int .i64 A.2)), (.t 11, .hp 11 1 0), (.t 12, .sc (.int .i64 M.2)), (.t 13, .hp 13 1 0), (.t 14, .sc (.int .i64 T1.2))]) (fun _ => True) ?_ ?_
  · intro J hJ
    refine T ?_
    refine call_spoilR 26 3000026 f1 g1 A.1.1 A.1.2.1 A.1.2.2 rfl (by decide) hf1g1 lA.1 lA.2 Hv Hv ⟨_, rfl⟩ ?_ ?_
    · intro Z Z'
      refine T ?_
      exact hJ _ () trivial (Hc2 rfl <| Hc2 rfl <| Hc2 rfl <| Hc2 rfl <| Hc2 rfl <| Hc2 rfl <| Hc2 rfl <| Hc2 rfl <| Hc2 rfl <| Hc2 rfl <| Hc2 rfl <| Hc2 rfl <| Hc2 rfl <| Hc2 rfl <| Hc2 rfl <| Hc2 rfl <| Hc2 rfl <| Hc2 rfl <| Hc2 rfl <| Hc2 rfl <| Hc2 rfl <| Hc2 rfl <| Hc2 rfl <| Hc2 rfl <| Hc2 rfl <| Hc2 rfl <| Hc2 rfl <| Hc2 rfl <| Hc2 rfl <| trivial)
    · rintro rfl rfl
      rfl
  rintro ⟨⟩ r _
  refine w_cut (α := Unit) (fun _ => [(.t 2, .hp 2 1 0), (.h 2, rb p), (.t 3, .hp 3 1 0), (.h 3, rb q), (.t 5, .hp 5 1 0), (.h 5, .blk 1 2 [.sc (.bool p.1), .hs 20 1 0 p.2.1.length 1, .hs 3000020 1 0 p.2.2.length 1]), (.t 6, .hp 6 1 0), (.h 6, .blk 1 2 [.sc (.bool q.1), .hs 22 1 0 q.2.1.length 1, .hs 3000022 1 0 q.2.2.length 1]), (.h 20, .blk 1 2 ((p.2.1 ++ [51, 52]).map u32)), (.h 3000020, .blk 1 2 ((p.2.2 ++ [53, 54]).map u32)), (.h 22, .blk 1 2 ((q.2.1 ++ [51, 52]).map u32)), (.h 3000022, .blk 1 2 ((q.2.2 ++ [53, 54]).map u32)), (.h 9, .blk 1 2 [.sc (.bool A.1.1), oX 32 f2 A.1.2.1, oX 3000032 g2 A.1.2.2]), (.h 13, .blk 1 2 [.sc (.bool T1.1.1), oX 43 f4 T1.1.2.1, oX 3000043 g4 T1.1.2.2]), (.h 15, .blk 0 0 []), (.h 32, oS f2 A.1.2.1), (.h 3000032, oS g2 A.1.2.2), (.h 43, oS f4 T1.1.2.1), (.h 3000043, oS g4 T1.1.2.2), (.t 8, .sc (.int .i64 A.2)), (.t 9, .hp 9 1 0), (.t 10, .sc (.int .i64 A.2)), (.t 12, .sc (.int .i64 M.2)), (.t 13, .hp 13 1 0), (.t 14, .sc (.int .i64 T1.2))]) (fun _ => True) ?_ ?_
  · intro J hJ
    refine T ?_
    refine call_spoilR 37 3000037 f3 g3 M.1.1 M.1.2.1 M.1.2.2 rfl (by decide) hf3g3 lN.1 lN.2 Hv Hv ⟨_, rfl⟩ ?_ ?_
    · intro Z Z'
      refine T ?_
      exact hJ _ () trivial (Hc2 rfl <| Hc2 rfl <| Hc2 rfl <| Hc2 rfl <| Hc2 rfl <| Hc2 rfl <| Hc2 rfl <| Hc2 rfl <| Hc2 rfl <| Hc2 rfl <| Hc2 rfl <| Hc2 rfl <| Hc2 rfl <| Hc2 rfl <| Hc2 rfl <| Hc2 rfl <| Hc2 rfl <| Hc2 rfl <| Hc2 rfl <| Hc2 rfl <| Hc2 rfl <| Hc2 rfl <| Hc2 rfl <| Hc2 rfl <| Hc2 rfl <| trivial)
    · rintro rfl rfl
      rfl
  rintro ⟨⟩ r _
  refine w_cut (α := Unit) (fun _ => [(.t 2, .hp 2 1 0), (.h 2, rb p), (.t 3, .hp 3 1 0), (.h 3, rb q), (.t 5, .hp 5 1 0), (.h 5, .blk 1 2 [.sc (.bool p.1), .hs 20 1 0 p.2.1.length 1, .hs 3000020 1 0 p.2.2.length 1]), (.t 6, .hp 6 1 0), (.h 6, .blk 1 2 [.sc (.bool q.1), .hs 22 1 0 q.2.1.length 1, .hs 3000022 1 0 q.2.2.length 1]), (.h 20, .blk 1 2 ((p.2.1 ++ [51, 52]).map u32)), (.h 3000020, .blk 1 2 ((p.2.2 ++ [53, 54]).map u32)), (.h 22, .blk 1 2 ((q.2.1 ++ [51, 52]).map u32)), (.h 3000022, .blk 1 2 ((q.2.2 ++ [53, 54]).map u32)), (.h 9, .blk 1 2 [.sc (.bool A.1.1), oX 32 f2 A.1.2.1, oX 3000032 g2 A.1.2.2]), (.h 15, .blk 0 0 []), (.h 32, oS f2 A.1.2.1), (.h 3000032, oS g2 A.1.2.2), (.t 8, .sc (.int .i64 A.2)), (.t 9, .hp 9 1 0), (.t 10, .sc (.int .i64 A.2)), (.t 12, .sc (.int .i64 M.2)), (.t 14, .sc (.int .i64 T1.2))]) (fun _ => True) ?_ ?_
  · intro J hJ
    refine T ?_
    refine call_spoilR 43 3000043 f4 g4 T1.1.1 T1.1.2.1 T1.1.2.2 rfl (by decide) hf4g4 lP.1 lP.2 Hv Hv ⟨_, rfl⟩ ?_ ?_
    · intro Z Z'
      refine T ?_
      exact hJ _ () trivial (Hc2 rfl <| Hc2 rfl <| Hc2 rfl <| Hc2 rfl <| Hc2 rfl <| Hc2 rfl <| Hc2 rfl <| Hc2 rfl <| Hc2 rfl <| Hc2 rfl <| Hc2 rfl <| Hc2 rfl <| Hc2 rfl <| Hc2 rfl <| Hc2 rfl <| Hc2 rfl <| Hc2 rfl <| Hc2 rfl <| Hc2 rfl <| Hc2 rfl <| Hc2 rfl <| trivial)
    · rintro rfl rfl
      rfl
  rintro ⟨⟩ r _
  refine w_cut (α := Unit) (fun _ => [(.t 2, .hp 2 1 0), (.h 2, rb p), (.t 3, .hp 3 1 0), (.h 3, rb q), (.h 9, .blk 1 2 [.sc (.bool A.1.1), oX 32 f2 A.1.2.1, oX 3000032 g2 A.1.2.2]), (.h 15, .blk 0 0 []), (.h 32, oS f2 A.1.2.1), (.h 3000032, oS g2 A.1.2.2), (.t 8, .sc (.int .i64 A.2)), (.t 9, .hp 9 1 0), (.t 10, .sc (.int .i64 A.2)), (.t 87, .sc (.bool false))]) (fun _ => True) ?_ ?_
  · intro J hJ
    by_cases hf : formR p = true
    · rw [if_pos hf] at eN eP
      rw [hf] at fF
      rw [eN, eP]
      refine T ?_
      refine call_g [(20, 1), (3000020, 1)] false kp ⟨rfl, all_u32f _, rfl, all_u32f _, trivial⟩ rfl (by simp) (by simp [pOf]) rfl rfl rfl nofun ?_
      refine T ?_
      refine call_g [(22, 1), (3000022, 1)] false kq ⟨rfl, all_u32f _, rfl, all_u32f _, trivial⟩ rfl (by simp) (by simp [pOf]) rfl rfl rfl nofun ?_
      refine T ?_
      refine c_forget2 [(.t 2, .hp 2 1 0), (.h 2, rb p), (.t 3, .hp 3 1 0), (.h 3, rb q), (.h 9, .blk 1 2 [.sc (.bool A.1.1), oX 32 f2 A.1.2.1, oX 3000032 g2 A.1.2.2]), (.h 15, .blk 0 0 []), (.h 32, oS f2 A.1.2.1), (.h 3000032, oS g2 A.1.2.2), (.t 8, .sc (.int .i64 A.2)), (.t 9, .hp 9 1 0), (.t 10, .sc (.int .i64 A.2)), (.t 72, .sc (.bool false)), (.t 74, .sc (.bool true)), (.t 14, .sc (.int .i64 0))] (Hc2 rfl <| Hc2 rfl <| Hc2 rfl <| Hc2 rfl <| Hc2 rfl <| Hc2 rfl <| Hc2 rfl <| Hc2 rfl <| Hc2 rfl <| Hc2 rfl <| Hc2 rfl <| Hc2 rfl <| Hc2 rfl <| Hc2 rfl <| trivial) fun r => ?_
      refine call_by0' ow ?_
      refine T (call_by0' fF ?_)
      refine T (call_by0' ow ?_)
      refine T (call_by0' fF ?_)
      refine T ?_
      exact hJ _ () trivial (Hc2 rfl <| Hc2 rfl <| Hc2 rfl <| Hc2 rfl <| Hc2 rfl <| Hc2 rfl <| Hc2 rfl <| Hc2 rfl <| Hc2 rfl <| Hc2 rfl <| Hc2 rfl <| Hc2 rfl <| trivial)
    · rw [if_neg hf] at eN eP
      rw [Bool.eq_false_iff.2 hf] at fF
      rw [eN, eP]
      refine T ?_
      refine call_g [(20, 1), (3000020, 1)] false kp ⟨rfl, all_u32f _, rfl, all_u32f _, trivial⟩ rfl (by simp) (by simp [pOf]) rfl rfl rfl nofun ?_
      refine T ?_
      refine call_g [(22, 1), (3000022, 1)] false kq ⟨rfl, all_u32f _, rfl, all_u32f _, trivial⟩ rfl (by simp) (by simp [pOf]) rfl rfl rfl nofun ?_
      refine T ?_
      refine c_forget2 [(.t 2, .hp 2 1 0), (.h 2, rb p), (.t 3, .hp 3 1 0), (.h 3, rb q), (.h 9, .blk 1 2 [.sc (.bool A.1.1), oX 32 f2 A.1.2.1, oX 3000032 g2 A.1.2.2]), (.h 15, .blk 0 0 []), (.h 32, oS f2 A.1.2.1), (.h 3000032, oS g2 A.1.2.2), (.t 8, .sc (.int .i64 A.2)), (.t 9, .hp 9 1 0), (.t 10, .sc (.int .i64 A.2)), (.t 72, .sc (.bool false)), (.t 74, .sc (.bool false)), (.t 14, .sc (.int .i64 20))] (Hc2 rfl <| Hc2 rfl <| Hc2 rfl <| Hc2 rfl <| Hc2 rfl <| Hc2 rfl <| Hc2 rfl <| Hc2 rfl <| Hc2 rfl <| Hc2 rfl <| Hc2 rfl <| Hc2 rfl <| Hc2 rfl <| Hc2 rfl <| trivial) fun r => ?_
      refine call_by0' ow ?_
      refine T (call_by0' fF ?_)
      refine T (call_by0' ow ?_)
      refine T (call_by0' fF ?_)
      refine T ?_
      exact hJ _ () trivial (Hc2 rfl <| Hc2 rfl <| Hc2 rfl <| Hc2 rfl <| Hc2 rfl <| Hc2 rfl <| Hc2 rfl <| Hc2 rfl <| Hc2 rfl <| Hc2 rfl <| Hc2 rfl <| Hc2 rfl <| trivial)
  rintro ⟨⟩ r _
  refine TS ?_
  refine w_cut (α := Unit) (fun _ => [(.h 9, .blk 1 2 [.sc (.bool A.1.1), oX 32 f2 A.1.2.1, oX 3000032 g2 A.1.2.2]), (.h 15, .blk 1 2 [.sc (.bool A.1.1), U A.1.2.1, U A.1.2.2]), (.h 32, oS f2 A.1.2.1), (.h 3000032, oS g2 A.1.2.2), (.t 8, .sc (.int .i64 A.2)), (.t 9, .hp 9 1 0), (.t 10, .sc (.int .i64 A.2)), (.t 15, .hp 15 1 0), (.t 16, .sc (.int .i64 A.2))]) (fun _ => True) ?_ ?_
  · intro J hJ
    refine T (call_by0' wA ?_)
    refine T ?_
    exact hJ _ () trivial (Hc2 rfl <| Hc2 rfl <| Hc2 rfl <| Hc2 rfl <| Hc2 rfl <| Hc2 rfl <| Hc2 rfl <| Hc2 rfl <| Hc2 rfl <| trivial)
  rintro ⟨⟩ r _
  have hs := q2_same A.1 ⟨by omega, by omega⟩
  clear gA gN gP wA kp kq fF ow lN lP
  cases f2 with
  | false =>
    have e1 := hf2 rfl
    cases g2 with
    | false =>
      have e2 := hg2 rfl
      rw [e1, e2] at hs
      rw [e1, e2]
      simp only [oX, oS, Bool.false_eq_true, if_false, if_true]
      refine T ?_
      refine call_wk (WkL.cons (Wk.agg (WkL.cons (Wk.refl _) (WkL.cons Wk.nil (WkL.cons Wk.nil (WkL.refl _))))) (WkL.refl _)) hs ?_
      exact TR rfl
    | true =>
      rw [e1] at hs
      rw [e1]
      simp only [oX, oS, Bool.false_eq_true, if_false, if_true]
      refine T ?_
      refine call_wk (WkL.cons (Wk.agg (WkL.cons (Wk.refl _) (WkL.cons Wk.nil (WkL.refl _)))) (WkL.refl _)) hs ?_
      exact TR rfl
  | true =>
    obtain rfl : g2 = true := hf2g2 rfl
    simp only [oX, oS, if_true]
    refine T (call_by hs ?_)
    exact TR rfl
end Go.Ab
end
