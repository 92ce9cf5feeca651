import Derived.Test.YtgffficaoioljaaRbOd
import Derived.Test.YtgffficaoioljaaRbT
import Derived.Test.YtgffficaoioljaaRbN
import Derived.Test.YtgffficaoioljaaRbOe
import Derived.Test.YtgffficaoioljaaRbAbTs
set_option linter.all false
section
namespace Go.Ab
open Go Go.Proofs Go.Proofs.Ytgffficaoioljaa.Pl
set_option maxRecDepth 100000
set_option maxHeartbeats 16000000
theorem q_Fit (l : List Int) (hl : l.length ≤ 35184372088832) : Spec Try.prog 23 [U l] (.tup [U (fitV (trim l)).1, .sc (.int .i64 (fitV (trim l)).2)]) := by
  refine spec_of_awp mixed Try.func23 rfl Try.call23 (by kernel_rfl) (by simp) rfl ?_
  have := trim_len l
  refine T (call_by (q_Trim l hl) ?_)
  by_cases h : (trim l).length ≤ 16
  · rw [fitV_le h]
    exact TR rfl
  · rw [fitV_gt (by omega)]
    refine T (r_ret ?_)
    rw [Try.results23]
    refine R ?_
    exact wk_nil _
theorem v_forget {P : Program} {B : Nat} {ops : Array Oper} {K : S → Prop} {rest : List Oper} {s : S} {d : Option Tmp} {x : Option AV} (l : List (Loc × AV)) (h : Has l s) (hK : ∀ r, AVal P B ops K rest (kn l r) d x) : AVal P B ops K rest s d x := by
  have := hK s
  rwa [kn_self h] at this
theorem len_step {P : Program} {B : Nat} {ops : Array Oper} {K : S → Prop} {rest : List Oper} {s : S} {d : Option Tmp} (k : Nat) (f : Bool) (hK : AOps0 P B ops K rest (put s d (.sc (.int .i64 0)))) : AThen P B ops K rest s d (match oX k f [] with
    | .vs n _ => some (.sc (.int .i64 n), [])
    | .hs _ _ _ n _ => some (.sc (.int .i64 n), [])
    | .sc (.slice _ n _) => some (.sc (.int .i64 n), [])
    | _ => none) := by
  cases f <;> exact hK
theorem fitV_or (v : List Int) : (fitV v).2 = 0 ∨ (fitV v).2 = 4 ∧ (fitV v).1 = [] := by
  rw [fitV]
  split
  · exact .inl rfl
  · exact .inr ⟨rfl, rfl⟩
theorem w_same (l : List Int) (h : l.length ≤ 16) : Spec Try.prog 25 [U l, U l] (.sc (.bool true)) := w1s l h
theorem fitV_len (v : List Int) : (fitV v).1.length ≤ 16 := by
  rw [fitV]
  split
  · assumption
  · exact Nat.zero_le _
theorem U2 (a : List Int) (x y : Int) : AV.vs (a.length + 2) ((a ++ [x, y]).map u32) = U (a ++ [x, y]) := by
  rw [U, List.length_append]
  rfl
theorem call_by0 {P : Program} {B : Nat} {ops : Array Oper} {K : S → Prop} {rest : List Oper} {s : S} {d : Option Tmp} {f : FuncId} {raw ws : List AV} {v : AV} (h : Spec P f ws v) (hK : AOps0 P B ops K rest (put s d v)) : ACall P B ops K rest s d f raw (some (ws, [])) :=
  call_by h hK
theorem Hc {s : S} {l : Loc} {v : AV} {t : List (Loc × AV)} (h : s l = v) (k : Has t s) : Has ((l, v) :: t) s := ⟨h, k⟩
theorem c_forget {P : Program} {B : Nat} {ops : Array Oper} {K : S → Prop} {rest : List Oper} {s : S} (l : List (Loc × AV)) {d : Option Tmp} {f : FuncId} {raw : List AV} {x : Option (List AV × List Nat)} (h : Has l s) (hK : ∀ r, ACall P B ops K rest (kn l r) d f raw x) : ACall P B ops K rest s d f raw x := by
  have := hK s
  rwa [kn_self h] at this
theorem row2 (a : List Int) (x y : Int) : a.map u32 ++ [.sc (.int .u32 x), .sc (.int .u32 y)] = (a ++ [x, y]).map u32 := by
  rw [List.map_append]
  rfl
theorem w_same2 (a : List Int) (x y : Int) (la : a.length ≤ 35184372088000) : Spec Try.prog 25 [U (a ++ [x, y]), U (a ++ [x, y])] (.sc (.bool true)) := by
  have e : (a ++ [x, y]).length = a.length + 2 := by simp
  have := q_Same1 (a ++ [x, y]) (a ++ [x, y]) (by omega) (by omega)
  rwa [decide_eq_true rfl] at this
theorem l_LimbOwn (a b : List Int) (ha : Wf a) (hb : Wf b) (la : a.length * 4 ≤ 140737488351232) (lb : b.length * 4 ≤ 140737488351232) : Spec Try.prog 9 [U a, U b] (.sc (.bool true)) := by
  refine spec_of_awp mixed Try.func9 rfl Try.call9 (by kernel_rfl) (by simp) rfl ?_
  refine T (call_by wakes1 ?_)
  refine TS ?_
  refine w_cut (α := Unit) (fun _ => [(.t 0, U a), (.t 1, U b), (.t 5, .hs 29 2 0 (a.length + 2) 1), (.h 29, .blk 2 2 ((a ++ [7, 8]).map u32)), (.t 6, .hs 33 2 0 (b.length + 2) 1), (.h 33, .blk 2 2 ((b ++ [9, 10]).map u32)), (.h 46, .blk 0 0 []), (.h 52, .blk 0 0 []), (.h 58, .blk 0 0 []), (.h 64, .blk 0 0 []), (.h 3000064, .blk 0 0 []), (.h 71, .blk 0 0 [])]) (fun _ => True) ?_ ?_
  · intro J hJ
    refine T ?_
    refine call_g [] false (g_own a (by omega)) trivial rfl (by simp) (by simp [pOf]) rfl rfl rfl nofun ?_
    refine T ?_
    refine call_g [] false (g_own b (by omega)) trivial rfl (by simp) (by simp [pOf]) rfl rfl rfl nofun ?_
    refine T ?_
    refine hJ _ () trivial (H ?_)
    exact ⟨by rw [List.map_append]; rfl, by rw [List.map_append]; rfl⟩
  rintro ⟨⟩ r _
  refine w_cut (α := Unit) (fun _ => [(.t 0, U a), (.t 1, U b), (.t 5, .hs 29 2 0 (a.length + 2) 1), (.h 29, .blk 2 2 ((a ++ [7, 8]).map u32)), (.t 6, .hs 33 2 0 (b.length + 2) 1), (.h 33, .blk 2 2 ((b ++ [9, 10]).map u32)), (.h 46, .blk 0 0 []), (.h 52, .blk 0 0 []), (.h 58, .blk 0 0 []), (.h 64, .blk 0 0 []), (.h 3000064, .blk 0 0 []), (.h 71, .blk 0 0 []), (.t 7, .hs 29 2 0 a.length 1), (.t 8, .hs 33 2 0 b.length 1)]) (fun _ => True) ?_ ?_
  · intro J hJ
    refine T ?_
    exact hJ _ () trivial Hv
  rintro ⟨⟩ r _
  refine w_cut (α := Bool) (fun f1 => [(.t 0, U a), (.t 1, U b), (.t 5, .hs 29 2 0 (a.length + 2) 1), (.h 29, .blk 2 1 ((a ++ [7, 8]).map u32)), (.t 6, .hs 33 2 0 (b.length + 2) 1), (.h 33, .blk 2 2 ((b ++ [9, 10]).map u32)), (.h 46, oS f1 (fitV (trim a)).1), (.h 52, .blk 0 0 []), (.h 58, .blk 0 0 []), (.h 64, .blk 0 0 []), (.h 3000064, .blk 0 0 []), (.h 71, .blk 0 0 []), (.t 7, .hs 29 2 0 a.length 1), (.t 8, .hs 33 2 0 b.length 1), (.t 9, oX 46 f1 (fitV (trim a)).1), (.t 10, .sc (.int .i64 (fitV (trim a)).2))]) (fun f1 => f1 = false → (fitV (trim a)).1 = []) ?_ ?_
  · intro J hJ
    refine T ?_
    refine call_lim 46 rfl rfl (l_Norm a (by omega)) (frzGL_row (g := 2) (st := 2) a [7, 8] Hv (by decide) rfl rfl) rfl rfl Hv rfl ?_
    intro f1 hf1
    refine T ?_
    exact hJ _ f1 hf1 Hv
  rintro f1 r hf1
  refine w_cut (α := Bool) (fun f2 => [(.t 0, U a), (.t 1, U b), (.t 5, .hs 29 2 0 (a.length + 2) 1), (.h 29, .blk 2 1 ((a ++ [7, 8]).map u32)), (.t 6, .hs 33 2 0 (b.length + 2) 1), (.h 33, .blk 2 1 ((b ++ [9, 10]).map u32)), (.h 46, oS f1 (fitV (trim a)).1), (.h 52, oS f2 (fitV (N (val a + val b))).1), (.h 58, .blk 0 0 []), (.h 64, .blk 0 0 []), (.h 3000064, .blk 0 0 []), (.h 71, .blk 0 0 []), (.t 7, .hs 29 2 0 a.length 1), (.t 8, .hs 33 2 0 b.length 1), (.t 9, oX 46 f1 (fitV (trim a)).1), (.t 10, .sc (.int .i64 (fitV (trim a)).2)), (.t 11, oX 52 f2 (fitV (N (val a + val b))).1), (.t 12, .sc (.int .i64 (fitV (N (val a + val b))).2))]) (fun f2 => f2 = false → (fitV (N (val a + val b))).1 = []) ?_ ?_
  · intro J hJ
    refine T ?_
    refine call_lim 52 rfl rfl (l_Add a b ha hb (by omega) (by omega)) (frzGL_row (g := 2) (st := 1) a [7, 8] Hv (by decide) rfl (frzGL_row (g := 2) (st := 2) b [9, 10] Hv (by decide) rfl rfl)) rfl rfl Hv rfl ?_
    intro f2 hf2
    refine T ?_
    exact hJ _ f2 hf2 Hv
  rintro f2 r hf2
  refine w_cut (α := Bool) (fun f3 => [(.t 0, U a), (.t 1, U b), (.t 5, .hs 29 2 0 (a.length + 2) 1), (.h 29, .blk 2 1 ((a ++ [7, 8]).map u32)), (.t 6, .hs 33 2 0 (b.length + 2) 1), (.h 33, .blk 2 1 ((b ++ [9, 10]).map u32)), (.h 46, oS f1 (fitV (trim a)).1), (.h 52, oS f2 (fitV (N (val a + val b))).1), (.h 58, oS f3 (fitV (N (val a * val b))).1), (.h 64, .blk 0 0 []), (.h 3000064, .blk 0 0 []), (.h 71, .blk 0 0 []), (.t 7, .hs 29 2 0 a.length 1), (.t 8, .hs 33 2 0 b.length 1), (.t 9, oX 46 f1 (fitV (trim a)).1), (.t 10, .sc (.int .i64 (fitV (trim a)).2)), (.t 11, oX 52 f2 (fitV (N (val a + val b))).1), (.t 12, .sc (.int .i64 (fitV (N (val a + val b))).2)), (.t 13, oX 58 f3 (fitV (N (val a * val b))).1), (.t 14, .sc (.int .i64 (fitV (N (val a * val b))).2))]) (fun f3 => f3 = false → (fitV (N (val a * val b))).1 = []) ?_ ?_
  · intro J hJ
    refine T ?_
    refine call_lim 58 rfl rfl (l_Mul a b ha hb (by omega) (by omega)) (frzGL_row (g := 2) (st := 1) a [7, 8] Hv (by decide) rfl (frzGL_row (g := 2) (st := 1) b [9, 10] Hv (by decide) rfl rfl)) rfl rfl Hv rfl ?_
    intro f3 hf3
    refine T ?_
    exact hJ _ f3 hf3 Hv
  rintro f3 r hf3
  refine w_cut (α := Bool × Bool × List Int × List Int × Int) (fun z => [(.t 0, U a), (.t 1, U b), (.t 5, .hs 29 2 0 (a.length + 2) 1), (.h 29, .blk 2 1 ((a ++ [7, 8]).map u32)), (.t 6, .hs 33 2 0 (b.length + 2) 1), (.h 33, .blk 2 1 ((b ++ [9, 10]).map u32)), (.h 46, oS f1 (fitV (trim a)).1), (.h 52, oS f2 (fitV (N (val a + val b))).1), (.h 58, oS f3 (fitV (N (val a * val b))).1), (.h 64, oS z.1 z.2.2.1), (.h 3000064, oS z.2.1 z.2.2.2.1), (.h 71, .blk 0 0 []), (.t 7, .hs 29 2 0 a.length 1), (.t 8, .hs 33 2 0 b.length 1), (.t 9, oX 46 f1 (fitV (trim a)).1), (.t 10, .sc (.int .i64 (fitV (trim a)).2)), (.t 11, oX 52 f2 (fitV (N (val a + val b))).1), (.t 12, .sc (.int .i64 (fitV (N (val a + val b))).2)), (.t 13, oX 58 f3 (fitV (N (val a * val b))).1), (.t 14, .sc (.int .i64 (fitV (N (val a * val b))).2)), (.t 15, oX 64 z.1 z.2.2.1), (.t 16, oX 3000064 z.2.1 z.2.2.2.1), (.t 17, .sc (.int .i64 z.2.2.2.2))]) (fun z => (z.1 = false → z.2.2.1 = []) ∧ (z.2.1 = false → z.2.2.2.1 = []) ∧ z.2.2.1.length ≤ 16 ∧ z.2.2.2.1.length ≤ 16 ∧ (z.2.2.2.2 = 0 ∧ z.2.2.2.1 = N (val a % val b) ∧ val b ≠ 0 ∨ z.2.2.2.2 = 4 ∨ z.2.2.2.2 = 10)) ?_ ?_
  · intro J hJ
    refine T ?_
    refine call_limq 64 3000064 rfl rfl rfl (l_QuoRem a b ha hb (by omega) (by omega)) (frzGL_row (g := 2) (st := 1) a [7, 8] Hv (by decide) rfl (frzGL_row (g := 2) (st := 1) b [9, 10] Hv (by decide) rfl rfl)) rfl rfl Hv rfl Hv rfl ?_
    intro fq fr q t e h1 h2 h3 h4 h5
    refine T ?_
    exact hJ _ (fq, fr, q, t, e) ⟨h1, h2, h3, h4, h5⟩ Hv
  rintro ⟨fq, fr, q, t, e⟩ r ⟨h1, h2, h3, h4, h5⟩
  simp only at h1 h2 h3 h4 h5
  refine w_cut (α := Bool) (fun f4 => [(.t 0, U a), (.t 1, U b), (.t 5, .hs 29 2 0 (a.length + 2) 1), (.h 29, .blk 2 1 ((a ++ [7, 8]).map u32)), (.t 6, .hs 33 2 0 (b.length + 2) 1), (.h 33, .blk 2 1 ((b ++ [9, 10]).map u32)), (.h 46, oS f1 (fitV (trim a)).1), (.h 52, oS f2 (fitV (N (val a + val b))).1), (.h 58, oS f3 (fitV (N (val a * val b))).1), (.h 64, oS fq q), (.h 3000064, oS fr t), (.h 71, oS f4 (fitV (N (Int.gcd (val a) (val b) : Nat))).1), (.t 7, .hs 29 2 0 a.length 1), (.t 8, .hs 33 2 0 b.length 1), (.t 9, oX 46 f1 (fitV (trim a)).1), (.t 10, .sc (.int .i64 (fitV (trim a)).2)), (.t 11, oX 52 f2 (fitV (N (val a + val b))).1), (.t 12, .sc (.int .i64 (fitV (N (val a + val b))).2)), (.t 13, oX 58 f3 (fitV (N (val a * val b))).1), (.t 14, .sc (.int .i64 (fitV (N (val a * val b))).2)), (.t 15, oX 64 fq q), (.t 16, oX 3000064 fr t), (.t 17, .sc (.int .i64 e)), (.t 18, oX 71 f4 (fitV (N (Int.gcd (val a) (val b) : Nat))).1), (.t 19, .sc (.int .i64 (fitV (N (Int.gcd (val a) (val b) : Nat))).2))]) (fun f4 => f4 = false → (fitV (N (Int.gcd (val a) (val b) : Nat))).1 = []) ?_ ?_
  · intro J hJ
    refine T ?_
    refine call_lim 71 rfl rfl (l_Gcd a b ha hb (by omega) (by omega)) (frzGL_row (g := 2) (st := 1) a [7, 8] Hv (by decide) rfl (frzGL_row (g := 2) (st := 1) b [9, 10] Hv (by decide) rfl rfl)) rfl rfl Hv rfl ?_
    intro f4 hf4
    refine T ?_
    exact hJ _ f4 hf4 Hv
  rintro f4 r hf4
  refine w_cut (α := Unit) (fun _ => [(.t 0, U a), (.t 1, U b), (.t 5, .hs 29 2 0 (a.length + 2) 1), (.h 29, .blk 2 1 ((a ++ [7, 8]).map u32)), (.t 6, .hs 33 2 0 (b.length + 2) 1), (.h 33, .blk 2 1 ((b ++ [9, 10]).map u32)), (.h 46, oS f1 (fitV (trim a)).1), (.h 52, oS f2 (fitV (N (val a + val b))).1), (.h 58, oS f3 (fitV (N (val a * val b))).1), (.h 64, oS fq q), (.h 3000064, oS fr t), (.h 71, oS f4 (fitV (N (Int.gcd (val a) (val b) : Nat))).1), (.t 7, .hs 29 2 0 a.length 1), (.t 8, .hs 33 2 0 b.length 1), (.t 9, oX 46 f1 (fitV (trim a)).1), (.t 10, .sc (.int .i64 (fitV (trim a)).2)), (.t 11, oX 52 f2 (fitV (N (val a + val b))).1), (.t 12, .sc (.int .i64 (fitV (N (val a + val b))).2)), (.t 13, oX 58 f3 (fitV (N (val a * val b))).1), (.t 14, .sc (.int .i64 (fitV (N (val a * val b))).2)), (.t 15, oX 64 fq q), (.t 16, oX 3000064 fr t), (.t 17, .sc (.int .i64 e)), (.t 18, oX 71 f4 (fitV (N (Int.gcd (val a) (val b) : Nat))).1), (.t 19, .sc (.int .i64 (fitV (N (Int.gcd (val a) (val b) : Nat))).2)), (.t 89, .sc (.bool false))]) (fun _ => True) ?_ ?_
  · intro J hJ
    refine T ?_
    refine call_g [] false (g_own a (by omega)) trivial rfl (by simp) (by simp [pOf]) rfl rfl rfl nofun ?_
    refine T ?_
    rw [row2]
    refine T ?_
    refine call_eq (by rw [U2]) (w_same2 a 7 8 (by omega)) ?_
    refine T ?_
    refine c_forget [(.t 0, U a), (.t 1, U b), (.t 5, .hs 29 2 0 (a.length + 2) 1), (.h 29, .blk 2 1 ((a ++ [7, 8]).map u32)), (.t 6, .hs 33 2 0 (b.length + 2) 1), (.h 33, .blk 2 1 ((b ++ [9, 10]).map u32)), (.h 46, oS f1 (fitV (trim a)).1), (.h 52, oS f2 (fitV (N (val a + val b))).1), (.h 58, oS f3 (fitV (N (val a * val b))).1), (.h 64, oS fq q), (.h 3000064, oS fr t), (.h 71, oS f4 (fitV (N (Int.gcd (val a) (val b) : Nat))).1), (.t 7, .hs 29 2 0 a.length 1), (.t 8, .hs 33 2 0 b.length 1), (.t 9, oX 46 f1 (fitV (trim a)).1), (.t 10, .sc (.int .i64 (fitV (trim a)).2)), (.t 11, oX 52 f2 (fitV (N (val a + val b))).1), (.t 12, .sc (.int .i64 (fitV (N (val a + val b))).2)), (.t 13, oX 58 f3 (fitV (N (val a * val b))).1), (.t 14, .sc (.int .i64 (fitV (N (val a * val b))).2)), (.t 15, oX 64 fq q), (.t 16, oX 3000064 fr t), (.t 17, .sc (.int .i64 e)), (.t 18, oX 71 f4 (fitV (N (Int.gcd (val a) (val b) : Nat))).1), (.t 19, .sc (.int .i64 (fitV (N (Int.gcd (val a) (val b) : Nat))).2)), (.t 81, .sc (.bool false)), (.t 82, .hs 33 2 0 (b.length + 2) 1)] (Hc rfl <| Hc rfl <| Hc rfl <| Hc rfl <| Hc rfl <| Hc rfl <| Hc rfl <| Hc rfl <| Hc rfl <| Hc rfl <| Hc rfl <| Hc rfl <| Hc rfl <| Hc rfl <| Hc rfl <| Hc rfl <| Hc rfl <| Hc rfl <| Hc rfl <| Hc rfl <| Hc rfl <| Hc rfl <| Hc rfl <| Hc rfl <| Hc rfl <| Hc rfl <| Hc rfl <| trivial) fun r => ?_
    refine call_g [] false (g_own b (by omega)) trivial rfl (by simp) (by simp [pOf]) rfl rfl rfl nofun ?_
    refine T ?_
    rw [row2]
    refine T ?_
    refine call_eq (by rw [U2]) (w_same2 b 9 10 (by omega)) ?_
    refine T ?_
    exact hJ _ () trivial Hv
  rintro ⟨⟩ r _
  refine TS ?_
  refine w_cut (α := Unit) (fun _ => [(.t 0, U a), (.t 1, U b), (.t 5, .hs 29 2 0 (a.length + 2) 1), (.h 29, .blk 2 1 ((a ++ [7, 8]).map u32)), (.t 6, .hs 33 2 0 (b.length + 2) 1), (.h 33, .blk 2 1 ((b ++ [9, 10]).map u32)), (.h 52, oS f2 (fitV (N (val a + val b))).1), (.h 58, oS f3 (fitV (N (val a * val b))).1), (.h 64, oS fq q), (.h 3000064, oS fr t), (.h 71, oS f4 (fitV (N (Int.gcd (val a) (val b) : Nat))).1), (.t 7, .hs 29 2 0 a.length 1), (.t 8, .hs 33 2 0 b.length 1), (.t 9, oX 46 f1 (fitV (trim a)).1), (.t 10, .sc (.int .i64 (fitV (trim a)).2)), (.t 11, oX 52 f2 (fitV (N (val a + val b))).1), (.t 12, .sc (.int .i64 (fitV (N (val a + val b))).2)), (.t 13, oX 58 f3 (fitV (N (val a * val b))).1), (.t 14, .sc (.int .i64 (fitV (N (val a * val b))).2)), (.t 15, oX 64 fq q), (.t 16, oX 3000064 fr t), (.t 17, .sc (.int .i64 e)), (.t 18, oX 71 f4 (fitV (N (Int.gcd (val a) (val b) : Nat))).1), (.t 19, .sc (.int .i64 (fitV (N (Int.gcd (val a) (val b) : Nat))).2))]) (fun _ => True) ?_ ?_
  · intro J hJ
    refine T ?_
    refine call_spoil 46 f1 ((fitV (trim a)).1) rfl hf1 (fitV_len _) Hv ?_ ?_
    · intro Z
      refine T ?_
      exact hJ _ () trivial Hv
    · rintro rfl
      rfl
  rintro ⟨⟩ r _
  refine w_cut (α := Unit) (fun _ => [(.t 0, U a), (.t 1, U b), (.t 5, .hs 29 2 0 (a.length + 2) 1), (.h 29, .blk 2 1 ((a ++ [7, 8]).map u32)), (.t 6, .hs 33 2 0 (b.length + 2) 1), (.h 33, .blk 2 1 ((b ++ [9, 10]).map u32)), (.h 58, oS f3 (fitV (N (val a * val b))).1), (.h 64, oS fq q), (.h 3000064, oS fr t), (.h 71, oS f4 (fitV (N (Int.gcd (val a) (val b) : Nat))).1), (.t 7, .hs 29 2 0 a.length 1), (.t 8, .hs 33 2 0 b.length 1), (.t 10, .sc (.int .i64 (fitV (trim a)).2)), (.t 11, oX 52 f2 (fitV (N (val a + val b))).1), (.t 12, .sc (.int .i64 (fitV (N (val a + val b))).2)), (.t 13, oX 58 f3 (fitV (N (val a * val b))).1), (.t 14, .sc (.int .i64 (fitV (N (val a * val b))).2)), (.t 15, oX 64 fq q), (.t 16, oX 3000064 fr t), (.t 17, .sc (.int .i64 e)), (.t 18, oX 71 f4 (fitV (N (Int.gcd (val a) (val b) : Nat))).1), (.t 19, .sc (.int .i64 (fitV (N (Int.gcd (val a) (val b) : Nat))).2))]) (fun _ => True) ?_ ?_
  · intro J hJ
    refine T ?_
    refine call_spoil 52 f2 ((fitV (N (val a + val b))).1) rfl hf2 (fitV_len _) Hv ?_ ?_
    · intro Z
      refine T ?_
      exact hJ _ () trivial Hv
    · rintro rfl
      rfl
  rintro ⟨⟩ r _
  refine w_cut (α := Unit) (fun _ => [(.t 0, U a), (.t 1, U b), (.t 5, .hs 29 2 0 (a.length + 2) 1), (.h 29, .blk 2 1 ((a ++ [7, 8]).map u32)), (.t 6, .hs 33 2 0 (b.length + 2) 1), (.h 33, .blk 2 1 ((b ++ [9, 10]).map u32)), (.h 64, oS fq q), (.h 3000064, oS fr t), (.h 71, oS f4 (fitV (N (Int.gcd (val a) (val b) : Nat))).1), (.t 7, .hs 29 2 0 a.length 1), (.t 8, .hs 33 2 0 b.length 1), (.t 10, .sc (.int .i64 (fitV (trim a)).2)), (.t 11, oX 52 f2 (fitV (N (val a + val b))).1), (.t 12, .sc (.int .i64 (fitV (N (val a + val b))).2)), (.t 13, oX 58 f3 (fitV (N (val a * val b))).1), (.t 14, .sc (.int .i64 (fitV (N (val a * val b))).2)), (.t 15, oX 64 fq q), (.t 16, oX 3000064 fr t), (.t 17, .sc (.int .i64 e)), (.t 18, oX 71 f4 (fitV (N (Int.gcd (val a) (val b) : Nat))).1), (.t 19, .sc (.int .i64 (fitV (N (Int.gcd (val a) (val b) : Nat))).2))]) (fun _ => True) ?_ ?_
  · intro J hJ
    refine T ?_
    refine call_spoil 58 f3 ((fitV (N (val a * val b))).1) rfl hf3 (fitV_len _) Hv ?_ ?_
    · intro Z
      refine T ?_
      exact hJ _ () trivial Hv
    · rintro rfl
      rfl
  rintro ⟨⟩ r _
  refine w_cut (α := Unit) (fun _ => [(.t 0, U a), (.t 1, U b), (.t 5, .hs 29 2 0 (a.length + 2) 1), (.h 29, .blk 2 1 ((a ++ [7, 8]).map u32)), (.t 6, .hs 33 2 0 (b.length + 2) 1), (.h 33, .blk 2 1 ((b ++ [9, 10]).map u32)), (.h 3000064, oS fr t), (.h 71, oS f4 (fitV (N (Int.gcd (val a) (val b) : Nat))).1), (.t 7, .hs 29 2 0 a.length 1), (.t 8, .hs 33 2 0 b.length 1), (.t 10, .sc (.int .i64 (fitV (trim a)).2)), (.t 11, oX 52 f2 (fitV (N (val a + val b))).1), (.t 12, .sc (.int .i64 (fitV (N (val a + val b))).2)), (.t 13, oX 58 f3 (fitV (N (val a * val b))).1), (.t 14, .sc (.int .i64 (fitV (N (val a * val b))).2)), (.t 15, oX 64 fq q), (.t 16, oX 3000064 fr t), (.t 17, .sc (.int .i64 e)), (.t 18, oX 71 f4 (fitV (N (Int.gcd (val a) (val b) : Nat))).1), (.t 19, .sc (.int .i64 (fitV (N (Int.gcd (val a) (val b) : Nat))).2))]) (fun _ => True) ?_ ?_
  · intro J hJ
    refine T ?_
    refine call_spoil 64 fq (q) rfl h1 h3 Hv ?_ ?_
    · intro Z
      refine T ?_
      exact hJ _ () trivial Hv
    · rintro rfl
      rfl
  rintro ⟨⟩ r _
  refine w_cut (α := Unit) (fun _ => [(.t 0, U a), (.t 1, U b), (.t 5, .hs 29 2 0 (a.length + 2) 1), (.h 29, .blk 2 1 ((a ++ [7, 8]).map u32)), (.t 6, .hs 33 2 0 (b.length + 2) 1), (.h 33, .blk 2 1 ((b ++ [9, 10]).map u32)), (.h 3000064, oS fr t), (.h 71, oS f4 (fitV (N (Int.gcd (val a) (val b) : Nat))).1), (.t 7, .hs 29 2 0 a.length 1), (.t 8, .hs 33 2 0 b.length 1), (.t 10, .sc (.int .i64 (fitV (trim a)).2)), (.t 11, oX 52 f2 (fitV (N (val a + val b))).1), (.t 12, .sc (.int .i64 (fitV (N (val a + val b))).2)), (.t 13, oX 58 f3 (fitV (N (val a * val b))).1), (.t 14, .sc (.int .i64 (fitV (N (val a * val b))).2)), (.t 16, oX 3000064 fr t), (.t 18, oX 71 f4 (fitV (N (Int.gcd (val a) (val b) : Nat))).1), (.t 19, .sc (.int .i64 (fitV (N (Int.gcd (val a) (val b) : Nat))).2))]) (fun _ => True) ?_ ?_
  · intro J hJ
    rcases h5 with ⟨rfl, rfl, hb0⟩ | rfl | rfl
    · cases fr with
      | true =>
        simp only [oX, oS, if_true]
        refine T (call_by (q_Divide a b ha hb (by omega) (by omega) hb0) ?_)
        refine T ?_
        refine call_g [] true (SpecG.of_spec (w_same (N (val a % val b)) h4) rfl rfl) trivial (frzGL_row (g := 1) (st := 2) (N (val a % val b)) [] (by rw [List.append_nil]; exact Hv) (by decide) rfl rfl) (by simp) (by simp [pOf]) rfl rfl rfl (fun _ => ⟨rfl, rfl⟩) ?_
        refine T ?_
        exact hJ _ () trivial (Hc rfl <| Hc rfl <| Hc rfl <| Hc rfl <| Hc rfl <| Hc rfl <| Hc rfl <| Hc rfl <| Hc rfl <| Hc rfl <| Hc rfl <| Hc rfl <| Hc rfl <| Hc rfl <| Hc rfl <| Hc rfl <| Hc rfl <| Hc rfl <| trivial)
      | false =>
        have et := h2 rfl
        simp only [oX, oS, Bool.false_eq_true, if_false]
        refine T (call_by (q_Divide a b ha hb (by omega) (by omega) hb0) ?_)
        rw [et]
        refine T ?_
        refine call_wk (WkL.cons Wk.nil (WkL.refl _)) (w_same [] (by decide)) ?_
        refine T ?_
        exact hJ _ () trivial (Hc rfl <| Hc rfl <| Hc rfl <| Hc rfl <| Hc rfl <| Hc rfl <| Hc rfl <| Hc rfl <| Hc rfl <| Hc rfl <| Hc rfl <| Hc rfl <| Hc rfl <| Hc rfl <| Hc rfl <| Hc rfl <| Hc rfl <| Hc rfl <| trivial)
    · refine T ?_
      exact hJ _ () trivial Hv
    · refine T ?_
      exact hJ _ () trivial Hv
  rintro ⟨⟩ r _
  refine w_cut (α := Unit) (fun _ => [(.t 0, U a), (.t 1, U b), (.t 5, .hs 29 2 0 (a.length + 2) 1), (.h 29, .blk 2 1 ((a ++ [7, 8]).map u32)), (.t 6, .hs 33 2 0 (b.length + 2) 1), (.h 33, .blk 2 1 ((b ++ [9, 10]).map u32)), (.h 71, oS f4 (fitV (N (Int.gcd (val a) (val b) : Nat))).1), (.t 7, .hs 29 2 0 a.length 1), (.t 8, .hs 33 2 0 b.length 1), (.t 10, .sc (.int .i64 (fitV (trim a)).2)), (.t 11, oX 52 f2 (fitV (N (val a + val b))).1), (.t 12, .sc (.int .i64 (fitV (N (val a + val b))).2)), (.t 13, oX 58 f3 (fitV (N (val a * val b))).1), (.t 14, .sc (.int .i64 (fitV (N (val a * val b))).2)), (.t 16, oX 3000064 fr t), (.t 18, oX 71 f4 (fitV (N (Int.gcd (val a) (val b) : Nat))).1), (.t 19, .sc (.int .i64 (fitV (N (Int.gcd (val a) (val b) : Nat))).2))]) (fun _ => True) ?_ ?_
  · intro J hJ
    refine T ?_
    refine call_spoil 3000064 fr (t) rfl h2 h4 Hv ?_ ?_
    · intro Z
      refine T ?_
      exact hJ _ () trivial Hv
    · rintro rfl
      rfl
  rintro ⟨⟩ r _
  refine w_cut (α := Unit) (fun _ => [(.t 0, U a), (.t 1, U b), (.t 5, .hs 29 2 0 (a.length + 2) 1), (.h 29, .blk 2 1 ((a ++ [7, 8]).map u32)), (.t 6, .hs 33 2 0 (b.length + 2) 1), (.h 33, .blk 2 1 ((b ++ [9, 10]).map u32)), (.t 7, .hs 29 2 0 a.length 1), (.t 8, .hs 33 2 0 b.length 1), (.t 10, .sc (.int .i64 (fitV (trim a)).2)), (.t 11, oX 52 f2 (fitV (N (val a + val b))).1), (.t 12, .sc (.int .i64 (fitV (N (val a + val b))).2)), (.t 13, oX 58 f3 (fitV (N (val a * val b))).1), (.t 14, .sc (.int .i64 (fitV (N (val a * val b))).2)), (.t 18, oX 71 f4 (fitV (N (Int.gcd (val a) (val b) : Nat))).1), (.t 19, .sc (.int .i64 (fitV (N (Int.gcd (val a) (val b) : Nat))).2))]) (fun _ => True) ?_ ?_
  · intro J hJ
    refine T ?_
    refine call_spoil 71 f4 ((fitV (N (Int.gcd (val a) (val b) : Nat))).1) rfl hf4 (fitV_len _) Hv ?_ ?_
    · intro Z
      refine T ?_
      exact hJ _ () trivial Hv
    · rintro rfl
      rfl
  rintro ⟨⟩ r _
  refine w_cut (α := Unit) (fun _ => [(.t 0, U a), (.t 1, U b), (.t 5, .hs 29 2 0 (a.length + 2) 1), (.h 29, .blk 2 1 ((a ++ [7, 8]).map u32)), (.t 6, .hs 33 2 0 (b.length + 2) 1), (.h 33, .blk 2 1 ((b ++ [9, 10]).map u32)), (.t 7, .hs 29 2 0 a.length 1), (.t 8, .hs 33 2 0 b.length 1), (.t 10, .sc (.int .i64 (fitV (trim a)).2)), (.t 11, oX 52 f2 (fitV (N (val a + val b))).1), (.t 12, .sc (.int .i64 (fitV (N (val a + val b))).2)), (.t 13, oX 58 f3 (fitV (N (val a * val b))).1), (.t 14, .sc (.int .i64 (fitV (N (val a * val b))).2)), (.t 18, oX 71 f4 (fitV (N (Int.gcd (val a) (val b) : Nat))).1), (.t 19, .sc (.int .i64 (fitV (N (Int.gcd (val a) (val b) : Nat))).2)), (.t 129, .sc (.bool false))]) (fun _ => True) ?_ ?_
  · intro J hJ
    refine T ?_
    refine call_g [] false (g_own a (by omega)) trivial rfl (by simp) (by simp [pOf]) rfl rfl rfl nofun ?_
    refine T ?_
    rw [row2]
    refine T ?_
    refine call_eq (by rw [U2]) (w_same2 a 7 8 (by omega)) ?_
    refine T ?_
    refine c_forget [(.t 0, U a), (.t 1, U b), (.t 5, .hs 29 2 0 (a.length + 2) 1), (.h 29, .blk 2 1 ((a ++ [7, 8]).map u32)), (.t 6, .hs 33 2 0 (b.length + 2) 1), (.h 33, .blk 2 1 ((b ++ [9, 10]).map u32)), (.t 7, .hs 29 2 0 a.length 1), (.t 8, .hs 33 2 0 b.length 1), (.t 10, .sc (.int .i64 (fitV (trim a)).2)), (.t 11, oX 52 f2 (fitV (N (val a + val b))).1), (.t 12, .sc (.int .i64 (fitV (N (val a + val b))).2)), (.t 13, oX 58 f3 (fitV (N (val a * val b))).1), (.t 14, .sc (.int .i64 (fitV (N (val a * val b))).2)), (.t 18, oX 71 f4 (fitV (N (Int.gcd (val a) (val b) : Nat))).1), (.t 19, .sc (.int .i64 (fitV (N (Int.gcd (val a) (val b) : Nat))).2)), (.t 121, .sc (.bool false)), (.t 122, .hs 33 2 0 (b.length + 2) 1)] (Hc rfl <| Hc rfl <| Hc rfl <| Hc rfl <| Hc rfl <| Hc rfl <| Hc rfl <| Hc rfl <| Hc rfl <| Hc rfl <| Hc rfl <| Hc rfl <| Hc rfl <| Hc rfl <| Hc rfl <| Hc rfl <| Hc rfl <| trivial) fun r => ?_
    refine call_g [] false (g_own b (by omega)) trivial rfl (by simp) (by simp [pOf]) rfl rfl rfl nofun ?_
    refine T ?_
    rw [row2]
    refine T ?_
    refine call_eq (by rw [U2]) (w_same2 b 9 10 (by omega)) ?_
    refine T ?_
    exact hJ _ () trivial Hv
  rintro ⟨⟩ r _
  refine TS ?_
  refine w_cut (α := Unit) (fun _ => [(.t 0, U a), (.t 1, U b), (.h 29, .blk 2 1 ((a ++ [7, 8]).map u32)), (.t 7, .hs 29 2 0 a.length 1), (.t 10, .sc (.int .i64 (fitV (trim a)).2)), (.t 11, oX 52 f2 (fitV (N (val a + val b))).1), (.t 12, .sc (.int .i64 (fitV (N (val a + val b))).2)), (.t 13, oX 58 f3 (fitV (N (val a * val b))).1), (.t 14, .sc (.int .i64 (fitV (N (val a * val b))).2)), (.t 18, oX 71 f4 (fitV (N (Int.gcd (val a) (val b) : Nat))).1), (.t 19, .sc (.int .i64 (fitV (N (Int.gcd (val a) (val b) : Nat))).2)), (.t 22, U (fitV (trim a)).1), (.t 23, .sc (.int .i64 (fitV (trim a)).2))]) (fun _ => True) ?_ ?_
  · intro J hJ
    refine T ?_
    refine call_eq (by rw [List.take_left]) (s_Norm a (by omega)) ?_
    refine T ?_
    exact hJ _ () trivial Hv
  rintro ⟨⟩ r _
  refine w_cut (α := Unit) (fun _ => [(.t 0, U a), (.t 10, .sc (.int .i64 (fitV (trim a)).2)), (.t 11, oX 52 f2 (fitV (N (val a + val b))).1), (.t 12, .sc (.int .i64 (fitV (N (val a + val b))).2)), (.t 13, oX 58 f3 (fitV (N (val a * val b))).1), (.t 14, .sc (.int .i64 (fitV (N (val a * val b))).2)), (.t 18, oX 71 f4 (fitV (N (Int.gcd (val a) (val b) : Nat))).1), (.t 19, .sc (.int .i64 (fitV (N (Int.gcd (val a) (val b) : Nat))).2)), (.t 22, U (fitV (trim a)).1), (.t 23, .sc (.int .i64 (fitV (trim a)).2)), (.t 24, U (fitV (trim a)).1), (.t 25, .sc (.int .i64 (fitV (trim a)).2))]) (fun _ => True) ?_ ?_
  · intro J hJ
    refine T (call_by (q_Fit a (by omega)) ?_)
    refine T ?_
    exact hJ _ () trivial Hv
  rintro ⟨⟩ r _
  have hsm := w_same (fitV (trim a)).1 (fitV_len _)
  generalize (fitV (trim a)).1 = X at *
  generalize (fitV (trim a)).2 = Y at *
  have k2 := fitV_or (N (val a + val b))
  generalize (fitV (N (val a + val b))).1 = X2 at *
  generalize (fitV (N (val a + val b))).2 = Y2 at *
  have k3 := fitV_or (N (val a * val b))
  generalize (fitV (N (val a * val b))).1 = X3 at *
  generalize (fitV (N (val a * val b))).2 = Y3 at *
  have k4 := fitV_or (N (Int.gcd (val a) (val b) : Nat))
  generalize (fitV (N (Int.gcd (val a) (val b) : Nat))).1 = X4 at *
  generalize (fitV (N (Int.gcd (val a) (val b) : Nat))).2 = Y4 at *
  clear hf1 hf2 hf3 hf4 h1 h2 h3 h4 h5
  generalize e3 : AV.sc (.int .i64 Y3) = Z3
  generalize e4 : AV.sc (.int .i64 Y4) = Z4
  refine T (call_by0 hsm ?_)
  rcases k2 with rfl | ⟨rfl, rfl⟩
  · refine T ?_
    refine v_forget [(.t 13, oX 58 f3 X3), (.t 18, oX 71 f4 X4), (.t 19, Z4), (.t 162, .sc (.bool true)), (.t 163, Z3)] (Hc rfl <| Hc rfl <| Hc rfl <| Hc rfl <| Hc rfl <| trivial) fun r => ?_
    rcases k3 with rfl | ⟨rfl, rfl⟩
    · subst e3
      refine T ?_
      refine v_forget [(.t 18, oX 71 f4 X4), (.t 171, .sc (.bool true)), (.t 172, Z4)] (Hc rfl <| Hc rfl <| Hc rfl <| trivial) fun r => ?_
      rcases k4 with rfl | ⟨rfl, rfl⟩
      · subst e4
        refine T ?_
        refine (r_ret ?_)
        rw [Try.results9]
        refine R ?_
        exact Wk.refl _
      · subst e4
        refine T ?_
        refine len_step 71 f4 ?_
        refine T ?_
        refine (r_ret ?_)
        rw [Try.results9]
        refine R ?_
        exact Wk.refl _
    · subst e3
      refine T ?_
      refine len_step 58 f3 ?_
      refine T ?_
      refine v_forget [(.t 18, oX 71 f4 X4), (.t 171, .sc (.bool true)), (.t 172, Z4)] (Hc rfl <| Hc rfl <| Hc rfl <| trivial) fun r => ?_
      rcases k4 with rfl | ⟨rfl, rfl⟩
      · subst e4
        refine T ?_
        refine (r_ret ?_)
        rw [Try.results9]
        refine R ?_
        exact Wk.refl _
      · subst e4
        refine T ?_
        refine len_step 71 f4 ?_
        refine T ?_
        refine (r_ret ?_)
        rw [Try.results9]
        refine R ?_
        exact Wk.refl _
  · refine T ?_
    refine len_step 52 f2 ?_
    refine T ?_
    refine v_forget [(.t 13, oX 58 f3 X3), (.t 18, oX 71 f4 X4), (.t 19, Z4), (.t 162, .sc (.bool true)), (.t 163, Z3)] (Hc rfl <| Hc rfl <| Hc rfl <| Hc rfl <| Hc rfl <| trivial) fun r => ?_
    rcases k3 with rfl | ⟨rfl, rfl⟩
    · subst e3
      refine T ?_
      refine v_forget [(.t 18, oX 71 f4 X4), (.t 171, .sc (.bool true)), (.t 172, Z4)] (Hc rfl <| Hc rfl <| Hc rfl <| trivial) fun r => ?_
      rcases k4 with rfl | ⟨rfl, rfl⟩
      · subst e4
        refine T ?_
        refine (r_ret ?_)
        rw [Try.results9]
        refine R ?_
        exact Wk.refl _
      · subst e4
        refine T ?_
        refine len_step 71 f4 ?_
        refine T ?_
        refine (r_ret ?_)
        rw [Try.results9]
        refine R ?_
        exact Wk.refl _
    · subst e3
      refine T ?_
      refine len_step 58 f3 ?_
      refine T ?_
      refine v_forget [(.t 18, oX 71 f4 X4), (.t 171, .sc (.bool true)), (.t 172, Z4)] (Hc rfl <| Hc rfl <| Hc rfl <| trivial) fun r => ?_
      rcases k4 with rfl | ⟨rfl, rfl⟩
      · subst e4
        refine T ?_
        refine (r_ret ?_)
        rw [Try.results9]
        refine R ?_
        exact Wk.refl _
      · subst e4
        refine T ?_
        refine len_step 71 f4 ?_
        refine T ?_
        refine (r_ret ?_)
        rw [Try.results9]
        refine R ?_
        exact Wk.refl _
end Go.Ab
end
