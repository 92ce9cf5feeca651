import Derived.Test.YtgffficaoioljaaRbSo9
import Derived.Test.YtgffficaoioljaaRbU
import Derived.Test.YtgffficaoioljaaRbAbTs
set_option linter.all false
section
namespace Go.Ab
open Go Go.Proofs Go.Proofs.Ytgffficaoioljaa.Pl
set_option maxRecDepth 100000
set_option maxHeartbeats 8000000
theorem w_forget {P : Program} {B : Nat} {c : Code} {Q : Exit → S → Prop} {s : S} (l : List (Loc × AV)) (h : Has l s) (hK : ∀ r, AWP P B c Q (kn l r)) : AWP P B c Q s := by
  have := hK s
  rwa [kn_self h] at this
theorem q_forget {Q : S → Prop} {s : S} (l : List (Loc × AV)) (h : Has l s) (hK : ∀ r, Q (kn l r)) : Q s := by
  have := hK s
  rwa [kn_self h] at this
theorem a_forget2 {P : Program} {B : Nat} {ops : Array Oper} {K : S → Prop} {rest : List Oper} {s : S} (l : List (Loc × AV)) (h : Has l s) (hK : ∀ r, AOps0 P B ops K rest (kn l r)) : AOps0 P B ops K rest s := by
  have := hK s
  rwa [kn_self h] at this
theorem Hc2 {s : S} {l : Loc} {v : AV} {t : List (Loc × AV)} (h : s l = v) (k : Has t s) : Has ((l, v) :: t) s := ⟨h, k⟩
theorem frzGL_RA {h : Nat → AV} {b : Bool} {k1 g1 st1 n1 k2 g2 st2 n2 : Nat} (l1 e1 l2 e2 : List Int) {xs ys : List AV} {ks : List Nat} (h1 : h k1 = .blk g1 st1 ((l1 ++ e1).map u32)) (s1 : st1 ≠ 0) (m1 : n1 = l1.length) (h2 : h k2 = .blk g2 st2 ((l2 ++ e2).map u32)) (s2 : st2 ≠ 0) (m2 : n2 = l2.length) (hx : frzGL h [] xs = some (ys, ks)) :
    frzGL h [] (.agg [.sc (.bool b), .hs k1 g1 0 n1 1, .hs k2 g2 0 n2 1] :: xs) = some (RA b l1 l2 :: ys, k1 :: k2 :: ks) := by
  have a := frzGL_sc (v := .bool b) (frzGL_row l1 e1 h1 s1 m1 (frzGL_row l2 e2 h2 s2 m2 (show frzGL h [] [] = some ([], []) from rfl)))
  have a' : frzG h [] (.agg [.sc (.bool b), .hs k1 g1 0 n1 1, .hs k2 g2 0 n2 1]) = some (RA b l1 l2, [k1, k2]) := by
    simp only [frzG, a]
  simp only [frzGL, a', hx]
  rfl
theorem q2_same (p : RT) (hp : p.2.1.length ≤ 4611686018427387904 ∧ p.2.2.length ≤ 4611686018427387904) : Spec Try.prog 54 [RA p.1 p.2.1 p.2.2, RA p.1 p.2.1 p.2.2] (.sc (.bool true)) := by
  have := q2_Same p p hp hp
  rwa [decide_eq_true rfl] at this
theorem g_kept (b : Bool) (n d : List Int) (ln : n.length ≤ 35184372087820) (ld : d.length ≤ 35184372087820) : SpecG Try.prog 72 [.agg [.sc (.bool b), .hs 1000000 1 0 n.length 1, .hs 1000001 1 0 d.length 1], RA b n d] [(n ++ [51, 52]).map u32, (d ++ [53, 54]).map u32] (.sc (.bool true)) [(1, (n ++ [51, 52]).map u32), (1, (d ++ [53, 54]).map u32)] := by
  have e1 : (n ++ [(51 : Int), 52]).length = n.length + 2 := by simp
  have e2 : (d ++ [(53 : Int), 54]).length = d.length + 2 := by simp
  have v1 : (n ++ [(51 : Int), 52]).getD n.length 0 = 51 := by simp [List.getD_eq_getElem?_getD]
  have v2 : (n ++ [(51 : Int), 52]).getD (n.length + 1) 0 = 52 := by simp [List.getD_eq_getElem?_getD]
  have v3 : (d ++ [(53 : Int), 54]).getD d.length 0 = 53 := by simp [List.getD_eq_getElem?_getD]
  have v4 : (d ++ [(53 : Int), 54]).getD (d.length + 1) 0 = 54 := by simp [List.getD_eq_getElem?_getD]
  refine specG_of_awp mixed Try.func72 rfl Try.call72 (by kernel_rfl) (by simp) rfl rfl (by simp) ?_
  refine w_forget [(.t 0, .agg [.sc (.bool b), .hs 1000000 1 0 n.length 1, .hs 1000001 1 0 d.length 1]), (.t 1, RA b n d), (.h 2, .blk 0 0 []), (.h 3, .blk 0 0 []), (.h 1000000, .blk 1 2 ((n ++ [51, 52]).map u32)), (.h 1000001, .blk 1 2 ((d ++ [53, 54]).map u32))] (Hc2 rfl <| Hc2 rfl <| Hc2 rfl <| Hc2 rfl <| Hc2 rfl <| Hc2 rfl <| trivial) fun r => ?_
  refine T ?_
  refine call_g [] true (SpecG.of_spec (q2_same (b, n, d) ⟨by show n.length ≤ _; omega, by show d.length ≤ _; omega⟩) rfl rfl) trivial (frzGL_RA (st1 := 2) (st2 := 2) n [51, 52] d [53, 54] Hv (by decide) rfl Hv (by decide) rfl rfl) (by simp) (by simp [pOf]) rfl rfl rfl (fun _ => ⟨rfl, rfl⟩) ?_
  refine a_forget2 [(.t 2, .hp 2 1 0), (.h 2, .blk 1 2 [.sc (.bool b), .hs 1000000 1 0 n.length 1, .hs 1000001 1 0 d.length 1]), (.t 3, .hp 3 1 0), (.h 3, .blk 1 2 [.sc (.bool b), U n, U d]), (.t 5, .hs 1000000 1 0 (n.length + 2) 1), (.t 6, .hs 1000001 1 0 (d.length + 2) 1), (.h 1000000, .blk 1 2 ((n ++ [51, 52]).map u32)), (.h 1000001, .blk 1 2 ((d ++ [53, 54]).map u32)), (.t 23, .sc (.bool true))] (Hc2 rfl <| Hc2 rfl <| Hc2 rfl <| Hc2 rfl <| Hc2 rfl <| Hc2 rfl <| Hc2 rfl <| Hc2 rfl <| Hc2 rfl <| trivial) fun r => ?_
  refine TL ?_
  refine q_forget (Q := RetG Try.prog Try.f72 _ _ _ .ret) [(.t 4, .sc (.bool true)), (.h 1000000, .blk 1 2 ((n ++ [51, 52]).map u32)), (.h 1000001, .blk 1 2 ((d ++ [53, 54]).map u32))] (Hc2 rfl <| Hc2 rfl <| Hc2 rfl <| trivial) fun r => ?_
  refine (r_retG [(1000000, 1), (1000001, 1)] (by simp) ?_ ?_)
  · exact ⟨rfl, fun _ => rfl, rfl, fun _ => rfl, trivial⟩
  rw [Try.results72]
  refine RG ?_
  exact Wk.refl _
end Go.Ab
end
