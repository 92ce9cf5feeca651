import Derived.Test.YtgffficaoioljaaRbSo8
import Derived.Test.YtgffficaoioljaaRbSo11
set_option linter.all false
section
namespace Go.Ab
open Go Go.Proofs Go.Proofs.Ytgffficaoioljaa.Pl
set_option maxRecDepth 100000
set_option maxHeartbeats 8000000
section
variable {P : Program} {B : Nat} {ops : Array Oper} {K : S → Prop} {rest : List Oper} {s : S} {x : Option (List AV × List Nat)}
theorem call_limr (k k' : Nat) {d : Tmp} {F : FuncId} {raw xs : List AV} {ks : List Nat} {p : (Bool × List Int × List Int) × Int} (hP : P = Try.prog) (hk : B + d = k) (hk' : B + d + 3000000 = k') (hL : LimR F xs p) (h4 : frzGL (hall s) [] raw = some (xs, ks)) (hp : AV.pureL xs = true) (h6 : AV.kpL (okL []) xs = true) (h7 : AV.renL (asg [] []) xs = xs)
    (hS : hall s k = .blk 0 0 []) (hT : hall s k' = .blk 0 0 [])
    (hK : ∀ f g : Bool, (f = false → p.1.2.1 = []) → (g = false → p.1.2.2 = []) → (f = true → g = true) →
      AOps0 P B ops K rest (put (upd (upd s (.h k) (oS f p.1.2.1)) (.h k') (oS g p.1.2.2)) (some d) (.tup [.agg [.sc (.bool p.1.1), oX k f p.1.2.1, oX k' g p.1.2.2], .sc (.int .i64 p.2)]))) : ACall P B ops K rest s (some d) F raw x := by
  subst hP hk hk'
  rcases hL with ⟨k1, k2, k3⟩ | ⟨k1, k2, k3⟩ | ⟨k1, k3⟩
  · have e1 : p.1.2.1 = [] := by rw [k2]
    have e2 : p.1.2.2 = [] := by rw [k2]
    have := hK false false (fun _ => e1) (fun _ => e2) nofun
    rw [oS, if_neg (by decide), upd_self (show s (.h (B + d)) = .blk 0 0 [] from hS), oS, if_neg (by decide), upd_self (show s (.h (B + d + 3000000)) = .blk 0 0 [] from hT), show p.1.1 = false by rw [k2]] at this
    exact call_g [] true (SpecG.of_spec k3 hp rfl) trivial h4 (by simp) (by simp [pOf]) (by simp) h6 h7 (fun _ => ⟨rfl, rfl⟩) this
  · have := hK false true (fun _ => k2) nofun nofun
    rw [oS, if_neg (by decide), upd_self (show s (.h (B + d)) = .blk 0 0 [] from hS), k1] at this
    refine call_gj 1 [] true k3 trivial h4 (by simp) (by simp [pOf]) (by simp) h6 h7 (fun _ => ⟨rfl, by simp [AV.bare]⟩) ?_
    simp only [if_true, upsOf, pOf, Nat.mul_one, List.nil_append]
    rw [show ∀ (y : Nat × AV), appH s [y] = upd s (.h y.1) y.2 from fun _ => rfl, hT]
    exact this
  · have := hK true true nofun nofun (fun _ => rfl)
    rw [k1] at this
    refine call_g [] true k3 trivial h4 (by simp) (by simp [pOf]) (by simp) h6 h7 (fun _ => ⟨rfl, by simp [AV.bare]⟩) ?_
    simp only [if_true, upsOf, pOf, List.nil_append]
    rw [show ∀ (y z : Nat × AV), appH s [y, z] = upd (upd s (.h y.1) y.2) (.h z.1) z.2 from fun _ _ => rfl, hS, hT]
    exact this
theorem call_spoilR {d : Option Tmp} (k k' : Nat) (f g b : Bool) (n e : List Int) (hP : P = Try.prog) (hne : k ≠ k') (hfg : f = true → g = true) (ln : n.length ≤ 16) (le : e.length ≤ 16) (h0 : hall s k = oS f n) (h1 : hall s k' = oS g e) (hd : ∃ d0, d = some d0)
    (hK : ∀ Z Z', AOps0 P B ops K rest (put (upd (upd s (.h k) Z) (.h k') Z') d (.tup []))) (hx : f = false → g = false → x = some ([.agg [.sc (.bool b), nilV, nilV]], [])) : ACall P B ops K rest s d 73 [.agg [.sc (.bool b), oX k f n, oX k' g e]] x := by
  subst hP
  obtain ⟨d0, rfl⟩ := hd
  cases f with
  | false =>
    cases g with
    | false =>
      have := hK (.blk 0 0 []) (.blk 0 0 [])
      rw [upd_self (show s (.h k) = .blk 0 0 [] from h0), upd_self (show s (.h k') = .blk 0 0 [] from h1)] at this
      rw [hx rfl rfl]
      exact call_by (n_spoil2 b) this
    | true =>
      have := hK (.blk 0 0 []) (.blk (1 + (21 - 1)) 2 ((spR 91 93 e.length 20).map u32))
      rw [upd_self (show s (.h k) = .blk 0 0 [] from h0)] at this
      have e4 : frzGL (hall s) ([(k', 1)].map (·.1)) [.agg [.sc (.bool b), oX k false n, oX k' true e]] = some ([.agg [.sc (.bool b), nilV, .hs k' 1 0 e.length 1]], []) := by simp [oX, frzGL, frzG]
      refine call_g [(k', 1)] false (g_spoil1 b e le) ⟨h1, all_u32f _, trivial⟩ e4 (by simp) (by simp [pOf]) rfl ?_ ?_ nofun ?_
      · simp [AV.kpL, AV.kp, okL]
      · simp [AV.renL, AV.ren, asg, nmI, KA]
      · exact this
  | true =>
    obtain rfl : g = true := hfg rfl
    have := hK (.blk (1 + (21 - 1)) 2 ((spR 90 92 n.length 20).map u32)) (.blk (1 + (21 - 1)) 2 ((spR 91 93 e.length 20).map u32))
    have e4 : frzGL (hall s) ([(k, 1), (k', 1)].map (·.1)) [.agg [.sc (.bool b), oX k true n, oX k' true e]] = some ([.agg [.sc (.bool b), .hs k 1 0 n.length 1, .hs k' 1 0 e.length 1]], []) := by simp [oX, frzGL, frzG]
    refine call_g [(k, 1), (k', 1)] false (g_spoil2 b n e ln le) ⟨h0, all_u32f _, h1, all_u32f _, trivial⟩ e4 (by simp) (by simp [pOf, hne]) rfl ?_ ?_ nofun ?_
    · simp [AV.kpL, AV.kp, okL]
    · simp [AV.renL, AV.ren, asg, nmI, KA, hne]
    · exact this
theorem frzGL_RS1 {h : Nat → AV} {b : Bool} {k g st k1 g1 st1 n1 k2 g2 st2 n2 : Nat} (l1 e1 l2 e2 : List Int) (h0 : h k = .blk g st [.sc (.bool b), .hs k1 g1 0 n1 1, .hs k2 g2 0 n2 1]) (s0 : st ≠ 0) (h1 : h k1 = .blk g1 st1 ((l1 ++ e1).map u32)) (s1 : st1 ≠ 0) (m1 : n1 = l1.length) (h2 : h k2 = .blk g2 st2 ((l2 ++ e2).map u32)) (s2 : st2 ≠ 0) (m2 : n2 = l2.length) :
    frzGL h [] [.hs k g 0 1 3] = some ([RS [(b, l1, l2)]], [k, k1, k2]) := by
  have r1 := frz_row l1 e1 h1 s1 m1
  have r2 := frz_row l2 e2 h2 s2 m2
  have c : frzL h [.sc (.bool b), .hs k1 g1 0 n1 1, .hs k2 g2 0 n2 1] = some ([.sc (.bool b), U l1, U l2], [k1, k2]) := by
    simp only [frzL, r1, r2]
    rfl
  have n0 : frz h (.hs k g 0 1 3) = none := by
    simp only [frz, h0]
    rw [if_neg]
    rintro ⟨_, _, _, h⟩
    simp [AV.fz] at h
  have d : frzD h k g 0 1 3 = some (.vs 1 [.sc (.bool b), U l1, U l2], [k, k1, k2]) := by
    simp only [frzD, h0]
    rw [if_pos ⟨trivial, s0, by simp⟩]
    show (match frzL h [.sc (.bool b), .hs k1 g1 0 n1 1, .hs k2 g2 0 n2 1] with
      | some (ys, ks) => if ys.all AV.fz = true then some (AV.vs 1 ys, k :: ks) else none
      | none => none) = _
    rw [c]
    show (if [AV.sc (.bool b), U l1, U l2].all AV.fz = true then _ else _) = _
    rw [if_pos (by simp [AV.fz, oneV, U])]
  have e : frzG h [] (.hs k g 0 1 3) = some (.vs 1 [.sc (.bool b), U l1, U l2], [k, k1, k2]) := by
    simp only [frzG, List.contains_nil, Bool.false_eq_true, if_false, n0, frzE, d]
  simp only [frzGL, e]
  rfl
end
end Go.Ab
end
