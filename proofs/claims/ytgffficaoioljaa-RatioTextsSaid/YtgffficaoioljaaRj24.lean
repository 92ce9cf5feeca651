import Derived.Test.YtgffficaoioljaaRj23
import Derived.Test.YtgffficaoioljaaRj21
import Derived.Test.YtgffficaoioljaaRj22
import Derived.Test.YtgffficaoioljaaRj19
import Derived.Test.YtgffficaoioljaaRj16
import Derived.Test.YtgffficaoioljaaRj17
import Derived.Test.YtgffficaoioljaaRj13
import Derived.Test.YtgffficaoioljaaRj12
import Derived.Laws.Closers25b
section
namespace Go.Proofs.Ytgffficaoioljaa.PlN
open Go.RowKit Go.Proofs.Ytgffficaoioljaa.P Go.Proofs.Ytgffficaoioljaa.Pl Go.Proofs.Ytgffficaoioljaa.PlA Go.Proofs.YtgffficaoioljaaW.PrintWords Go.Proofs.YtgffficaoioljaaW.PrintLast Go.Proofs.YtgffficaoioljaaW.PrintMore
set_option linter.unusedVariables false
theorem class_f (x : Int) : ∃ c, ratio_class.f x = some c ∧ (c = 2 ↔ 48 ≤ x ∧ x ≤ 57) ∧ (c = 1 ↔ x = 43 ∨ x = 45) ∧ (c = 3 ↔ x = 47) := by
 unfold ratio_class.f
 by_cases h1 : x < 43
 ·rw [if_pos h1]; exact ⟨0, rfl, by omega, by omega, by omega⟩
 ·rw [if_neg h1]
  by_cases h2 : 57 < x
  ·rw [if_pos h2]; exact ⟨0, rfl, by omega, by omega, by omega⟩
  ·rw [if_neg h2]
   have hc : x = 43 ∨ x = 44 ∨ x = 45 ∨ x = 46 ∨ x = 47 ∨ x = 48 ∨ x = 49 ∨ x = 50 ∨ x = 51 ∨ x = 52 ∨ x = 53 ∨ x = 54 ∨ x = 55 ∨ x = 56 ∨ x = 57 := by omega
   rcases hc with rfl | rfl | rfl | rfl | rfl | rfl | rfl | rfl | rfl | rfl | rfl | rfl | rfl | rfl | rfl
   all_goals exact ⟨_, rfl, by decide, by decide, by decide⟩
def nrun (s : ByteArray) : Nat → Nat → Nat → Nat × Nat
 | 0, p, v => (v, p)
 | f + 1, p, v => if 48 ≤ bt s (p : Int) ∧ bt s (p : Int) ≤ 57 then nrun s f (p + 1) (10 * v + (bt s (p : Int) - 48).toNat) else (v, p)
theorem nrun_ge (s : ByteArray) : ∀ (f p v : Nat), p ≤ (nrun s f p v).2 ∧ (nrun s f p v).2 ≤ p + f
 | 0, p, v => ⟨Nat.le_refl _, Nat.le_refl _⟩
 | f + 1, p, v => by
  unfold nrun
  split
  ·have := nrun_ge s f (p + 1) (10 * v + (bt s (p : Int) - 48).toNat)
   omega
  ·exact ⟨Nat.le_refl _, by simp⟩
theorem nd_stop (s : ByteArray) (x1 : Int) (X : List Int) (p : Nat) (h : ¬ p < s.size ∨ ¬ (48 ≤ bt s (p : Int) ∧ bt s (p : Int) ≤ 57)) : Ev (fun k => ratio_natDigits.l0 k s x1 X (p : Int)) (X, (p : Int), decide ((p : Int) > x1)) := by
 have e : ∀ k, ratio_natDigits.j1 (k + 1) s x1 X (p : Int) false = some (X, (p : Int), decide ((p : Int) > x1)) := fun k => by
  simp only [ratio_natDigits.j1]
  rfl
 by_cases c : p < s.size
 ·obtain ⟨t, ht, h2, _⟩ := class_f (bt s (p : Int))
  have ht2 : (t == 2) = false := by
   have : t ≠ 2 := fun e => (h.resolve_left (fun h => h c)) (h2.1 e)
   simp [this]
  refine Ev.step (f := fun k => ratio_natDigits.j1 k s x1 X (p : Int) false) (fun k => ?_) (Ev.step e (Ev.now _))
  simp only [ratio_natDigits.l0]
  rw [if_pos (by omega), if_pos (by omega), ht]
  show ratio_natDigits.j1 k s x1 X (p : Int) (t == 2) = _
  rw [ht2]
 ·refine Ev.step (f := fun k => ratio_natDigits.j1 k s x1 X (p : Int) false) (fun k => ?_) (Ev.step e (Ev.now _))
  simp only [ratio_natDigits.l0]
  rw [if_neg (by omega)]
theorem nd_step (s : ByteArray) (x1 : Int) (X : List Int) (v p : Nat) (hs : s.size ≤ 4096) (hp : p < s.size) (hd : 48 ≤ bt s (p : Int) ∧ bt s (p : Int) ≤ 57) (hX : Is X (v : Int)) (hl : X.length ≤ 4096) {R : List Int × Int × Bool}
  (h : ∀ Y, Is Y ((10 * v + (bt s (p : Int) - 48).toNat : Nat) : Int) → Y.length ≤ X.length + 1 → Ev (fun k => ratio_natDigits.l0 k s x1 Y ((p + 1 : Nat) : Int)) R) : Ev (fun k => ratio_natDigits.l0 k s x1 X (p : Int)) R := by
 obtain ⟨t, ht, h2, _⟩ := class_f (bt s (p : Int))
 have ht2 : (t == 2) = true := by rw [h2.2 hd]; rfl
 refine Ev.step (f := fun k => ratio_natDigits.j1 k s x1 X (p : Int) true) (fun k => ?_) ?_
 ·simp only [ratio_natDigits.l0]
  rw [if_pos (by omega), if_pos (by omega), ht]
  show ratio_natDigits.j1 k s x1 X (p : Int) (t == 2) = _
  rw [ht2]
 ·have e1 : (bt s (p : Int) - 48) % 256 = bt s (p : Int) - 48 := by omega
  have e2 : wrap64 ((p : Int) + 1) = ((p + 1 : Nat) : Int) := winc (by omega)
  generalize hb : bt s (p : Int) = b at *
  have eb : ((b - 48).toNat : Int) = b - 48 := Int.toNat_of_nonneg (by omega)
  by_cases c : b - 48 > 0 ∨ 0 < X.length
  ·have hI : Is (pushOf X (b - 48)) ((10 * v + (b - 48).toNat : Nat) : Int) := by
    have := pushOf_is hX (d := b - 48) (by omega)
    rw [show ((10 * v + (b - 48).toNat : Nat) : Int) = 10 * (v : Int) + (b - 48) by omega]
    exact this
   have hL := pushOf_len hX.wf (d := b - 48) (by omega)
   refine Ev.step (f := fun k => (nats_Push.f k X (b - 48)).bind fun t => ratio_natDigits.l0 k s x1 t ((p + 1 : Nat) : Int)) (fun k => ?_) (Ev.bind (push X (b - 48) hX.wf (by omega) (by omega)) (h _ hI hL))
   simp only [ratio_natDigits.j1]
   rw [if_pos trivial, if_pos (by omega), if_pos (by omega), hb, e1, e2]
   by_cases c1 : b - 48 > 0
   ·rw [if_pos c1]
   ·rw [if_neg c1, if_pos (by omega)]
  ·have hX0 : X = [] := List.eq_nil_of_length_eq_zero (by omega)
   have hv : (v : Int) = 0 := hX.zero_iff.1 hX0
   refine Ev.step (f := fun k => ratio_natDigits.l0 k s x1 X ((p + 1 : Nat) : Int)) (fun k => ?_) (h X ?_ (by omega))
   ·simp only [ratio_natDigits.j1]
    rw [if_pos trivial, if_pos (by omega), if_pos (by omega), hb, e1, e2, if_neg (by omega), if_neg (by omega)]
   ·rw [show ((10 * v + (b - 48).toNat : Nat) : Int) = (v : Int) by omega]
    exact hX
theorem natd (s : ByteArray) (x1 : Int) (hs : s.size ≤ 4096) : ∀ (f p v : Nat) (X : List Int), f + p = s.size → Is X (v : Int) → X.length ≤ p →
  Ev (fun k => ratio_natDigits.l0 k s x1 X (p : Int)) (L (nrun s f p v).1, ((nrun s f p v).2 : Int), decide (((nrun s f p v).2 : Int) > x1))
 | 0, p, v, X, hp, hX, hl => by
  rw [show nrun s 0 p v = (v, p) from rfl, ← eqL hX]
  exact nd_stop s x1 X p (.inl (by omega))
 | f + 1, p, v, X, hp, hX, hl => by
  by_cases c : 48 ≤ bt s (p : Int) ∧ bt s (p : Int) ≤ 57
  ·have e : nrun s (f + 1) p v = nrun s f (p + 1) (10 * v + (bt s (p : Int) - 48).toNat) := by
    conv => lhs; unfold nrun
    rw [if_pos c]
   rw [e]
   exact nd_step s x1 X v p hs (by omega) c hX (by omega) (fun Y hY hYl => natd s x1 hs f (p + 1) _ Y (by omega) hY (by omega))
  ·have e : nrun s (f + 1) p v = (v, p) := by
    conv => lhs; unfold nrun
    rw [if_neg c]
   rw [e, ← eqL hX]
   exact nd_stop s x1 X p (.inr c)
theorem natDigits (s : ByteArray) (hs : s.size ≤ 4096) (p : Nat) (hp : p ≤ s.size) :
  Ev (fun k => ratio_natDigits.f k s (p : Int)) (L (nrun s (s.size - p) p 0).1, ((nrun s (s.size - p) p 0).2 : Int), decide (((nrun s (s.size - p) p 0).2 : Int) > (p : Int))) :=
 natd s (p : Int) hs (s.size - p) p 0 [] (by omega) Is.nil (by simp)
def rdAt (s : ByteArray) (neg : Bool) (p : Nat) : Bool × List Int × List Int × Int :=
 if (nrun s (s.size - p) p 0).2 ≤ p then (false, [], [], 21)
 else if (nrun s (s.size - p) p 0).2 < s.size then
  (if bt s ((nrun s (s.size - p) p 0).2 : Int) = 47 then
   (if (nrun s (s.size - ((nrun s (s.size - p) p 0).2 + 1)) ((nrun s (s.size - p) p 0).2 + 1) 0).2 ≤ (nrun s (s.size - p) p 0).2 + 1 ∨ (nrun s (s.size - ((nrun s (s.size - p) p 0).2 + 1)) ((nrun s (s.size - p) p 0).2 + 1) 0).2 < s.size ∨ (nrun s (s.size - ((nrun s (s.size - p) p 0).2 + 1)) ((nrun s (s.size - p) p 0).2 + 1) 0).1 = 0 then (false, [], [], 21)
   else mkOf neg (nrun s (s.size - p) p 0).1 (nrun s (s.size - ((nrun s (s.size - p) p 0).2 + 1)) ((nrun s (s.size - p) p 0).2 + 1) 0).1)
  else (false, [], [], 21))
 else mkOf neg (nrun s (s.size - p) p 0).1 1
theorem L_len {s : ByteArray} (hs : s.size ≤ 4096) : ∀ (f p v : Nat), f + p = s.size → (L v).length ≤ p → (L (nrun s f p v).1).length ≤ s.size
 | 0, p, v, hp, h => by rw [show nrun s 0 p v = (v, p) from rfl]; show (L v).length ≤ _; omega
 | f + 1, p, v, hp, h => by
  by_cases c : 48 ≤ bt s (p : Int) ∧ bt s (p : Int) ≤ 57
  ·have e : nrun s (f + 1) p v = nrun s f (p + 1) (10 * v + (bt s (p : Int) - 48).toNat) := by
    conv => lhs; unfold nrun
    rw [if_pos c]
   rw [e]
   refine L_len hs f (p + 1) _ (by omega) ?_
   have hI := pushOf_is (L_is v) (d := bt s (p : Int) - 48) (by omega)
   have hL := pushOf_len (L_is v).wf (d := bt s (p : Int) - 48) (by omega)
   have e2 : pushOf (L v) (bt s (p : Int) - 48) = L (10 * v + (bt s (p : Int) - 48).toNat) := eqL (by rw [show ((10 * v + (bt s (p : Int) - 48).toNat : Nat) : Int) = 10 * (v : Int) + (bt s (p : Int) - 48) by omega]; exact hI)
   rw [← e2]
   omega
  ·have e : nrun s (f + 1) p v = (v, p) := by
    conv => lhs; unfold nrun
    rw [if_neg c]
   rw [e]
   show (L v).length ≤ _
   omega
theorem makeL (neg : Bool) (n d : Nat) (hn : (L n).length ≤ 4096) (hd : (L d).length ≤ 4096) : Ev (fun k => ratio_Make.f k neg (L n) (L d)) (mkOf neg n d) := by
 have := make neg (L n) (L d) (L_is n).wf (L_is d).wf (by omega) (by omega)
 rw [(L_is n).val, (L_is d).val, Int.toNat_natCast, Int.toNat_natCast] at this
 exact this
theorem read_j3 (neg : Bool) (n d : Nat) (hn : (L n).length ≤ 4096) (hd : (L d).length ≤ 4096) : Ev (fun k => ratio_Read.j3 k neg (L n) (L d)) (mkOf neg n d) := by
 refine Ev.step (f := fun k => (ratio_Make.f k neg (L n) (L d)).bind fun t => some t) (fun k => ?_) (Ev.bind (makeL neg n d hn hd) (Ev.now _))
 simp only [ratio_Read.j3]
theorem read_j2_bad (neg : Bool) (n d : List Int) : Ev (fun k => ratio_Read.j2 k neg n d true) (false, [], [], 21) := by
 refine Ev.step (f := fun k => some (false, [], [], 21)) (fun k => ?_) (Ev.now _)
 simp only [ratio_Read.j2]
 rfl
theorem read_j2 (neg : Bool) (n d : Nat) (hn : (L n).length ≤ 4096) (hd : (L d).length ≤ 4096) : Ev (fun k => ratio_Read.j2 k neg (L n) (L d) false) (mkOf neg n d) := by
 refine Ev.step (f := fun k => ratio_Read.j3 k neg (L n) (L d)) (fun k => ?_) (read_j3 neg n d hn hd)
 simp only [ratio_Read.j2]
 rfl
theorem read_j1 (s : ByteArray) (hs : s.size ≤ 4096) (neg : Bool) (p : Nat) (hp : p ≤ s.size) : Ev (fun k => ratio_Read.j1 k s neg (p : Int)) (rdAt s neg p) := by
 have h1 := natDigits s hs p hp
 have hg := nrun_ge s (s.size - p) p 0
 have hL := L_len hs (s.size - p) p 0 (by omega) (by rw [zero_L]; simp)
 unfold rdAt
 generalize ha : nrun s (s.size - p) p 0 = a at *
 refine Ev.step (fun k => rfl) (Ev.bind h1 ?_)
 by_cases c1 : a.2 ≤ p
 ·rw [if_pos c1]
  exact Ev.congr (fun k => if_neg (show ¬ decide ((a.2 : Int) > (p : Int)) = true by simp; omega)) (Ev.now _)
 ·rw [if_neg c1]
  refine Ev.congr (fun k => if_pos (show decide ((a.2 : Int) > (p : Int)) = true by simp; omega)) ?_
  by_cases c2 : a.2 < s.size
  ·rw [if_pos c2]
   refine Ev.congr (fun k => if_pos (show (a.2 : Int) < (s.size : Int) by omega)) (Ev.congr (fun k => if_pos (show (0 : Int) ≤ (a.2 : Int) by omega)) ?_)
   obtain ⟨t, ht, _, _, h3⟩ := class_f (bt s (a.2 : Int))
   show Ev (fun k => (ratio_class.f (bt s (a.2 : Int))).bind _) _
   rw [ht]
   by_cases c3 : bt s (a.2 : Int) = 47
   ·rw [if_pos c3]
    refine Ev.congr (fun k => if_pos (h3.2 c3)) ?_
    have e2 : wrap64 ((a.2 : Int) + 1) = ((a.2 + 1 : Nat) : Int) := winc (by omega)
    have h2 := natDigits s hs (a.2 + 1) (by omega)
    have hg2 := nrun_ge s (s.size - (a.2 + 1)) (a.2 + 1) 0
    have hL2 := L_len hs (s.size - (a.2 + 1)) (a.2 + 1) 0 (by omega) (by rw [zero_L]; simp)
    generalize hb : nrun s (s.size - (a.2 + 1)) (a.2 + 1) 0 = b at *
    show Ev (fun k => (ratio_natDigits.f k s (wrap64 ((a.2 : Int) + 1))).bind _) _
    rw [e2]
    refine Ev.bind h2 ?_
    by_cases c4 : b.2 ≤ a.2 + 1
    ·rw [if_pos (Or.inl c4)]
     exact Ev.congr (fun k => if_neg (show ¬ decide ((b.2 : Int) > ((a.2 + 1 : Nat) : Int)) = true by simp; omega)) (read_j2_bad neg _ _)
    ·refine Ev.congr (fun k => if_pos (show decide ((b.2 : Int) > ((a.2 + 1 : Nat) : Int)) = true by simp; omega)) ?_
     by_cases c5 : b.2 < s.size
     ·rw [if_pos (Or.inr (Or.inl c5))]
      exact Ev.congr (fun k => if_pos (show (b.2 : Int) < (s.size : Int) by omega)) (read_j2_bad neg _ _)
     ·refine Ev.congr (fun k => if_neg (show ¬ (b.2 : Int) < (s.size : Int) by omega)) ?_
      by_cases c6 : b.1 = 0
      ·rw [if_pos (Or.inr (Or.inr c6))]
       show Ev (fun k => ratio_Read.j2 k neg (L a.1) (L b.1) (((L b.1).length : Int) == 0)) _
       rw [c6, zero_L]
       exact read_j2_bad neg _ _
      ·rw [if_neg (show ¬ (b.2 ≤ a.2 + 1 ∨ b.2 < s.size ∨ b.1 = 0) by omega)]
       show Ev (fun k => ratio_Read.j2 k neg (L a.1) (L b.1) (((L b.1).length : Int) == 0)) _
       have e : (((L b.1).length : Int) == 0) = false := by
        have : L b.1 ≠ [] := fun e => c6 (by have := (L_is b.1).zero_iff.1 e; omega)
        have := List.length_pos_iff.2 this
        simp
        intro e
        rw [e] at this
        exact absurd this (by simp)
       rw [e]
       exact read_j2 neg a.1 b.1 (by omega) (by omega)
   ·rw [if_neg c3]
    exact Ev.congr (fun k => if_neg (fun e => c3 (h3.1 e))) (Ev.now _)
  ·rw [if_neg c2]
   refine Ev.congr (fun k => if_neg (show ¬ (a.2 : Int) < (s.size : Int) by omega)) ?_
   have := read_j3 neg a.1 1 (by omega) (by rw [one_L]; simp)
   rw [one_L] at this
   exact this
def rdOf (s : ByteArray) : Bool × List Int × List Int × Int :=
 if 4096 < s.size then (false, [], [], 3) else if 0 < s.size ∧ (bt s 0 = 43 ∨ bt s 0 = 45) then rdAt s (bt s 0 == 45) 1 else rdAt s false 0
theorem size_zero {s : ByteArray} (h : s.toList = []) : s.size = 0 := by
 rw [(toList_nil_iff_emptyBytes s).1 h]; rfl
theorem ratioRead (s : ByteArray) : Ev (fun k => ratio_Read.f k s) (rdOf s) := by
 unfold ratio_Read.f rdOf
 by_cases c1 : 4096 < s.size
 ·rw [if_pos c1]
  exact Ev.congr (fun k => if_pos (by omega)) (Ev.now _)
 ·rw [if_neg c1]
  refine Ev.congr (fun k => if_neg (by omega)) ?_
  have j0f : Ev (fun k => ratio_Read.j0 k s false 0 false) (rdAt s false 0) := by
   refine Ev.step (f := fun k => ratio_Read.j1 k s false 0) (fun k => ?_) (read_j1 s (by omega) false 0 (by omega))
   simp only [ratio_Read.j0]
   rfl
  by_cases c2 : s.toList = []
  ·have hz := size_zero c2
   rw [if_neg (show ¬ (0 < s.size ∧ (bt s 0 = 43 ∨ bt s 0 = 45)) by omega)]
   exact Ev.congr (fun k => if_pos c2) j0f
  ·have hz : 0 < s.size := by
    rcases Nat.eq_zero_or_pos s.size with h | h
    ·exact absurd ((toList_nil_iff_emptyBytes s).2 (empty_of_size h)) c2
    ·exact h
   refine Ev.congr (fun k => if_neg c2) (Ev.congr (fun k => if_pos (by omega)) ?_)
   obtain ⟨t, ht, _, h2, _⟩ := class_f (bt s 0)
   rw [ht]
   show Ev (fun k => ratio_Read.j0 k s false 0 (t == 1)) _
   by_cases c3 : bt s 0 = 43 ∨ bt s 0 = 45
   ·rw [if_pos ⟨hz, c3⟩, show (t == 1) = true by rw [h2.2 c3]; rfl]
    refine Ev.step (f := fun k => ratio_Read.j1 k s (bt s 0 == 45) 1) (fun k => ?_) (read_j1 s (by omega) (bt s 0 == 45) 1 (by omega))
    simp only [ratio_Read.j0]
    rw [if_pos trivial, if_pos (by omega)]
   ·rw [if_neg (show ¬ (0 < s.size ∧ (bt s 0 = 43 ∨ bt s 0 = 45)) from fun h => c3 h.2), show (t == 1) = false by have : t ≠ 1 := fun e => c3 (h2.1 e); simp [this]]
    exact j0f
theorem rdAt_or (s : ByteArray) (neg : Bool) (p : Nat) : rdAt s neg p = (false, [], [], 21) ∨ ∃ n d, rdAt s neg p = mkOf neg n d := by
 unfold rdAt
 split
 ·exact .inl rfl
 ·split
  ·split
   ·split
    ·exact .inl rfl
    ·exact .inr ⟨_, _, rfl⟩
   ·exact .inl rfl
  ·exact .inr ⟨_, _, rfl⟩
theorem rdOf_or (s : ByteArray) : ((rdOf s).2.2.2 ≠ 0 ∧ (rdOf s).1 = false ∧ (rdOf s).2.1 = [] ∧ (rdOf s).2.2.1 = []) ∨ ((rdOf s).2.2.2 = 0 ∧ ∃ N D, Rf (rdOf s).1 (rdOf s).2.1 (rdOf s).2.2.1 N D) := by
 have key : ∀ R : Bool × List Int × List Int × Int, (R = (false, [], [], 21) ∨ ∃ neg n d, R = mkOf neg n d) → (R.2.2.2 ≠ 0 ∧ R.1 = false ∧ R.2.1 = [] ∧ R.2.2.1 = []) ∨ (R.2.2.2 = 0 ∧ ∃ N D, Rf R.1 R.2.1 R.2.2.1 N D) := by
  intro R h
  rcases h with rfl | ⟨neg, n, d, rfl⟩
  ·exact .inl ⟨by decide, rfl, rfl, rfl⟩
  ·by_cases c : (mkOf neg n d).2.2.2 = 0
   ·exact .inr ⟨c, mk_form c⟩
   ·exact .inl ⟨c, mk_err c⟩
 unfold rdOf
 by_cases c1 : 4096 < s.size
 ·rw [if_pos c1]
  exact .inl ⟨by decide, rfl, rfl, rfl⟩
 ·rw [if_neg c1]
  apply key
  split
  ·rcases rdAt_or s (bt s 0 == 45) 1 with h | ⟨n, d, h⟩
   ·exact .inl h
   ·exact .inr ⟨_, n, d, h⟩
  ·rcases rdAt_or s false 0 with h | ⟨n, d, h⟩
   ·exact .inl h
   ·exact .inr ⟨_, n, d, h⟩
def ldn : List Int → Nat → Nat
 | [], v => v
 | x :: l, v => ldn l (10 * v + (x - 48).toNat)
theorem ldn_snoc : ∀ (l : List Int) (x : Int) (v : Nat), ldn (l ++ [x]) v = 10 * ldn l v + (x - 48).toNat
 | [], _, _ => rfl
 | y :: l, x, v => by simp only [List.cons_append, ldn, ldn_snoc l x]
def tdig (v : Nat) : List Int := if v = 0 then [48] else (dig v).reverse
theorem tdig_text (v : Nat) : textOf v = strOfNums (tdig v) := by
 unfold textOf tdig
 by_cases h : v = 0
 ·rw [if_pos h, if_pos h]; decide +kernel
 ·rw [if_neg h, if_neg h]
theorem tdig_len {v : Nat} (h : v < 10 ^ 155) : (tdig v).length ≤ 155 := by
 unfold tdig
 by_cases h0 : v = 0
 ·rw [if_pos h0]; simp
 ·rw [if_neg h0, List.length_reverse]; exact dig_len 155 v h
theorem pow16' : (4294967296 : Int) ^ 16 < 1000000000 ^ 18 ∧ (4294967296 : Int) ^ 16 < 10 ^ 155 := by decide +kernel
theorem Is.small {l : List Int} {v : Nat} (h : Is l (v : Int)) (hl : l.length ≤ 16) : v < 10 ^ 155 ∧ val l < 1000000000 ^ 18 := by
 have h1 := h.lt
 have h2 := pow_le (m := l.length) (n := 16) hl
 have h3 := pow16'
 have h4 := h.val
 have h5 : (((10 ^ 155 : Nat) : Nat) : Int) = (10 : Int) ^ 155 := by rw [Int.natCast_pow]; rfl
 refine ⟨?_, by omega⟩
 have : (v : Int) < ((10 ^ 155 : Nat) : Int) := by rw [h5]; omega
 exact Int.ofNat_lt.1 this
theorem ratioDigits {l : List Int} {v : Nat} (h : Is l (v : Int)) (hl : l.length ≤ 16) : Ev (fun k => nats_Digits.f k l) (strOfNums (tdig v)) := by
 have := digits l h.wf (by omega) (Is.small h hl).2
 rw [h.val, Int.toNat_natCast, tdig_text] at this
 exact this
def textL (neg : Bool) (N D : Nat) : List Int := (if neg = true then [45] else []) ++ (tdig N ++ (if D = 1 then [] else 47 :: tdig D))
theorem stroke : (⟨#[47]⟩ : ByteArray) = strOfNums [47] := by decide +kernel
theorem minusS : (⟨#[45]⟩ : ByteArray) = strOfNums [45] := by decide +kernel
theorem text_j0 {neg a : Bool} {n d : List Int} {N D : Nat} (h : Rf neg n d N D) (l : List Int) (hl : l.length ≤ 156) : Ev (fun k => ratio_Text.j0 k (strOfNums l) a n d) (strOfNums (l ++ (if D = 1 then [] else 47 :: tdig D)), 0) := by
 have hd := tdig_len (Is.small h.den h.dlen).1
 refine Ev.step (fun k => rfl) ?_
 show Ev (fun k => (ratio_one.f d).bind _) _
 rw [one_f h.den]
 by_cases c : D = 1
 ·rw [if_pos c, List.append_nil]
  exact Ev.congr (fun k => if_pos (by simp [c])) (Ev.now _)
 ·rw [if_neg c]
  refine Ev.congr (fun k => if_neg (by simp [c])) (Ev.bind (ratioDigits h.den h.dlen) ?_)
  have e : (⟨#[47]⟩ : ByteArray) ++ strOfNums (tdig D) = strOfNums (47 :: tdig D) := by rw [stroke, ← strOf_append]; rfl
  rw [e, ← strOf_append]
  refine Ev.congr (fun k => if_pos (by rw [strOfNums_size]; omega)) (Ev.congr (fun k => if_pos (by rw [strOfNums_size, strOfNums_size, List.length_cons]; omega)) (Ev.now _))
theorem text_ok {neg : Bool} {n d : List Int} {N D : Nat} (h : Rf neg n d N D) : Ev (fun k => ratio_Text.f k neg n d) (strOfNums (textL neg N D), 0) := by
 have hn := tdig_len (Is.small h.num h.nlen).1
 unfold ratio_Text.f textL
 refine Ev.bind (form_true h) (Ev.congr (fun k => if_pos rfl) (Ev.bind (ratioDigits h.num h.nlen) ?_))
 by_cases c : neg = true
 ·rw [if_pos c]
  refine Ev.congr (fun k => if_pos c) (Ev.congr (fun k => if_pos (by rw [strOfNums_size]; omega)) ?_)
  rw [minusS, ← strOf_append, ← List.append_assoc]
  exact text_j0 h _ (by rw [List.length_append, List.length_singleton]; omega)
 ·rw [if_neg c, List.nil_append]
  exact Ev.congr (fun k => if_neg c) (text_j0 h _ (by omega))
theorem text_bad {neg : Bool} {n d : List Int} (h : Ev (fun k => ratio_Form.f k neg n d) false) : Ev (fun k => ratio_Text.f k neg n d) (⟨#[]⟩, 20) :=
 Ev.bind h (Ev.congr (fun k => if_neg (by decide)) (Ev.now _))
theorem ext_size (s : ByteArray) {p e : Nat} (h : e ≤ s.size) : (s.extract p e).size = e - p := by rw [ByteArray.size_extract, Nat.min_eq_left h]
theorem ext_bt (s : ByteArray) {p e i : Nat} (h : e ≤ s.size) (hi : p + i < e) : bt (s.extract p e) (i : Int) = bt s ((p + i : Nat) : Int) := by
 have hs : i < (s.extract p e).size := by rw [ext_size s h]; omega
 unfold bt
 rw [dif_pos (by rw [Int.toNat_natCast]; exact hs), dif_pos (by rw [Int.toNat_natCast]; omega)]
 simp only [Int.toNat_natCast, ByteArray.getElem_extract]
theorem nrun_ext (s : ByteArray) {p e : Nat} (h : e ≤ s.size) : ∀ (f i v : Nat), i + f ≤ e - p → p ≤ e → nrun (s.extract p e) f i v = ((nrun s f (p + i) v).1, (nrun s f (p + i) v).2 - p)
 | 0, i, v, _, _ => by
  show (v, i) = (v, p + i - p)
  rw [Nat.add_sub_cancel_left]
 | f + 1, i, v, hi, hp => by
  have e1 := ext_bt s (p := p) (e := e) (i := i) h (by omega)
  unfold nrun
  rw [e1]
  split
  ·rw [nrun_ext s h f (i + 1) _ (by omega) hp]; rfl
  ·simp [Nat.add_sub_cancel_left]
theorem nrun_short (s : ByteArray) : ∀ (f p v g : Nat), (nrun s f p v).2 = p + g → g ≤ f → nrun s g p v = nrun s f p v
 | 0, p, v, g, h, hg => by
  have : g = 0 := by omega
  subst this
  rfl
 | f + 1, p, v, g, h, hg => by
  by_cases c : 48 ≤ bt s (p : Int) ∧ bt s (p : Int) ≤ 57
  ·have e : nrun s (f + 1) p v = nrun s f (p + 1) (10 * v + (bt s (p : Int) - 48).toNat) := by
    conv => lhs; unfold nrun
    rw [if_pos c]
   rw [e] at h ⊢
   have h2 := nrun_ge s f (p + 1) (10 * v + (bt s (p : Int) - 48).toNat)
   obtain ⟨g', rfl⟩ : ∃ g', g = g' + 1 := ⟨g - 1, by omega⟩
   have e2 : nrun s (g' + 1) p v = nrun s g' (p + 1) (10 * v + (bt s (p : Int) - 48).toNat) := by
    conv => lhs; unfold nrun
    rw [if_pos c]
   rw [e2]
   exact nrun_short s f (p + 1) _ g' (by omega) (by omega)
  ·have e : nrun s (f + 1) p v = (v, p) := by
    conv => lhs; unfold nrun
    rw [if_neg c]
   rw [e] at h ⊢
   have : g = 0 := by simp at h; omega
   subst this
   rfl
theorem nrun_digs (s : ByteArray) : ∀ (f p v : Nat), (∀ i, p ≤ i → i < (nrun s f p v).2 → 48 ≤ bt s (i : Int) ∧ bt s (i : Int) ≤ 57) ∧ ((nrun s f p v).2 < p + f → ¬ (48 ≤ bt s ((nrun s f p v).2 : Int) ∧ bt s ((nrun s f p v).2 : Int) ≤ 57))
 | 0, p, v => ⟨fun i h1 h2 => absurd h2 (by show ¬ i < p; omega), fun h => absurd h (by show ¬ p < p + 0; omega)⟩
 | f + 1, p, v => by
  by_cases c : 48 ≤ bt s (p : Int) ∧ bt s (p : Int) ≤ 57
  ·have e : nrun s (f + 1) p v = nrun s f (p + 1) (10 * v + (bt s (p : Int) - 48).toNat) := by
    conv => lhs; unfold nrun
    rw [if_pos c]
   rw [e]
   obtain ⟨h1, h2⟩ := nrun_digs s f (p + 1) (10 * v + (bt s (p : Int) - 48).toNat)
   refine ⟨fun i hi hj => ?_, fun h => h2 (by omega)⟩
   rcases Nat.eq_or_lt_of_le hi with e3 | e3
   ·subst e3; exact c
   ·exact h1 i e3 hj
  ·have e : nrun s (f + 1) p v = (v, p) := by
    conv => lhs; unfold nrun
    rw [if_neg c]
   rw [e]
   exact ⟨fun i h1 h2 => absurd h2 (by show ¬ i < p; omega), fun _ => c⟩
theorem nrun_all (s : ByteArray) : ∀ (f p v : Nat), (∀ i, p ≤ i → i < p + f → 48 ≤ bt s (i : Int) ∧ bt s (i : Int) ≤ 57) → (nrun s f p v).2 = p + f
 | 0, p, v, _ => rfl
 | f + 1, p, v, h => by
  have c := h p (Nat.le_refl _) (by omega)
  have e : nrun s (f + 1) p v = nrun s f (p + 1) (10 * v + (bt s (p : Int) - 48).toNat) := by
   conv => lhs; unfold nrun
   rw [if_pos c]
  rw [e, nrun_all s f (p + 1) _ (fun i hi hj => h i (by omega) (by omega))]
  omega
def digsB (t : ByteArray) : Bool := decide (0 < t.size ∧ (nrun t t.size 0 0).2 = t.size)
theorem rdigits (t : ByteArray) (hs : t.size ≤ 4096) : Ev (fun k => r1_Digits.f k t) (digsB t) := by
 unfold r1_Digits.f digsB
 have hg := nrun_ge t t.size 0 0
 obtain ⟨h1, h2⟩ := nrun_digs t t.size 0 0
 by_cases c : (nrun t t.size 0 0).2 = t.size
 ·have e : decide (0 < t.size ∧ (nrun t t.size 0 0).2 = t.size) = decide (0 < t.size) := by simp [c]
  rw [e]
  exact rdigits_all t hs t.size 0 (by omega) (fun i hi hj => h1 i hi (by omega))
 ·rw [decide_eq_false (show ¬ (0 < t.size ∧ (nrun t t.size 0 0).2 = t.size) from fun h => c h.2)]
  exact rdigits_bad t hs t.size 0 (by omega) ⟨(nrun t t.size 0 0).2, by omega, by omega, h2 (by omega)⟩
theorem Lpush_len {v d : Nat} (hd : d < 10) : (L (10 * v + d)).length ≤ (L v).length + 1 := by
 have hI := pushOf_is (L_is v) (d := (d : Int)) (by omega)
 have hL := pushOf_len (L_is v).wf (d := (d : Int)) (by omega)
 have e2 : pushOf (L v) (d : Int) = L (10 * v + d) := eqL (by rw [show ((10 * v + d : Nat) : Int) = 10 * (v : Int) + (d : Int) by omega]; exact hI)
 rw [← e2]
 exact hL
theorem nat_step (t : ByteArray) (v p : Nat) (hs : t.size ≤ 4096) (hp : p < t.size) (hd : 48 ≤ bt t (p : Int) ∧ bt t (p : Int) ≤ 57) (hl : (L v).length ≤ 4096) {R : List Int}
  (h : Ev (fun k => r2_natural.l0 k t (L (10 * v + (bt t (p : Int) - 48).toNat)) ((p + 1 : Nat) : Int)) R) : Ev (fun k => r2_natural.l0 k t (L v) (p : Int)) R := by
 have e1 : (bt t (p : Int) - 48) % 256 = bt t (p : Int) - 48 := by omega
 have e2 : wrap64 ((p : Int) + 1) = ((p + 1 : Nat) : Int) := winc (by omega)
 generalize hb : bt t (p : Int) = b at *
 obtain ⟨x, hx, ix⟩ := times (L v) [10] (L_is v).wf (Wf.one (by omega) (by omega)) (by simp; omega)
 rw [(L_is v).val, val_one] at ix
 have xl : x.length ≤ 4100 := by
  have h1 := Lpush_len (v := v) (d := 0) (by omega)
  have : x = L (10 * v + 0) := eqL (by rw [show ((10 * v + 0 : Nat) : Int) = (v : Int) * 10 by omega]; exact ix)
  rw [this]
  omega
 obtain ⟨y, hy, iy⟩ := plus x [b - 48] ix.wf (Wf.one (by omega) (by omega)) (by omega) (by simp)
 rw [ix.val, val_one] at iy
 have ey : y = L (10 * v + (b - 48).toNat) := eqL (by rw [show ((10 * v + (b - 48).toNat : Nat) : Int) = (v : Int) * 10 + (b - 48) by omega]; exact iy)
 rw [ey] at hy
 refine Ev.step (f := fun k => (r1_Times.f k (L v) [10]).bind fun t1 => (r1_Plus.f k t1 [b - 48]).bind fun t2 => r2_natural.l0 k t t2 ((p + 1 : Nat) : Int)) (fun k => ?_) (Ev.bind hx (Ev.bind hy h))
 simp only [r2_natural.l0]
 rw [if_pos (by omega), hb, e1, e2]
 simp only [if_pos (show (0 : Int) ≤ (p : Int) by omega)]
theorem nat_run (t : ByteArray) (hs : t.size ≤ 4096) : ∀ (f p v : Nat), f + p = t.size → (∀ i, p ≤ i → i < t.size → 48 ≤ bt t (i : Int) ∧ bt t (i : Int) ≤ 57) → (L v).length ≤ p → Ev (fun k => r2_natural.l0 k t (L v) (p : Int)) (L (nrun t f p v).1)
 | 0, p, v, hp, h, hl => by
  refine Ev.step (f := fun _ => some (L v)) (fun k => ?_) (Ev.now _)
  simp only [r2_natural.l0]
  rw [if_neg (by omega)]
 | f + 1, p, v, hp, h, hl => by
  have c := h p (Nat.le_refl _) (by omega)
  have e : nrun t (f + 1) p v = nrun t f (p + 1) (10 * v + (bt t (p : Int) - 48).toNat) := by
   conv => lhs; unfold nrun
   rw [if_pos c]
  rw [e]
  have hl2 := Lpush_len (v := v) (d := (bt t (p : Int) - 48).toNat) (by omega)
  exact nat_step t v p hs (by omega) c (by omega) (nat_run t hs f (p + 1) _ (by omega) (fun i hi hj => h i (by omega) hj) (by omega))
theorem natural (t : ByteArray) (hs : t.size ≤ 4096) (h : digsB t = true) : Ev (fun k => r2_natural.f k t) (L (nrun t t.size 0 0).1) := by
 have h2 := of_decide_eq_true h
 have h3 := (nrun_digs t t.size 0 0).1
 unfold r2_natural.f
 rw [← zero_L]
 exact nat_run t hs t.size 0 0 (by omega) (fun i hi hj => h3 i hi (by omega)) (by rw [zero_L]; simp)
theorem nrun_pos (s : ByteArray) : ∀ (f p v : Nat), 0 < v → 0 < (nrun s f p v).1
 | 0, p, v, h => h
 | f + 1, p, v, h => by
  unfold nrun
  split
  ·exact nrun_pos s f (p + 1) _ (by omega)
  ·exact h
theorem cut_l1 (neg : Bool) (num den : ByteArray) (hs : den.size ≤ 4096) : ∀ (f p : Nat), f + p = den.size → (∀ i, p ≤ i → i < den.size → 48 ≤ bt den (i : Int) ∧ bt den (i : Int) ≤ 57) →
  Ev (fun k => r2_Cut.l1 k neg num den (p : Int)) (if (nrun den f p 0).1 = 0 then (false, ⟨#[]⟩, ⟨#[]⟩, false) else (neg, num, den, true))
 | 0, p, hp, h => by
  refine Ev.step (f := fun _ => some (false, ⟨#[]⟩, ⟨#[]⟩, false)) (fun k => ?_) (Ev.now _)
  simp only [r2_Cut.l1]
  rw [if_neg (by omega)]
 | f + 1, p, hp, h => by
  have c := h p (Nat.le_refl _) (by omega)
  have e : nrun den (f + 1) p 0 = nrun den f (p + 1) (10 * 0 + (bt den (p : Int) - 48).toNat) := by
   conv => lhs; unfold nrun
   rw [if_pos c]
  by_cases c2 : bt den (p : Int) = 48
  ·rw [e, show 10 * 0 + (bt den (p : Int) - 48).toNat = 0 by omega]
   refine Ev.step (f := fun k => r2_Cut.l1 k neg num den ((p + 1 : Nat) : Int)) (fun k => ?_) (cut_l1 neg num den hs f (p + 1) (by omega) (fun i hi hj => h i (by omega) hj))
   simp only [r2_Cut.l1]
   rw [if_pos (by omega), if_pos (by omega), if_pos c2, winc (by omega)]
  ·have hpos := nrun_pos den f (p + 1) (10 * 0 + (bt den (p : Int) - 48).toNat) (by omega)
   rw [e, if_neg (by omega)]
   refine Ev.step (f := fun _ => some (neg, num, den, true)) (fun k => ?_) (Ev.now _)
   simp only [r2_Cut.l1]
   rw [if_pos (by omega), if_pos (by omega), if_neg c2]
theorem cut_j4_bad (neg : Bool) (num den : ByteArray) : Ev (fun k => r2_Cut.j4 k neg num den true) (false, ⟨#[]⟩, ⟨#[]⟩, false) := by
 refine Ev.step (f := fun _ => some (false, ⟨#[]⟩, ⟨#[]⟩, false)) (fun k => ?_) (Ev.now _)
 simp only [r2_Cut.j4]
 rfl
def cutOf (neg : Bool) (num den : ByteArray) : Bool × ByteArray × ByteArray × Bool :=
 if digsB num = true ∧ digsB den = true ∧ (nrun den den.size 0 0).1 ≠ 0 then (neg, num, den, true) else (false, ⟨#[]⟩, ⟨#[]⟩, false)
theorem cut_j3 (neg : Bool) (num den : ByteArray) (h1 : num.size ≤ 4096) (h2 : den.size ≤ 4096) : Ev (fun k => r2_Cut.j3 k neg num den) (cutOf neg num den) := by
 refine Ev.step (fun k => rfl) (Ev.bind (rdigits num h1) ?_)
 unfold cutOf
 by_cases c1 : digsB num = true
 ·refine Ev.congr (fun k => if_pos c1) (Ev.bind (rdigits den h2) ?_)
  by_cases c2 : digsB den = true
  ·have h3 := of_decide_eq_true c2
   have h4 := (nrun_digs den den.size 0 0).1
   have hl := cut_l1 neg num den h2 den.size 0 (by omega) (fun i hi hj => h4 i hi (by omega))
   have hj : Ev (fun k => r2_Cut.j4 k neg num den false) (if (nrun den den.size 0 0).1 = 0 then (false, ⟨#[]⟩, ⟨#[]⟩, false) else (neg, num, den, true)) := by
    refine Ev.step (f := fun k => r2_Cut.l1 k neg num den 0) (fun k => ?_) hl
    simp only [r2_Cut.j4]
    rfl
   show Ev (fun k => r2_Cut.j4 k neg num den (!digsB den)) _
   rw [c2]
   by_cases c3 : (nrun den den.size 0 0).1 = 0
   ·rw [if_pos c3] at hj
    rw [if_neg (fun h => h.2.2 c3)]
    exact hj
   ·rw [if_neg c3] at hj
    rw [if_pos ⟨c1, rfl, c3⟩]
    exact hj
  ·rw [if_neg (fun h => c2 h.2.1)]
   show Ev (fun k => r2_Cut.j4 k neg num den (!digsB den)) _
   rw [Bool.eq_false_iff.2 c2]
   exact cut_j4_bad neg num den
 ·rw [if_neg (fun h => c1 h.1)]
  exact Ev.congr (fun k => if_neg c1) (cut_j4_bad neg num den)
theorem l0_skip (x : ByteArray) (neg : Bool) (hs : x.size ≤ 4096) {R : Bool × ByteArray × ByteArray × Bool} : ∀ (d i : Nat), i + d ≤ x.size → (∀ j, i ≤ j → j < i + d → bt x (j : Int) ≠ 47) → Ev (fun k => r2_Cut.l0 k x neg x ⟨#[49]⟩ ((i + d : Nat) : Int)) R →
  Ev (fun k => r2_Cut.l0 k x neg x ⟨#[49]⟩ (i : Int)) R
 | 0, i, h, hn, hR => hR
 | d + 1, i, h, hn, hR => by
  refine Ev.step (f := fun k => r2_Cut.l0 k x neg x ⟨#[49]⟩ ((i + 1 : Nat) : Int)) (fun k => ?_) (l0_skip x neg hs d (i + 1) (by omega) (fun j h1 h2 => hn j (by omega) (by omega)) (by rw [show i + 1 + d = i + (d + 1) by omega]; exact hR))
  simp only [r2_Cut.l0]
  rw [if_pos (by omega), if_pos (by omega), if_neg (hn i (Nat.le_refl _) (by omega)), winc (by omega)]
theorem l0_end (x : ByteArray) (neg : Bool) (hs : x.size ≤ 4096) : Ev (fun k => r2_Cut.l0 k x neg x ⟨#[49]⟩ (x.size : Int)) (cutOf neg x ⟨#[49]⟩) := by
 refine Ev.step (f := fun k => r2_Cut.j3 k neg x ⟨#[49]⟩) (fun k => ?_) (cut_j3 neg x _ hs (by decide))
 simp only [r2_Cut.l0]
 rw [if_neg (by omega)]
theorem l0_at (x : ByteArray) (neg : Bool) (hs : x.size ≤ 4096) (i : Nat) (hi : i < x.size) (h : bt x (i : Int) = 47) : Ev (fun k => r2_Cut.l0 k x neg x ⟨#[49]⟩ (i : Int)) (cutOf neg (x.extract 0 i) (x.extract (i + 1) x.size)) := by
 refine Ev.step (f := fun k => r2_Cut.j3 k neg (x.extract 0 i) (x.extract (i + 1) x.size)) (fun k => ?_) (cut_j3 neg _ _ (by rw [ext_size x (by omega)]; omega) (by rw [ext_size x (by omega)]; omega))
 simp only [r2_Cut.l0]
 rw [if_pos (by omega), if_pos (by omega), if_pos h, if_pos (by omega), winc (by omega), if_pos (by omega), if_pos (by omega), Int.toNat_natCast, Int.toNat_natCast]
theorem first_stroke (x : ByteArray) : ∀ (d i : Nat), i + d = x.size → (∀ j, i ≤ j → j < x.size → bt x (j : Int) ≠ 47) ∨ ∃ m, i ≤ m ∧ m < x.size ∧ bt x (m : Int) = 47 ∧ ∀ j, i ≤ j → j < m → bt x (j : Int) ≠ 47
 | 0, i, h => .inl fun j h1 h2 => by omega
 | d + 1, i, h => by
  by_cases c : bt x (i : Int) = 47
  ·exact .inr ⟨i, Nat.le_refl _, by omega, c, fun j h1 h2 => by omega⟩
  ·rcases first_stroke x d (i + 1) (by omega) with h1 | ⟨m, h1, h2, h3, h4⟩
   ·refine .inl fun j hj hk => ?_
    rcases Nat.eq_or_lt_of_le hj with e | e
    ·subst e; exact c
    ·exact h1 j e hk
   ·refine .inr ⟨m, by omega, h2, h3, fun j hj hk => ?_⟩
    rcases Nat.eq_or_lt_of_le hj with e | e
    ·subst e; exact c
    ·exact h4 j e hk
theorem rcut_l0 (x : ByteArray) (neg : Bool) (hs : x.size ≤ 4096) : ((∀ j, j < x.size → bt x (j : Int) ≠ 47) ∧ Ev (fun k => r2_Cut.l0 k x neg x ⟨#[49]⟩ 0) (cutOf neg x ⟨#[49]⟩)) ∨
  ∃ m, m < x.size ∧ bt x (m : Int) = 47 ∧ (∀ j, j < m → bt x (j : Int) ≠ 47) ∧ Ev (fun k => r2_Cut.l0 k x neg x ⟨#[49]⟩ 0) (cutOf neg (x.extract 0 m) (x.extract (m + 1) x.size)) := by
 rcases first_stroke x x.size 0 (by omega) with h | ⟨m, _, h2, h3, h4⟩
 ·exact .inl ⟨fun j hj => h j (by omega) hj, l0_skip x neg hs x.size 0 (by omega) (fun j _ hj => h j (by omega) (by omega)) (by rw [Nat.zero_add]; exact l0_end x neg hs)⟩
 ·exact .inr ⟨m, h2, h3, fun j hj => h4 j (by omega) hj, l0_skip x neg hs m 0 (by omega) (fun j _ hj => h4 j (by omega) (by omega)) (by rw [Nat.zero_add]; exact l0_at x neg hs m h2 h3)⟩
theorem one_text : digsB ⟨#[49]⟩ = true ∧ (nrun ⟨#[49]⟩ (⟨#[49]⟩ : ByteArray).size 0 0).1 = 1 := by decide +kernel
def finOf (R : Bool × ByteArray × ByteArray × Bool) : Bool × List Int × List Int × Int :=
 if R.2.2.2 = true then mkOf R.1 (nrun R.2.1 R.2.1.size 0 0).1 (nrun R.2.2.1 R.2.2.1.size 0 0).1 else (false, [], [], 21)
theorem fin_cut (neg : Bool) (num den : ByteArray) : finOf (cutOf neg num den) = if digsB num = true ∧ digsB den = true ∧ (nrun den den.size 0 0).1 ≠ 0 then mkOf neg (nrun num num.size 0 0).1 (nrun den den.size 0 0).1 else (false, [], [], 21) := by
 unfold finOf cutOf
 by_cases c : digsB num = true ∧ digsB den = true ∧ (nrun den den.size 0 0).1 ≠ 0
 ·rw [if_pos c, if_pos c]; rfl
 ·rw [if_neg c, if_neg c]; rfl
theorem fin_none (s : ByteArray) (neg : Bool) (p : Nat) (hp : p ≤ s.size) (hn : ∀ j, j < (s.extract p s.size).size → bt (s.extract p s.size) (j : Int) ≠ 47) : finOf (cutOf neg (s.extract p s.size) ⟨#[49]⟩) = rdAt s neg p := by
 have hsz := ext_size s (p := p) (e := s.size) (Nat.le_refl _)
 have hx := nrun_ext s (p := p) (e := s.size) (Nat.le_refl _) (s.size - p) 0 0 (by omega) hp
 have hg := nrun_ge s (s.size - p) p 0
 rw [Nat.add_zero] at hx
 rw [fin_cut, one_text.2]
 have hd : digsB (s.extract p s.size) = true ↔ p < s.size ∧ (nrun s (s.size - p) p 0).2 = s.size := by
  unfold digsB
  rw [decide_eq_true_iff, hsz, hx]
  simp only
  omega
 unfold rdAt
 rw [hsz, hx]
 generalize ha : nrun s (s.size - p) p 0 = a at *
 by_cases c : p < s.size ∧ a.2 = s.size
 ·rw [if_pos ⟨hd.2 c, one_text.1, by decide⟩, if_neg (show ¬ a.2 ≤ p by omega), if_neg (show ¬ a.2 < s.size by omega)]
 ·rw [if_neg (fun h => c (hd.1 h.1))]
  by_cases c1 : a.2 ≤ p
  ·rw [if_pos c1]
  ·have c2 : a.2 < s.size := by omega
   have h47 : bt s (a.2 : Int) ≠ 47 := by
    have := hn (a.2 - p) (by omega)
    rw [ext_bt s (Nat.le_refl _) (by omega), show p + (a.2 - p) = a.2 by omega] at this
    exact this
   rw [if_neg c1, if_pos c2, if_neg h47]
theorem fin_at (s : ByteArray) (neg : Bool) (p m : Nat) (hp : p ≤ s.size) (hm : m < (s.extract p s.size).size) (h47 : bt (s.extract p s.size) (m : Int) = 47) (hn : ∀ j, j < m → bt (s.extract p s.size) (j : Int) ≠ 47) :
  finOf (cutOf neg ((s.extract p s.size).extract 0 m) ((s.extract p s.size).extract (m + 1) (s.extract p s.size).size)) = rdAt s neg p := by
 have hsz := ext_size s (p := p) (e := s.size) (Nat.le_refl _)
 have hX : ∀ f i v, i + f ≤ s.size - p → nrun (s.extract p s.size) f i v = ((nrun s f (p + i) v).1, (nrun s f (p + i) v).2 - p) := fun f i v hi => nrun_ext s (p := p) (e := s.size) (Nat.le_refl _) f i v hi hp
 have hB : ∀ j, p + j < s.size → bt (s.extract p s.size) (j : Int) = bt s ((p + j : Nat) : Int) := fun j hj => ext_bt s (Nat.le_refl _) hj
 rw [hsz] at hm
 rw [hB m (by omega)] at h47
 have hn2 : ∀ j, j < m → bt s ((p + j : Nat) : Int) ≠ 47 := fun j hj => by have := hn j hj; rwa [hB j (by omega)] at this
 have n1 : ((s.extract p s.size).extract 0 m).size = m := by rw [ext_size _ (by omega)]; omega
 have n2 : ((s.extract p s.size).extract (m + 1) (s.extract p s.size).size).size = s.size - (p + m + 1) := by rw [ext_size _ (Nat.le_refl _), hsz]; omega
 have e1 := nrun_ext (s.extract p s.size) (p := 0) (e := m) (by omega) m 0 0 (by omega) (by omega)
 have e2 := nrun_ext (s.extract p s.size) (p := m + 1) (e := (s.extract p s.size).size) (Nat.le_refl _) (s.size - (p + m + 1)) 0 0 (by omega) (by omega)
 rw [Nat.add_zero, hX m 0 0 (by omega), Nat.add_zero] at e1
 rw [Nat.add_zero, hX _ (m + 1) 0 (by omega)] at e2
 rw [fin_cut]
 have hd1 : digsB ((s.extract p s.size).extract 0 m) = true ↔ 0 < m ∧ (nrun s m p 0).2 = p + m := by
  have hg := nrun_ge s m p 0
  unfold digsB
  rw [decide_eq_true_iff, n1, e1]
  simp only
  omega
 have hd2 : digsB ((s.extract p s.size).extract (m + 1) (s.extract p s.size).size) = true ↔ p + m + 1 < s.size ∧ (nrun s (s.size - (p + m + 1)) (p + (m + 1)) 0).2 = s.size := by
  have hg := nrun_ge s (s.size - (p + m + 1)) (p + (m + 1)) 0
  unfold digsB
  rw [decide_eq_true_iff, n2, e2]
  simp only
  omega
 rw [n1, n2, e1, e2]
 simp only
 have hg := nrun_ge s (s.size - p) p 0
 obtain ⟨d1, d2⟩ := nrun_digs s (s.size - p) p 0
 obtain ⟨g1, g2⟩ := nrun_digs s m p 0
 have hgm := nrun_ge s m p 0
 have hsh := nrun_short s (s.size - p) p 0 m
 unfold rdAt
 generalize ha : nrun s (s.size - p) p 0 = a at *
 have hle : a.2 ≤ p + m := by
  rcases Nat.lt_or_ge (p + m) a.2 with h | h
  ·have := d1 (p + m) (by omega) h
   omega
  ·exact h
 by_cases c : a.2 = p + m
 ·have em := hsh c (by omega)
  rw [em] at hd1 ⊢
  rw [show p + (m + 1) = a.2 + 1 by omega, show p + m + 1 = a.2 + 1 by omega] at hd2 ⊢
  have hg2 := nrun_ge s (s.size - (a.2 + 1)) (a.2 + 1) 0
  generalize hb : nrun s (s.size - (a.2 + 1)) (a.2 + 1) 0 = b at *
  by_cases c1 : a.2 ≤ p
  ·rw [if_pos c1, if_neg (fun h => by have := hd1.1 h.1; omega)]
  ·have h472 : bt s (a.2 : Int) = 47 := by rw [c]; exact h47
   rw [if_neg c1, if_pos (show a.2 < s.size by omega), if_pos h472]
   by_cases c2 : b.2 ≤ a.2 + 1 ∨ b.2 < s.size ∨ b.1 = 0
   ·rw [if_pos c2, if_neg (fun h => by have := hd2.1 h.2.1; have := h.2.2; omega)]
   ·rw [if_neg c2, if_pos ⟨hd1.2 ⟨by omega, by omega⟩, hd2.2 ⟨by omega, by omega⟩, by omega⟩]
 ·have hnd := d2 (by omega)
  have hno : ¬ digsB ((s.extract p s.size).extract 0 m) = true := fun h => by
   have h3 := hd1.1 h
   exact hnd (g1 a.2 (by omega) (by omega))
  rw [if_neg (fun h => hno h.1)]
  by_cases c1 : a.2 ≤ p
  ·rw [if_pos c1]
  ·have h4 := hn2 (a.2 - p) (by omega)
   rw [show p + (a.2 - p) = a.2 by omega] at h4
   rw [if_neg c1, if_pos (show a.2 < s.size by omega), if_neg h4]
theorem fin_ok {num den : ByteArray} {neg : Bool} (h : (cutOf neg num den).2.2.2 = true) : cutOf neg num den = (neg, num, den, true) ∧ digsB num = true ∧ digsB den = true := by
 unfold cutOf at h ⊢
 by_cases c : digsB num = true ∧ digsB den = true ∧ (nrun den den.size 0 0).1 ≠ 0
 ·rw [if_pos c]; exact ⟨rfl, c.1, c.2.1⟩
 ·rw [if_neg c] at h
  exact absurd h (by decide)
theorem read_fin (num den : ByteArray) (neg : Bool) (hn : num.size ≤ 4096) (hd : den.size ≤ 4096) :
  Ev (fun k => if (cutOf neg num den).2.2.2 = true then (r2_natural.f k (cutOf neg num den).2.1).bind fun t1 => (r2_natural.f k (cutOf neg num den).2.2.1).bind fun t2 => (r2_Make.f k (cutOf neg num den).1 t1 t2).bind fun bt => some (bt.1, bt.2.1, bt.2.2.1, bt.2.2.2) else some (false, ([] : List Int), ([] : List Int), (21 : Int))) (finOf (cutOf neg num den)) := by
 by_cases c : (cutOf neg num den).2.2.2 = true
 ·obtain ⟨e, h1, h2⟩ := fin_ok c
  unfold finOf
  rw [e]
  have m1 := natural num hn h1
  have m2 := natural den hd h2
  have l1 := L_len hn num.size 0 0 (by omega) (by rw [zero_L]; simp)
  have l2 := L_len hd den.size 0 0 (by omega) (by rw [zero_L]; simp)
  have hm := rmake neg (L (nrun num num.size 0 0).1) (L (nrun den den.size 0 0).1) (L_is _).wf (L_is _).wf (by omega) (by omega)
  rw [(L_is _).val, (L_is _).val, Int.toNat_natCast, Int.toNat_natCast] at hm
  exact Ev.congr (fun k => if_pos rfl) (Ev.bind m1 (Ev.bind m2 (Ev.bind hm (Ev.now _))))
 ·unfold finOf
  rw [if_neg c]
  exact Ev.congr (fun k => if_neg c) (Ev.now _)
theorem cut_j1 (s : ByteArray) (hs : s.size ≤ 4096) (neg : Bool) (p : Nat) (hp : p ≤ s.size) : ∃ num den, num.size ≤ 4096 ∧ den.size ≤ 4096 ∧ Ev (fun k => r2_Cut.j1 k (s.extract p s.size) neg) (cutOf neg num den) ∧ finOf (cutOf neg num den) = rdAt s neg p := by
 have hsz := ext_size s (p := p) (e := s.size) (Nat.le_refl _)
 rcases rcut_l0 (s.extract p s.size) neg (by omega) with ⟨h1, h2⟩ | ⟨m, h1, h2, h3, h4⟩
 ·exact ⟨s.extract p s.size, ⟨#[49]⟩, by omega, by decide, Ev.step (fun k => rfl) h2, fin_none s neg p hp h1⟩
 ·exact ⟨_, _, by rw [ext_size _ (by omega)]; omega, by rw [ext_size _ (Nat.le_refl _)]; omega, Ev.step (fun k => rfl) h4, fin_at s neg p m hp h1 h2 h3⟩
theorem cut_all (s : ByteArray) (hs : s.size ≤ 4096) : ∃ neg num den, num.size ≤ 4096 ∧ den.size ≤ 4096 ∧ Ev (fun k => r2_Cut.f k s) (cutOf neg num den) ∧ finOf (cutOf neg num den) = (if 0 < s.size ∧ (bt s 0 = 43 ∨ bt s 0 = 45) then rdAt s (bt s 0 == 45) 1 else rdAt s false 0) := by
 unfold r2_Cut.f
 have plain : ∃ num den, num.size ≤ 4096 ∧ den.size ≤ 4096 ∧ Ev (fun k => r2_Cut.j0 k s false false) (cutOf false num den) ∧ finOf (cutOf false num den) = rdAt s false 0 := by
  obtain ⟨num, den, h1, h2, h3, h4⟩ := cut_j1 s hs false 0 (by omega)
  rw [ByteArray.extract_zero_size] at h3
  refine ⟨num, den, h1, h2, Ev.step (fun k => ?_) h3, h4⟩
  simp only [r2_Cut.j0]
  rfl
 by_cases c0 : 0 < s.size
 ·by_cases c1 : bt s 0 = 43 ∨ bt s 0 = 45
  ·obtain ⟨num, den, h1, h2, h3, h4⟩ := cut_j1 s hs (bt s 0 == 45) 1 (by omega)
   have hj : Ev (fun k => r2_Cut.j0 k s false true) (cutOf (bt s 0 == 45) num den) := by
    refine Ev.step (fun k => ?_) h3
    simp only [r2_Cut.j0]
    rw [if_pos trivial, if_pos (by omega), if_pos (by omega)]
   refine ⟨bt s 0 == 45, num, den, h1, h2, ?_, by rw [if_pos ⟨c0, c1⟩]; exact h4⟩
   refine Ev.congr (fun k => if_pos (by omega)) (Ev.congr (fun k => if_pos (by omega)) ?_)
   by_cases c2 : bt s 0 = 43
   ·exact Ev.congr (fun k => if_pos c2) hj
   ·refine Ev.congr (fun k => if_neg c2) ?_
    rw [show (bt s 0 == 45) = true by have := c1.resolve_left c2; simp [this]] at hj ⊢
    exact hj
  ·obtain ⟨num, den, h1, h2, h3, h4⟩ := plain
   refine ⟨false, num, den, h1, h2, ?_, by rw [if_neg (fun h => c1 h.2)]; exact h4⟩
   refine Ev.congr (fun k => if_pos (by omega)) (Ev.congr (fun k => if_pos (by omega)) (Ev.congr (fun k => if_neg (fun h => c1 (.inl h))) ?_))
   rw [show (bt s 0 == 45) = false by have : bt s 0 ≠ 45 := fun h => c1 (.inr h); simp [this]]
   exact h3
 ·obtain ⟨num, den, h1, h2, h3, h4⟩ := plain
  refine ⟨false, num, den, h1, h2, ?_, by rw [if_neg (fun h => c0 h.1)]; exact h4⟩
  exact Ev.congr (fun k => if_neg (by omega)) h3
theorem rread2 (s : ByteArray) : Ev (fun k => r2_Read.f k s) (rdOf s) := by
 unfold r2_Read.f rdOf
 by_cases c1 : 4096 < s.size
 ·rw [if_pos c1]
  exact Ev.congr (fun k => if_pos (by omega)) (Ev.now _)
 ·rw [if_neg c1]
  obtain ⟨neg, num, den, h1, h2, h3, h4⟩ := cut_all s (by omega)
  rw [← h4]
  exact Ev.congr (fun k => if_neg (by omega)) (Ev.bind h3 (read_fin num den neg h1 h2))
theorem small155 {l : List Int} {v : Nat} (h : Is l (v : Int)) (hl : l.length ≤ 16) : val l < 10 ^ 155 := by
 have h1 := h.lt
 have h2 := pow_le (m := l.length) (n := 16) hl
 have h3 := pow16'
 have h4 := h.val
 omega
theorem rdigs {l : List Int} {v : Nat} (h : Is l (v : Int)) (hl : l.length ≤ 16) : Ev (fun k => r1_Text.f k l) (strOfNums (tdig v), 0) := by
 have h1 := rtext l h.wf (by omega) (by rw [h.nm]; exact hl) (small155 h hl)
 rw [h.val, Int.toNat_natCast, tdig_text] at h1
 exact h1
theorem rtext_j0 {neg a : Bool} {n d : List Int} {N D : Nat} (h : Rf neg n d N D) (l : List Int) (hl : l.length ≤ 156) : Ev (fun k => r2_Text.j0 k (strOfNums l) a n d) (strOfNums (l ++ (if D = 1 then [] else 47 :: tdig D)), 0) := by
 have hd := tdig_len (Is.small h.den h.dlen).1
 refine Ev.step (fun k => rfl) (Ev.bind (rsame d [1] (by have := h.dlen; omega)) ?_)
 by_cases c : D = 1
 ·rw [if_pos c, List.append_nil]
  exact Ev.congr (fun k => if_pos (decide_eq_true ((one_iff h.den).2 c))) (Ev.now _)
 ·rw [if_neg c]
  refine Ev.congr (fun k => if_neg (fun e => c ((one_iff h.den).1 (of_decide_eq_true e)))) (Ev.bind (rdigs h.den h.dlen) ?_)
  have e : strOfNums l ++ ⟨#[47]⟩ = strOfNums (l ++ [47]) := by rw [stroke, ← strOf_append]
  rw [e]
  have e2 : strOfNums (l ++ [47]) ++ strOfNums (tdig D) = strOfNums (l ++ 47 :: tdig D) := by rw [← strOf_append, List.append_assoc]; rfl
  rw [← e2]
  refine Ev.congr (fun k => if_pos (by rw [strOfNums_size]; omega)) (Ev.congr (fun k => if_pos ?_) (Ev.now _))
  rw [strOfNums_size, strOfNums_size, List.length_append, List.length_singleton]
  omega
theorem rtext_ok {neg : Bool} {n d : List Int} {N D : Nat} (h : Rf neg n d N D) (hb : Ev (fun k => r2_Form.f k neg n d) true) : Ev (fun k => r2_Text.f k neg n d) (strOfNums (textL neg N D), 0) := by
 have hn := tdig_len (Is.small h.num h.nlen).1
 unfold r2_Text.f textL
 refine Ev.bind hb (Ev.congr (fun k => if_pos rfl) (Ev.bind (rdigs h.num h.nlen) ?_))
 by_cases c : neg = true
 ·rw [if_pos c]
  refine Ev.congr (fun k => if_pos c) (Ev.congr (fun k => if_pos (by rw [strOfNums_size]; omega)) ?_)
  rw [minusS, ← strOf_append, ← List.append_assoc]
  exact rtext_j0 h _ (by rw [List.length_append, List.length_singleton]; omega)
 ·rw [if_neg c, List.nil_append]
  exact Ev.congr (fun k => if_neg c) (rtext_j0 h _ (by omega))
theorem rtext_bad {neg : Bool} {n d : List Int} (h : Ev (fun k => r2_Form.f k neg n d) false) : Ev (fun k => r2_Text.f k neg n d) (⟨#[]⟩, 20) :=
 Ev.bind h (Ev.congr (fun k => if_neg (by decide)) (Ev.now _))
theorem texts_both (a : Bool) (n d : List Int) (hn : Wf n) (hd : Wf d) : ∃ T, Ev (fun k => ratio_Text.f k a n d) T ∧ Ev (fun k => r2_Text.f k a n d) T := by
 obtain ⟨b, h1, h2, h3⟩ := form_both a n d hn hd
 cases b with
 | true => exact ⟨_, text_ok (h3.1 rfl), rtext_ok (h3.1 rfl) h2⟩
 | false => exact ⟨_, text_bad h1, rtext_bad h2⟩
theorem rdOf_len (s : ByteArray) : (rdOf s).2.1.length ≤ 16 ∧ (rdOf s).2.2.1.length ≤ 16 := by
 rcases rdOf_or s with ⟨_, _, h1, h2⟩ | ⟨_, N, D, h⟩
 ·rw [h1, h2]; exact ⟨by simp, by simp⟩
 ·exact ⟨h.nlen, h.dlen⟩
theorem rtexts (a : Bool) (n d : List Int) (s : ByteArray) (hn : Wf n) (hd : Wf d) (ln : n.length ≤ 35184372087808) (ld : d.length ≤ 35184372087808) : Ev (fun k => w2_RatioTexts.f k a n d s) true := by
 unfold w2_RatioTexts.f
 refine Ev.bind wakes2 (Ev.congr (fun k => if_pos rfl) ?_)
 rw [own2 a n d (by omega) (by omega)]
 simp only [Option.bind_some]
 obtain ⟨T, h1, h2⟩ := texts_both a n d hn hd
 have hl := rdOf_len s
 refine Ev.bind h1 (Ev.bind h2 (Ev.bind (ratioRead s) (Ev.bind (rread2 s) (Ev.congr (fun k => if_pos rfl) (Ev.congr (fun k => if_pos rfl) ?_)))))
 have h := rsame2 (rdOf s).1 (rdOf s).2.1 (rdOf s).2.2.1 (rdOf s).1 (rdOf s).2.1 (rdOf s).2.2.1 (by omega) (by omega)
 refine Ev.bind h (Ev.congr (fun k => if_pos (by simp)) ?_)
 rw [beq_self_eq_true]
 exact Ev.now _
theorem rtextsP (a : Bool) (n d : List Int) (s : ByteArray) (hn : Wf n) (hd : Wf d) (ln : n.length ≤ 35184372087808) (ld : d.length ≤ 35184372087808) : ∃ k, w2_RatioTexts.f k a n d s = some true := (rtexts a n d s hn hd ln ld).rounds
end Go.Proofs.Ytgffficaoioljaa.PlN
end
