import Derived.Test.YtgffficaoioljaaRi23
import Derived.Test.YtgffficaoioljaaRi21
import Derived.Test.YtgffficaoioljaaRi22
import Derived.Test.YtgffficaoioljaaRi19
import Derived.Test.YtgffficaoioljaaRi15
import Derived.Test.YtgffficaoioljaaRi16
import Derived.Laws.Closers25b
section
namespace Go.Proofs.Ytgffficaoioljaa.PlN
open Go.RowKit Go.Proofs.Ytgffficaoioljaa.P Go.Proofs.Ytgffficaoioljaa.Pl Go.Proofs.Ytgffficaoioljaa.PlA Go.Proofs.YtgffficaoioljaaW.PrintWords Go.Proofs.YtgffficaoioljaaW.PrintLast Go.Proofs.YtgffficaoioljaaW.PrintMore
set_option linter.unusedVariables false
theorem class_f (x : Int) : ∃ c, ratio_class.f x = some c ∧ (c = 2 ↔ 48 ≤ x ∧ x ≤ 57) ∧ (c = 1 ↔ x = 43 ∨ x = 45) ∧ (c = 3 ↔ x = 47) := by
  unfold ratio_class.f
  by_cases h1 : x < 43
  · rw [if_pos h1]; exact ⟨0, rfl, by omega, by omega, by omega⟩
  · rw [if_neg h1]
    by_cases h2 : 57 < x
    · rw [if_pos h2]; exact ⟨0, rfl, by omega, by omega, by omega⟩
    · rw [if_neg h2]
      have hc : x = 43 ∨ x = 44 ∨ x = 45 ∨ x = 46 ∨ x = 47 ∨ x = 48 ∨ x = 49 ∨ x = 50 ∨ x = 51 ∨ x = 52 ∨ x = 53 ∨ x = 54 ∨ x = 55 ∨ x = 56 ∨ x = 57 := by omega
      rcases hc with rfl | rfl | rfl | rfl | rfl | rfl | rfl | rfl | rfl | rfl | rfl | rfl | rfl | rfl | rfl
      all_goals exact ⟨_, rfl, by decide, by decide, by decide⟩
def nrun (s : ByteArray) : Nat → Nat → Nat → Nat × Nat
  | 0, p, v => (v, p)
  | f + 1, p, v => if 48 ≤ bt s (p : Int) ∧ bt s (p : Int) ≤ 57 then nrun s f (p + 1) (10 * v + (bt s (p : Int) - 48).toNat) else (v, p)
theorem nrun_ge (s : ByteArray) : ∀ (f p v : Nat), p ≤ (nrun s f p v).2 ∧ (nrun s f p v).2 ≤ p + f
  | 0, p, v => ⟨Nat.le_refl _, Nat.le_refl _⟩
  | f + 1, p, v => by
    unfold nrun
    split
    · have := nrun_ge s f (p + 1) (10 * v + (bt s (p : Int) - 48).toNat)
      omega
    · exact ⟨Nat.le_refl _, by simp⟩
theorem nd_stop (s : ByteArray) (x1 : Int) (X : List Int) (p : Nat) (h : ¬ p < s.size ∨ ¬ (48 ≤ bt s (p : Int) ∧ bt s (p : Int) ≤ 57)) : Ev (fun k => ratio_natDigits.l0 k s x1 X (p : Int)) (X, (p : Int), decide ((p : Int) > x1)) := by
  have e : ∀ k, ratio_natDigits.j1 (k + 1) s x1 X (p : Int) false = some (X, (p : Int), decide ((p : Int) > x1)) := fun k => by
    simp only [ratio_natDigits.j1]
    rfl
  by_cases c : p < s.size
  · obtain ⟨t, ht, h2, _⟩ := class_f (bt s (p : Int))
    have ht2 : (t == 2) = false := by
      have : t ≠ 2 := fun e => (h.resolve_left (fun h => h c)) (h2.1 e)
      simp [this]
    refine Ev.step (f := fun k => ratio_natDigits.j1 k s x1 X (p : Int) false) (fun k => ?_) (Ev.step e (Ev.now _))
    simp only [ratio_natDigits.l0]
    rw [if_pos (by omega), if_pos (by omega), ht]
    show ratio_natDigits.j1 k s x1 X (p : Int) (t == 2) = _
    rw [ht2]
  · refine Ev.step (f := fun k => ratio_natDigits.j1 k s x1 X (p : Int) false) (fun k => ?_) (Ev.step e (Ev.now _))
    simp only [ratio_natDigits.l0]
    rw [if_neg (by omega)]
theorem nd_step (s : ByteArray) (x1 : Int) (X : List Int) (v p : Nat) (hs : s.size ≤ 4096) (hp : p < s.size) (hd : 48 ≤ bt s (p : Int) ∧ bt s (p : Int) ≤ 57) (hX : Is X (v : Int)) (hl : X.length ≤ 4096) {R : List Int × Int × Bool}
    (h : ∀ Y, Is Y ((10 * v + (bt s (p : Int) - 48).toNat : Nat) : Int) → Y.length ≤ X.length + 1 → Ev (fun k => ratio_natDigits.l0 k s x1 Y ((p + 1 : Nat) : Int)) R) : Ev (fun k => ratio_natDigits.l0 k s x1 X (p : Int)) R := by
  obtain ⟨t, ht, h2, _⟩ := class_f (bt s (p : Int))
  have ht2 : (t == 2) = true := by rw [h2.2 hd]; rfl
  refine Ev.step (f := fun k => ratio_natDigits.j1 k s x1 X (p : Int) true) (fun k => ?_) ?_
  · simp only [ratio_natDigits.l0]
    rw [if_pos (by omega), if_pos (by omega), ht]
    show ratio_natDigits.j1 k s x1 X (p : Int) (t == 2) = _
    rw [ht2]
  · have e1 : (bt s (p : Int) - 48) % 256 = bt s (p : Int) - 48 := by omega
    have e2 : wrap64 ((p : Int) + 1) = ((p + 1 : Nat) : Int) := winc (by omega)
    generalize hb : bt s (p : Int) = b at *
    have eb : ((b - 48).toNat : Int) = b - 48 := Int.toNat_of_nonneg (by omega)
    by_cases c : b - 48 > 0 ∨ 0 < X.length
    · have hI : Is (pushOf X (b - 48)) ((10 * v + (b - 48).toNat : Nat) : Int) := by
        have := pushOf_is hX (d := b - 48) (by omega)
        rw [show ((10 * v + (b - 48).toNat : Nat) : Int) = 10 * (v : Int) + (b - 48) by omega]
        exact this
      have hL := pushOf_len hX.wf (d := b - 48) (by omega)
      refine Ev.step (f := fun k => (nats_Push.f k X (b - 48)).bind fun t => ratio_natDigits.l0 k s x1 t ((p + 1 : Nat) : Int)) (fun k => ?_) (Ev.bind (push X (b - 48) hX.wf (by omega) (by omega)) (h _ hI hL))
      simp only [ratio_natDigits.j1]
      rw [if_pos trivial, if_pos (by omega), if_pos (by omega), hb, e1, e2]
      by_cases c1 : b - 48 > 0
      · rw [if_pos c1]
      · rw [if_neg c1, if_pos (by omega)]
    · have hX0 : X = [] := List.eq_nil_of_length_eq_zero (by omega)
      have hv : (v : Int) = 0 := hX.zero_iff.1 hX0
      refine Ev.step (f := fun k => ratio_natDigits.l0 k s x1 X ((p + 1 : Nat) : Int)) (fun k => ?_) (h X ?_ (by omega))
      · simp only [ratio_natDigits.j1]
        rw [if_pos trivial, if_pos (by omega), if_pos (by omega), hb, e1, e2, if_neg (by omega), if_neg (by omega)]
      · rw [show ((10 * v + (b - 48).toNat : Nat) : Int) = (v : Int) by omega]
        exact hX
theorem natd (s : ByteArray) (x1 : Int) (hs : s.size ≤ 4096) : ∀ (f p v : Nat) (X : List Int), f + p = s.size → Is X (v : Int) → X.length ≤ p →
    Ev (fun k => ratio_natDigits.l0 k s x1 X (p : Int)) (L (nrun s f p v).1, ((nrun s f p v).2 : Int), decide (((nrun s f p v).2 : Int) > x1))
  | 0, p, v, X, hp, hX, hl => by
    rw [show nrun s 0 p v = (v, p) from rfl, ← eqL hX]
    exact nd_stop s x1 X p (.inl (by omega))
  | f + 1, p, v, X, hp, hX, hl => by
    by_cases c : 48 ≤ bt s (p : Int) ∧ bt s (p : Int) ≤ 57
    · have e : nrun s (f + 1) p v = nrun s f (p + 1) (10 * v + (bt s (p : Int) - 48).toNat) := by
        conv => lhs; unfold nrun
        rw [if_pos c]
      rw [e]
      exact nd_step s x1 X v p hs (by omega) c hX (by omega) (fun Y hY hYl => natd s x1 hs f (p + 1) _ Y (by omega) hY (by omega))
    · have e : nrun s (f + 1) p v = (v, p) := by
        conv => lhs; unfold nrun
        rw [if_neg c]
      rw [e, ← eqL hX]
      exact nd_stop s x1 X p (.inr c)
theorem natDigits (s : ByteArray) (hs : s.size ≤ 4096) (p : Nat) (hp : p ≤ s.size) :
    Ev (fun k => ratio_natDigits.f k s (p : Int)) (L (nrun s (s.size - p) p 0).1, ((nrun s (s.size - p) p 0).2 : Int), decide (((nrun s (s.size - p) p 0).2 : Int) > (p : Int))) :=
  natd s (p : Int) hs (s.size - p) p 0 [] (by omega) Is.nil (by simp)
def rdAt (s : ByteArray) (neg : Bool) (p : Nat) : Bool × List Int × List Int × Int :=
  if (nrun s (s.size - p) p 0).2 ≤ p then (false, [], [], 21)
  else if (nrun s (s.size - p) p 0).2 < s.size then
    (if bt s ((nrun s (s.size - p) p 0).2 : Int) = 47 then
      (if (nrun s (s.size - ((nrun s (s.size - p) p 0).2 + 1)) ((nrun s (s.size - p) p 0).2 + 1) 0).2 ≤ (nrun s (s.size - p) p 0).2 + 1 ∨ (nrun s (s.size - ((nrun s (s.size - p) p 0).2 + 1)) ((nrun s (s.size - p) p 0).2 + 1) 0).2 < s.size ∨ (nrun s (s.size - ((nrun s (s.size - p) p 0).2 + 1)) ((nrun s (s.size - p) p 0).2 + 1) 0).1 = 0 then (false, [], [], 21)
      else mkOf neg (nrun s (s.size - p) p 0).1 (nrun s (s.size - ((nrun s (s.size - p) p 0).2 + 1)) ((nrun s (s.size - p) p 0).2 + 1) 0).1)
    else (false, [], [], 21))
  else mkOf neg (nrun s (s.size - p) p 0).1 1
theorem L_len {s : ByteArray} (hs : s.size ≤ 4096) : ∀ (f p v : Nat), f + p = s.size → (L v).length ≤ p → (L (nrun s f p v).1).length ≤ s.size
  | 0, p, v, hp, h => by rw [show nrun s 0 p v = (v, p) from rfl]; show (L v).length ≤ _; omega
  | f + 1, p, v, hp, h => by
    by_cases c : 48 ≤ bt s (p : Int) ∧ bt s (p : Int) ≤ 57
    · have e : nrun s (f + 1) p v = nrun s f (p + 1) (10 * v + (bt s (p : Int) - 48).toNat) := by
        conv => lhs; unfold nrun
        rw [if_pos c]
      rw [e]
      refine L_len hs f (p + 1) _ (by omega) ?_
      have hI := pushOf_is (L_is v) (d := bt s (p : Int) - 48) (by omega)
      have hL := pushOf_len (L_is v).wf (d := bt s (p : Int) - 48) (by omega)
      have e2 : pushOf (L v) (bt s (p : Int) - 48) = L (10 * v + (bt s (p : Int) - 48).toNat) := eqL (by rw [show ((10 * v + (bt s (p : Int) - 48).toNat : Nat) : Int) = 10 * (v : Int) + (bt s (p : Int) - 48) by omega]; exact hI)
      rw [← e2]
      omega
    · have e : nrun s (f + 1) p v = (v, p) := by
        conv => lhs; unfold nrun
        rw [if_neg c]
      rw [e]
      show (L v).length ≤ _
      omega
theorem makeL (neg : Bool) (n d : Nat) (hn : (L n).length ≤ 4096) (hd : (L d).length ≤ 4096) : Ev (fun k => ratio_Make.f k neg (L n) (L d)) (mkOf neg n d) := by
  have := make neg (L n) (L d) (L_is n).wf (L_is d).wf (by omega) (by omega)
  rw [(L_is n).val, (L_is d).val, Int.toNat_natCast, Int.toNat_natCast] at this
  exact this
theorem read_j3 (neg : Bool) (n d : Nat) (hn : (L n).length ≤ 4096) (hd : (L d).length ≤ 4096) : Ev (fun k => ratio_Read.j3 k neg (L n) (L d)) (mkOf neg n d) := by
  refine Ev.step (f := fun k => (ratio_Make.f k neg (L n) (L d)).bind fun t => some t) (fun k => ?_) (Ev.bind (makeL neg n d hn hd) (Ev.now _))
  simp only [ratio_Read.j3]
theorem read_j2_bad (neg : Bool) (n d : List Int) : Ev (fun k => ratio_Read.j2 k neg n d true) (false, [], [], 21) := by
  refine Ev.step (f := fun k => some (false, [], [], 21)) (fun k => ?_) (Ev.now _)
  simp only [ratio_Read.j2]
  rfl
theorem read_j2 (neg : Bool) (n d : Nat) (hn : (L n).length ≤ 4096) (hd : (L d).length ≤ 4096) : Ev (fun k => ratio_Read.j2 k neg (L n) (L d) false) (mkOf neg n d) := by
  refine Ev.step (f := fun k => ratio_Read.j3 k neg (L n) (L d)) (fun k => ?_) (read_j3 neg n d hn hd)
  simp only [ratio_Read.j2]
  rfl
theorem read_j1 (s : ByteArray) (hs : s.size ≤ 4096) (neg : Bool) (p : Nat) (hp : p ≤ s.size) : Ev (fun k => ratio_Read.j1 k s neg (p : Int)) (rdAt s neg p) := by
  have h1 := natDigits s hs p hp
  have hg := nrun_ge s (s.size - p) p 0
  have hL := L_len hs (s.size - p) p 0 (by omega) (by rw [zero_L]; simp)
  unfold rdAt
  generalize ha : nrun s (s.size - p) p 0 = a at *
  refine Ev.step (fun k => rfl) (Ev.bind h1 ?_)
  by_cases c1 : a.2 ≤ p
  · rw [if_pos c1]
    exact Ev.congr (fun k => if_neg (show ¬ decide ((a.2 : Int) > (p : Int)) = true by simp; omega)) (Ev.now _)
  · rw [if_neg c1]
    refine Ev.congr (fun k => if_pos (show decide ((a.2 : Int) > (p : Int)) = true by simp; omega)) ?_
    by_cases c2 : a.2 < s.size
    · rw [if_pos c2]
      refine Ev.congr (fun k => if_pos (show (a.2 : Int) < (s.size : Int) by omega)) (Ev.congr (fun k => if_pos (show (0 : Int) ≤ (a.2 : Int) by omega)) ?_)
      obtain ⟨t, ht, _, _, h3⟩ := class_f (bt s (a.2 : Int))
      show Ev (fun k => (ratio_class.f (bt s (a.2 : Int))).bind _) _
      rw [ht]
      by_cases c3 : bt s (a.2 : Int) = 47
      · rw [if_pos c3]
        refine Ev.congr (fun k => if_pos (h3.2 c3)) ?_
        have e2 : wrap64 ((a.2 : Int) + 1) = ((a.2 + 1 : Nat) : Int) := winc (by omega)
        have h2 := natDigits s hs (a.2 + 1) (by omega)
        have hg2 := nrun_ge s (s.size - (a.2 + 1)) (a.2 + 1) 0
        have hL2 := L_len hs (s.size - (a.2 + 1)) (a.2 + 1) 0 (by omega) (by rw [zero_L]; simp)
        generalize hb : nrun s (s.size - (a.2 + 1)) (a.2 + 1) 0 = b at *
        show Ev (fun k => (ratio_natDigits.f k s (wrap64 ((a.2 : Int) + 1))).bind _) _
        rw [e2]
        refine Ev.bind h2 ?_
        by_cases c4 : b.2 ≤ a.2 + 1
        · rw [if_pos (Or.inl c4)]
          exact Ev.congr (fun k => if_neg (show ¬ decide ((b.2 : Int) > ((a.2 + 1 : Nat) : Int)) = true by simp; omega)) (read_j2_bad neg _ _)
        · refine Ev.congr (fun k => if_pos (show decide ((b.2 : Int) > ((a.2 + 1 : Nat) : Int)) = true by simp; omega)) ?_
          by_cases c5 : b.2 < s.size
          · rw [if_pos (Or.inr (Or.inl c5))]
            exact Ev.congr (fun k => if_pos (show (b.2 : Int) < (s.size : Int) by omega)) (read_j2_bad neg _ _)
          · refine Ev.congr (fun k => if_neg (show ¬ (b.2 : Int) < (s.size : Int) by omega)) ?_
            by_cases c6 : b.1 = 0
            · rw [if_pos (Or.inr (Or.inr c6))]
              show Ev (fun k => ratio_Read.j2 k neg (L a.1) (L b.1) (((L b.1).length : Int) == 0)) _
              rw [c6, zero_L]
              exact read_j2_bad neg _ _
            · rw [if_neg (show ¬ (b.2 ≤ a.2 + 1 ∨ b.2 < s.size ∨ b.1 = 0) by omega)]
              show Ev (fun k => ratio_Read.j2 k neg (L a.1) (L b.1) (((L b.1).length : Int) == 0)) _
              have e : (((L b.1).length : Int) == 0) = false := by
                have : L b.1 ≠ [] := fun e => c6 (by have := (L_is b.1).zero_iff.1 e; omega)
                have := List.length_pos_iff.2 this
                simp
                intro e
                rw [e] at this
                exact absurd this (by simp)
              rw [e]
              exact read_j2 neg a.1 b.1 (by omega) (by omega)
      · rw [if_neg c3]
        exact Ev.congr (fun k => if_neg (fun e => c3 (h3.1 e))) (Ev.now _)
    · rw [if_neg c2]
      refine Ev.congr (fun k => if_neg (show ¬ (a.2 : Int) < (s.size : Int) by omega)) ?_
      have := read_j3 neg a.1 1 (by omega) (by rw [one_L]; simp)
      rw [one_L] at this
      exact this
def rdOf (s : ByteArray) : Bool × List Int × List Int × Int :=
  if 4096 < s.size then (false, [], [], 3) else if 0 < s.size ∧ (bt s 0 = 43 ∨ bt s 0 = 45) then rdAt s (bt s 0 == 45) 1 else rdAt s false 0
theorem size_zero {s : ByteArray} (h : s.toList = []) : s.size = 0 := by
  rw [(toList_nil_iff_emptyBytes s).1 h]; rfl
theorem ratioRead (s : ByteArray) : Ev (fun k => ratio_Read.f k s) (rdOf s) := by
  unfold ratio_Read.f rdOf
  by_cases c1 : 4096 < s.size
  · rw [if_pos c1]
    exact Ev.congr (fun k => if_pos (by omega)) (Ev.now _)
  · rw [if_neg c1]
    refine Ev.congr (fun k => if_neg (by omega)) ?_
    have j0f : Ev (fun k => ratio_Read.j0 k s false 0 false) (rdAt s false 0) := by
      refine Ev.step (f := fun k => ratio_Read.j1 k s false 0) (fun k => ?_) (read_j1 s (by omega) false 0 (by omega))
      simp only [ratio_Read.j0]
      rfl
    by_cases c2 : s.toList = []
    · have hz := size_zero c2
      rw [if_neg (show ¬ (0 < s.size ∧ (bt s 0 = 43 ∨ bt s 0 = 45)) by omega)]
      exact Ev.congr (fun k => if_pos c2) j0f
    · have hz : 0 < s.size := by
        rcases Nat.eq_zero_or_pos s.size with h | h
        · exact absurd ((toList_nil_iff_emptyBytes s).2 (empty_of_size h)) c2
        · exact h
      refine Ev.congr (fun k => if_neg c2) (Ev.congr (fun k => if_pos (by omega)) ?_)
      obtain ⟨t, ht, _, h2, _⟩ := class_f (bt s 0)
      rw [ht]
      show Ev (fun k => ratio_Read.j0 k s false 0 (t == 1)) _
      by_cases c3 : bt s 0 = 43 ∨ bt s 0 = 45
      · rw [if_pos ⟨hz, c3⟩, show (t == 1) = true by rw [h2.2 c3]; rfl]
        refine Ev.step (f := fun k => ratio_Read.j1 k s (bt s 0 == 45) 1) (fun k => ?_) (read_j1 s (by omega) (bt s 0 == 45) 1 (by omega))
        simp only [ratio_Read.j0]
        rw [if_pos trivial, if_pos (by omega)]
      · rw [if_neg (show ¬ (0 < s.size ∧ (bt s 0 = 43 ∨ bt s 0 = 45)) from fun h => c3 h.2), show (t == 1) = false by have : t ≠ 1 := fun e => c3 (h2.1 e); simp [this]]
        exact j0f
theorem rdAt_or (s : ByteArray) (neg : Bool) (p : Nat) : rdAt s neg p = (false, [], [], 21) ∨ ∃ n d, rdAt s neg p = mkOf neg n d := by
  unfold rdAt
  split
  · exact .inl rfl
  · split
    · split
      · split
        · exact .inl rfl
        · exact .inr ⟨_, _, rfl⟩
      · exact .inl rfl
    · exact .inr ⟨_, _, rfl⟩
theorem rdOf_or (s : ByteArray) : ((rdOf s).2.2.2 ≠ 0 ∧ (rdOf s).1 = false ∧ (rdOf s).2.1 = [] ∧ (rdOf s).2.2.1 = []) ∨ ((rdOf s).2.2.2 = 0 ∧ ∃ N D, Rf (rdOf s).1 (rdOf s).2.1 (rdOf s).2.2.1 N D) := by
  have key : ∀ R : Bool × List Int × List Int × Int, (R = (false, [], [], 21) ∨ ∃ neg n d, R = mkOf neg n d) → (R.2.2.2 ≠ 0 ∧ R.1 = false ∧ R.2.1 = [] ∧ R.2.2.1 = []) ∨ (R.2.2.2 = 0 ∧ ∃ N D, Rf R.1 R.2.1 R.2.2.1 N D) := by
    intro R h
    rcases h with rfl | ⟨neg, n, d, rfl⟩
    · exact .inl ⟨by decide, rfl, rfl, rfl⟩
    · by_cases c : (mkOf neg n d).2.2.2 = 0
      · exact .inr ⟨c, mk_form c⟩
      · exact .inl ⟨c, mk_err c⟩
  unfold rdOf
  by_cases c1 : 4096 < s.size
  · rw [if_pos c1]
    exact .inl ⟨by decide, rfl, rfl, rfl⟩
  · rw [if_neg c1]
    apply key
    split
    · rcases rdAt_or s (bt s 0 == 45) 1 with h | ⟨n, d, h⟩
      · exact .inl h
      · exact .inr ⟨_, n, d, h⟩
    · rcases rdAt_or s false 0 with h | ⟨n, d, h⟩
      · exact .inl h
      · exact .inr ⟨_, n, d, h⟩
def ldn : List Int → Nat → Nat
  | [], v => v
  | x :: l, v => ldn l (10 * v + (x - 48).toNat)
theorem ldn_snoc : ∀ (l : List Int) (x : Int) (v : Nat), ldn (l ++ [x]) v = 10 * ldn l v + (x - 48).toNat
  | [], _, _ => rfl
  | y :: l, x, v => by simp only [List.cons_append, ldn, ldn_snoc l x]
theorem ldn_dig (v : Nat) : ldn (dig v).reverse 0 = v := by
  induction v using Nat.strongRecOn with
  | _ v ih =>
    by_cases h : v = 0
    · rw [h, dig_zero]; rfl
    · rw [dig_pos h, List.reverse_cons, ldn_snoc, ih (v / 10) (by omega)]
      omega
def tdig (v : Nat) : List Int := if v = 0 then [48] else (dig v).reverse
theorem tdig_text (v : Nat) : textOf v = strOfNums (tdig v) := by
  unfold textOf tdig
  by_cases h : v = 0
  · rw [if_pos h, if_pos h]; decide +kernel
  · rw [if_neg h, if_neg h]
theorem tdig_digs (v : Nat) : Digs (tdig v) := by
  unfold tdig
  by_cases h : v = 0
  · rw [if_pos h]; exact Digs.one (by omega)
  · rw [if_neg h]; exact fun x hx => dig_wf v x (List.mem_reverse.1 hx)
theorem tdig_ne (v : Nat) : 0 < (tdig v).length := by
  unfold tdig
  by_cases h : v = 0
  · rw [if_pos h]; simp
  · rw [if_neg h, List.length_reverse]; exact List.length_pos_iff.2 (dig_ne h)
theorem tdig_val (v : Nat) : ldn (tdig v) 0 = v := by
  unfold tdig
  by_cases h : v = 0
  · rw [if_pos h, h]; rfl
  · rw [if_neg h]; exact ldn_dig v
theorem tdig_len {v : Nat} (h : v < 10 ^ 155) : (tdig v).length ≤ 155 := by
  unfold tdig
  by_cases h0 : v = 0
  · rw [if_pos h0]; simp
  · rw [if_neg h0, List.length_reverse]; exact dig_len 155 v h
theorem pow16' : (4294967296 : Int) ^ 16 < 1000000000 ^ 18 ∧ (4294967296 : Int) ^ 16 < 10 ^ 155 := by decide +kernel
theorem Is.small {l : List Int} {v : Nat} (h : Is l (v : Int)) (hl : l.length ≤ 16) : v < 10 ^ 155 ∧ val l < 1000000000 ^ 18 := by
  have h1 := h.lt
  have h2 := pow_le (m := l.length) (n := 16) hl
  have h3 := pow16'
  have h4 := h.val
  have h5 : (((10 ^ 155 : Nat) : Nat) : Int) = (10 : Int) ^ 155 := by rw [Int.natCast_pow]; rfl
  refine ⟨?_, by omega⟩
  have : (v : Int) < ((10 ^ 155 : Nat) : Int) := by rw [h5]; omega
  exact Int.ofNat_lt.1 this
theorem ratioDigits {l : List Int} {v : Nat} (h : Is l (v : Int)) (hl : l.length ≤ 16) : Ev (fun k => nats_Digits.f k l) (strOfNums (tdig v)) := by
  have := digits l h.wf (by omega) (Is.small h hl).2
  rw [h.val, Int.toNat_natCast, tdig_text] at this
  exact this
def textL (neg : Bool) (N D : Nat) : List Int := (if neg = true then [45] else []) ++ (tdig N ++ (if D = 1 then [] else 47 :: tdig D))
theorem stroke : (⟨#[47]⟩ : ByteArray) = strOfNums [47] := by decide +kernel
theorem minusS : (⟨#[45]⟩ : ByteArray) = strOfNums [45] := by decide +kernel
theorem text_j0 {neg a : Bool} {n d : List Int} {N D : Nat} (h : Rf neg n d N D) (l : List Int) (hl : l.length ≤ 156) : Ev (fun k => ratio_Text.j0 k (strOfNums l) a n d) (strOfNums (l ++ (if D = 1 then [] else 47 :: tdig D)), 0) := by
  have hd := tdig_len (Is.small h.den h.dlen).1
  refine Ev.step (fun k => rfl) ?_
  show Ev (fun k => (ratio_one.f d).bind _) _
  rw [one_f h.den]
  by_cases c : D = 1
  · rw [if_pos c, List.append_nil]
    exact Ev.congr (fun k => if_pos (by simp [c])) (Ev.now _)
  · rw [if_neg c]
    refine Ev.congr (fun k => if_neg (by simp [c])) (Ev.bind (ratioDigits h.den h.dlen) ?_)
    have e : (⟨#[47]⟩ : ByteArray) ++ strOfNums (tdig D) = strOfNums (47 :: tdig D) := by rw [stroke, ← strOf_append]; rfl
    rw [e, ← strOf_append]
    refine Ev.congr (fun k => if_pos (by rw [strOfNums_size]; omega)) (Ev.congr (fun k => if_pos (by rw [strOfNums_size, strOfNums_size, List.length_cons]; omega)) (Ev.now _))
theorem text_ok {neg : Bool} {n d : List Int} {N D : Nat} (h : Rf neg n d N D) : Ev (fun k => ratio_Text.f k neg n d) (strOfNums (textL neg N D), 0) := by
  have hn := tdig_len (Is.small h.num h.nlen).1
  unfold ratio_Text.f textL
  refine Ev.bind (form_true h) (Ev.congr (fun k => if_pos rfl) (Ev.bind (ratioDigits h.num h.nlen) ?_))
  by_cases c : neg = true
  · rw [if_pos c]
    refine Ev.congr (fun k => if_pos c) (Ev.congr (fun k => if_pos (by rw [strOfNums_size]; omega)) ?_)
    rw [minusS, ← strOf_append, ← List.append_assoc]
    exact text_j0 h _ (by rw [List.length_append, List.length_singleton]; omega)
  · rw [if_neg c, List.nil_append]
    exact Ev.congr (fun k => if_neg c) (text_j0 h _ (by omega))
theorem text_bad {neg : Bool} {n d : List Int} (h : Ev (fun k => ratio_Form.f k neg n d) false) : Ev (fun k => ratio_Text.f k neg n d) (⟨#[]⟩, 20) :=
  Ev.bind h (Ev.congr (fun k => if_neg (by decide)) (Ev.now _))
theorem bt_num (l : List Int) (i : Nat) (hi : i < l.length) (h : 0 ≤ rd l (i : Int) ∧ rd l (i : Int) ≤ 255) : bt (strOfNums l) (i : Int) = rd l (i : Int) := by
  have hs : i < (strOfNums l).size := by rw [strOfNums_size]; exact hi
  have hr := rd_of hi
  unfold bt
  rw [dif_pos (by rw [Int.toNat_natCast]; exact hs)]
  rw [hr] at h ⊢
  have e : (strOfNums l)[i]'hs = UInt8.ofNat (l[i]).toNat := by
    show (strOfNums l).data[i]'_ = _
    simp [strOfNums]
  simp only [Int.toNat_natCast, e]
  rw [UInt8.toNat_ofNat']
  omega
theorem rd_at (a : List Int) (x : Int) (b : List Int) : rd (a ++ x :: b) (a.length : Int) = x := by
  rw [rd_nat, List.getD_eq_getElem?_getD, List.getElem?_append_right (Nat.le_refl _), Nat.sub_self]; rfl
theorem nrun_str (post : List Int) (hp : post = [] ∨ ∃ x r, post = x :: r ∧ (0 ≤ x ∧ x ≤ 255) ∧ ¬ (48 ≤ x ∧ x ≤ 57)) : ∀ (D pre : List Int) (v : Nat), Digs D →
    nrun (strOfNums (pre ++ (D ++ post))) (D.length + post.length) pre.length v = (ldn D v, pre.length + D.length)
  | [], pre, v, hD => by
    rcases hp with rfl | ⟨x, r, rfl, hx, hn⟩
    · rfl
    · show nrun (strOfNums (pre ++ x :: r)) ([].length + (x :: r).length) pre.length v = _
      rw [show ([] : List Int).length + (x :: r).length = r.length + 1 by simp]
      unfold nrun
      rw [bt_num _ _ (by simp) (by rw [rd_at]; exact hx), rd_at, if_neg hn]
      rfl
  | y :: D, pre, v, hD => by
    have hy := hD y List.mem_cons_self
    show nrun (strOfNums (pre ++ y :: (D ++ post))) ((y :: D).length + post.length) pre.length v = _
    rw [show (y :: D).length + post.length = (D.length + post.length) + 1 by simp; omega]
    have e := nrun_str post hp D (pre ++ [y]) (10 * v + (y - 48).toNat) (fun z hz => hD z (List.mem_cons_of_mem _ hz))
    rw [List.append_assoc, List.length_append, List.length_singleton] at e
    unfold nrun
    rw [bt_num _ _ (by simp) (by rw [rd_at]; omega), rd_at, if_pos hy]
    rw [show [y] ++ (D ++ post) = y :: (D ++ post) from rfl] at e
    rw [e]
    simp only [ldn, List.length_cons]
    congr 1
    omega
theorem rdAt_text {neg : Bool} {n d : List Int} {N D : Nat} (h : Rf neg n d N D) (pre : List Int) : rdAt (strOfNums (pre ++ (tdig N ++ (if D = 1 then [] else 47 :: tdig D)))) neg pre.length = (neg, n, d, 0) := by
  have t1 := tdig_ne N
  have t2 := tdig_ne D
  unfold rdAt
  by_cases c : D = 1
  · rw [if_pos c]
    have e := nrun_str [] (.inl rfl) (tdig N) pre 0 (tdig_digs N)
    rw [tdig_val] at e
    rw [strOfNums_size, show (pre ++ (tdig N ++ ([] : List Int))).length - pre.length = (tdig N).length + ([] : List Int).length by simp, e]
    rw [if_neg (show ¬ pre.length + (tdig N).length ≤ pre.length by omega), if_neg (show ¬ pre.length + (tdig N).length < (pre ++ (tdig N ++ ([] : List Int))).length by simp)]
    rw [← c]
    exact mk_of h
  · rw [if_neg c]
    have e := nrun_str (47 :: tdig D) (.inr ⟨47, tdig D, rfl, by omega, by omega⟩) (tdig N) pre 0 (tdig_digs N)
    rw [tdig_val] at e
    have e2 := nrun_str [] (.inl rfl) (tdig D) (pre ++ tdig N ++ [47]) 0 (tdig_digs D)
    rw [tdig_val, show pre ++ tdig N ++ ([47] : List Int) ++ (tdig D ++ ([] : List Int)) = pre ++ (tdig N ++ 47 :: tdig D) by simp, show (pre ++ tdig N ++ ([47] : List Int)).length = pre.length + (tdig N).length + 1 by simp; omega] at e2
    have hs : (pre ++ (tdig N ++ 47 :: tdig D)).length = pre.length + (tdig N).length + 1 + (tdig D).length := by simp; omega
    rw [strOfNums_size, hs, show pre.length + (tdig N).length + 1 + (tdig D).length - pre.length = (tdig N).length + (47 :: tdig D).length by simp; omega, e]
    simp only []
    rw [show pre.length + (tdig N).length + 1 + (tdig D).length - (pre.length + (tdig N).length + 1) = (tdig D).length + ([] : List Int).length by simp, e2]
    have e3 : bt (strOfNums (pre ++ (tdig N ++ 47 :: tdig D))) ((pre.length + (tdig N).length : Nat) : Int) = 47 := by
      have := rd_at (pre ++ tdig N) 47 (tdig D)
      rw [List.append_assoc, List.length_append] at this
      rw [bt_num _ _ (by rw [hs]; omega) (by rw [this]; omega), this]
    rw [if_neg (show ¬ pre.length + (tdig N).length ≤ pre.length by omega), if_pos (show pre.length + (tdig N).length < pre.length + (tdig N).length + 1 + (tdig D).length by omega), if_pos e3]
    have hp := h.pos
    rw [if_neg (show ¬ (pre.length + (tdig N).length + 1 + (tdig D).length ≤ pre.length + (tdig N).length + 1 ∨ pre.length + (tdig N).length + 1 + (tdig D).length < pre.length + (tdig N).length + 1 + (tdig D).length ∨ D = 0) by omega)]
    exact mk_of h
theorem rdOf_text {neg : Bool} {n d : List Int} {N D : Nat} (h : Rf neg n d N D) : rdOf (strOfNums (textL neg N D)) = (neg, n, d, 0) := by
  have l1 := tdig_len (Is.small h.num h.nlen).1
  have l2 := tdig_len (Is.small h.den h.dlen).1
  have t1 := tdig_ne N
  have hlen : (textL neg N D).length ≤ 4000 := by
    unfold textL
    split <;> split <;> simp <;> omega
  unfold rdOf
  rw [strOfNums_size, if_neg (by omega)]
  by_cases c : neg = true
  · have e : textL neg N D = [45] ++ (tdig N ++ (if D = 1 then [] else 47 :: tdig D)) := by unfold textL; rw [if_pos c]
    have e1 : bt (strOfNums (textL neg N D)) 0 = 45 := by
      have h0 : rd (textL neg N D) ((0 : Nat) : Int) = 45 := by rw [e]; rfl
      have := bt_num (textL neg N D) 0 (by rw [e]; simp) (by rw [h0]; omega)
      rw [h0] at this
      exact this
    rw [if_pos ⟨by rw [e]; simp, .inr e1⟩, e1, show ((45 : Int) == 45) = true from rfl, ← c, e]
    exact rdAt_text h [45]
  · have cf : neg = false := by simpa using c
    have e : textL neg N D = [] ++ (tdig N ++ (if D = 1 then [] else 47 :: tdig D)) := by unfold textL; rw [if_neg c]
    have e1 : 48 ≤ bt (strOfNums (textL neg N D)) 0 ∧ bt (strOfNums (textL neg N D)) 0 ≤ 57 := by
      obtain ⟨y, r, hy⟩ : ∃ y r, tdig N = y :: r := by
        cases ht : tdig N with
        | nil => rw [ht] at t1; simp at t1
        | cons y r => exact ⟨y, r, rfl⟩
      have hyd := tdig_digs N y (by rw [hy]; exact List.mem_cons_self)
      have h0 : rd (textL neg N D) ((0 : Nat) : Int) = y := by rw [e, hy]; rfl
      have := bt_num (textL neg N D) 0 (by rw [e, hy]; simp) (by rw [h0]; omega)
      rw [h0] at this
      rw [show (0 : Int) = ((0 : Nat) : Int) from rfl, this]
      exact hyd
    rw [if_neg (show ¬ (0 < (textL neg N D).length ∧ (bt (strOfNums (textL neg N D)) 0 = 43 ∨ bt (strOfNums (textL neg N D)) 0 = 45)) by omega)]
    have := rdAt_text h []
    rw [e, ← cf]
    exact this
theorem copy2 (a : Bool) (n d : List Int) (hn : n.length < 35184372088832) (hd : d.length < 35184372088832) : sibylref02_Copy.f a n d = some (a, n, d) := by
  unfold sibylref02_Copy.f
  simp only [Option.bind_some, List.length_nil, List.nil_append]
  rw [if_pos (by omega), if_pos (by omega)]
theorem own2 (a : Bool) (n d : List Int) (hn : n.length < 35184372088832) (hd : d.length < 35184372088832) : sibyllaw02_own.f a n d = some (a, n, d) := by
  unfold sibyllaw02_own.f
  rw [copy2 a n d hn hd]
  rfl
theorem equal_l0 (l : List Int) (hl : l.length ≤ 70368744177664) : ∀ (d i : Nat), d + i = l.length → Ev (fun k => slices_Equal_uint32_uint32.l0 k l l (l.length : Int) (i : Int)) true
  | 0, i, h => by
    refine Ev.step (f := fun _ => some true) (fun k => ?_) (Ev.now _)
    simp only [slices_Equal_uint32_uint32.l0]
    rw [if_neg (by omega)]
  | d + 1, i, h => by
    refine Ev.step (f := fun k => slices_Equal_uint32_uint32.l0 k l l (l.length : Int) ((i + 1 : Nat) : Int)) (fun k => ?_) (equal_l0 l hl d (i + 1) (by omega))
    simp only [slices_Equal_uint32_uint32.l0]
    rw [if_pos (by omega), if_pos (by omega), if_pos (by omega), if_pos (by omega), if_pos trivial, winc (by omega)]
theorem equal_refl (l : List Int) (hl : l.length ≤ 70368744177664) : Ev (fun k => slices_Equal_uint32_uint32.f k l l) true := by
  unfold slices_Equal_uint32_uint32.f
  exact Ev.congr (fun k => if_pos rfl) (equal_l0 l hl l.length 0 (by omega))
theorem same2_refl (a : Bool) (n d : List Int) (hn : n.length ≤ 70368744177664) (hd : d.length ≤ 70368744177664) : Ev (fun k => ratio_Same.f k a n d a n d) true := by
  unfold ratio_Same.f
  exact Ev.congr (fun k => if_pos (by simp)) (Ev.bind (equal_refl n hn) (Ev.congr (fun k => if_pos rfl) (Ev.bind (equal_refl d hd) (Ev.now _))))
theorem zero2 : sibylref02_Zero.f false [] [] = some true := by decide
theorem read_text2 {neg : Bool} {n d : List Int} {N D : Nat} (h : Rf neg n d N D) : Ev (fun k => ratio_Read.f k (strOfNums (textL neg N D))) (neg, n, d, 0) := by
  have := ratioRead (strOfNums (textL neg N D))
  rw [rdOf_text h] at this
  exact this
theorem rback_j0 (s : ByteArray) : Ev (fun k => sibyllaw02_RatioBack.j0 k s) true := by
  refine Ev.step (fun k => rfl) (Ev.bind (ratioRead s) ?_)
  generalize hR : rdOf s = R
  have h := rdOf_or s
  rw [hR] at h
  obtain ⟨neg, n, d, e⟩ := R
  simp only at h ⊢
  rcases h with ⟨he, rfl, rfl, rfl⟩ | ⟨rfl, N, D, hf⟩
  · refine Ev.congr (fun k => if_neg he) ?_
    rw [zero2]
    exact Ev.now _
  · refine Ev.congr (fun k => if_pos rfl) (Ev.bind (text_ok hf) (Ev.bind (read_text2 hf) ?_))
    refine Ev.congr (fun k => if_pos rfl) (Ev.congr (fun k => if_pos rfl) (Ev.bind (same2_refl neg n d ?_ ?_) (Ev.now _)))
    · have := hf.nlen; omega
    · have := hf.dlen; omega
theorem rback (a : Bool) (n d : List Int) (s : ByteArray) (hn : Wf n) (hd : Wf d) (ln : n.length ≤ 35184372088800) (ld : d.length ≤ 35184372088800) : Ev (fun k => sibyllaw02_RatioBack.f k a n d s) true := by
  unfold sibyllaw02_RatioBack.f
  refine Ev.bind wakes2 (Ev.congr (fun k => if_pos rfl) ?_)
  rw [own2 a n d (by omega) (by omega)]
  simp only [Option.bind_some]
  obtain ⟨b, hb, hi⟩ := form a n d hn hd
  cases b with
  | true =>
    have hf := hi.1 rfl
    refine Ev.bind (text_ok hf) (Ev.bind hb (Ev.congr (fun k => if_neg (by simp)) (Ev.congr (fun k => if_pos rfl) (Ev.bind (read_text2 hf) ?_))))
    exact Ev.congr (fun k => if_pos rfl) (Ev.bind (same2_refl a n d (by omega) (by omega)) (Ev.congr (fun k => if_pos rfl) (rback_j0 s)))
  | false =>
    exact Ev.bind (text_bad hb) (Ev.bind hb (Ev.congr (fun k => if_neg (by decide)) (Ev.congr (fun k => if_neg (by decide)) (rback_j0 s))))
theorem rbackP (a : Bool) (n d : List Int) (s : ByteArray) (hn : Wf n) (hd : Wf d) (ln : n.length ≤ 35184372087808) (ld : d.length ≤ 35184372087808) : ∃ k, sibyllaw02_RatioBack.f k a n d s = some true := (rback a n d s hn hd (by omega) (by omega)).rounds
end Go.Proofs.Ytgffficaoioljaa.PlN
end
