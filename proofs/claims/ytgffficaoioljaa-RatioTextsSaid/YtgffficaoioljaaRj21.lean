import Derived.Test.YtgffficaoioljaaRj16
import Derived.Test.YtgffficaoioljaaRj19
import Derived.Test.YtgffficaoioljaaRj11
import Derived.Test.YtgffficaoioljaaRj12
import Derived.Test.YtgffficaoioljaaRj13
section
namespace Go.Proofs.Ytgffficaoioljaa.PlN
open Go.RowKit Go.Proofs.Ytgffficaoioljaa.P Go.Proofs.Ytgffficaoioljaa.Pl Go.Proofs.Ytgffficaoioljaa.PlA Go.Proofs.YtgffficaoioljaaW.PrintWords Go.Proofs.YtgffficaoioljaaW.PrintLast Go.Proofs.YtgffficaoioljaaW.PrintMore
set_option linter.unusedVariables false
def mul10 : List Int → Int → List Int × Int
 | [], c => ([], c)
 | x :: l, c => (((x * 10 + c) % 4294967296) :: (mul10 l ((x * 10 + c) / 4294967296)).1, (mul10 l ((x * 10 + c) / 4294967296)).2)
theorem mul10_spec : ∀ {l : List Int} {c : Int}, Wf l → 0 ≤ c ∧ c < 10 → Wf (mul10 l c).1 ∧ (mul10 l c).1.length = l.length ∧ (0 ≤ (mul10 l c).2 ∧ (mul10 l c).2 < 10) ∧ val (mul10 l c).1 + 4294967296 ^ l.length * (mul10 l c).2 = 10 * val l + c
 | [], c, _, hc => ⟨Wf.nil, rfl, hc, by simp [mul10, val]⟩
 | x :: l, c, hw, hc => by
  have hx := hw.head
  obtain ⟨h1, h2, h3, h4⟩ := mul10_spec (l := l) (c := (x * 10 + c) / 4294967296) hw.tail (by omega)
  refine ⟨Wf.cons (by omega) (by omega) h1, by simp [mul10, h2], h3, ?_⟩
  simp only [mul10, val, List.length_cons, Int.pow_succ]
  have h5 : x * 10 + c = (x * 10 + c) % 4294967296 + 4294967296 * ((x * 10 + c) / 4294967296) := by omega
  generalize (x * 10 + c) / 4294967296 = c2 at *
  generalize (x * 10 + c) % 4294967296 = s at *
  generalize (mul10 l c2).2 = c3 at *
  generalize val (mul10 l c2).1 = V at *
  generalize (4294967296 : Int) ^ l.length = P at *
  grind
theorem nm_of_ge {l : List Int} (hw : Wf l) (h0 : l ≠ []) (h : 4294967296 ^ (l.length - 1) ≤ val l) : trim l = l := by
 have hI := Is.of hw rfl
 have h1 := hI.lt
 have h2 := trim_len l
 have h3 : 0 < l.length := List.length_pos_iff.2 h0
 have h4 : (trim l).length = l.length := by
  rcases Nat.lt_or_ge (trim l).length l.length with h5 | h5
  ·have := pow_le (m := (trim l).length) (n := l.length - 1) (by omega)
   omega
  ·omega
 have h5 := trim_take l
 rw [h4, List.take_length] at h5
 exact h5.symm
def pushOf (l : List Int) (d : Int) : List Int := if 0 < (mul10 l d).2 then (mul10 l d).1 ++ [(mul10 l d).2] else (mul10 l d).1
theorem pushOf_is {l : List Int} {v d : Int} (h : Is l v) (hd : 0 ≤ d ∧ d < 10) : Is (pushOf l d) (10 * v + d) := by
 obtain ⟨h1, h2, h3, h4⟩ := mul10_spec h.wf hd
 rw [h.val] at h4
 unfold pushOf
 by_cases hc : 0 < (mul10 l d).2
 ·rw [if_pos hc]
  refine ⟨h1.append (Wf.one h3.1 (by omega)), trim_snoc _ _ (by omega), ?_⟩
  rw [val_snoc, h2]
  exact h4
 ·rw [if_neg hc]
  have hz : (mul10 l d).2 = 0 := by omega
  rw [hz, Int.mul_zero, Int.add_zero] at h4
  refine ⟨h1, ?_, h4⟩
  by_cases hl : (mul10 l d).1 = []
  ·rw [hl]; rfl
  ·refine nm_of_ge h1 hl ?_
   have hl2 : l ≠ [] := by intro e; rw [e] at hl; exact hl rfl
   have h5 := h.ge hl2
   have h6 := h.nonneg
   rw [h4, h2]
   omega
theorem pushOf_len {l : List Int} {d : Int} (hw : Wf l) (hd : 0 ≤ d ∧ d < 10) : (pushOf l d).length ≤ l.length + 1 := by
 obtain ⟨h1, h2, h3, h4⟩ := mul10_spec hw hd
 unfold pushOf
 split
 ·simp [h2]
 ·omega
theorem set_mid_at (P : List Int) (x s : Int) (rest : List Int) : (P ++ x :: rest).set P.length s = (P ++ [s]) ++ rest := by
 rw [List.set_append_right _ _ (Nat.le_refl _)]
 simp
theorem rd_mid_at (P : List Int) (x : Int) (rest : List Int) : rd (P ++ x :: rest) (P.length : Int) = x := by
 rw [rd_of (by simp)]
 simp
theorem push_step (k : Nat) (P : List Int) (x c n : Int) (rest : List Int) (hx : 0 ≤ x ∧ x < 4294967296) (hc : 0 ≤ c ∧ c < 10) (hn : n = ((P ++ x :: rest).length : Int)) (hl : (P ++ x :: rest).length ≤ 70368744177664) :
  nats_Push.l0 (k + 1) (P ++ x :: rest) c n (P.length : Int) = nats_Push.l0 k ((P ++ [(x * 10 + c) % 4294967296]) ++ rest) ((x * 10 + c) / 4294967296) n (((P ++ [(x * 10 + c) % 4294967296]).length : Nat) : Int) := by
 have hlen : (P ++ x :: rest).length = P.length + 1 + rest.length := by simp; omega
 simp only [nats_Push.l0]
 rw [if_pos (by omega), if_pos (by omega), if_pos (by omega), rd_mid_at, u64 (x := x) (by omega) (by omega), u64 (x := x * 10) (by omega) (by omega), u64 (x := x * 10 + c) (by omega) (by omega), Int.toNat_natCast, set_mid_at, winc (by omega)]
 simp
theorem push_l0 : ∀ (rest P : List Int) (c n : Int), Wf rest → 0 ≤ c ∧ c < 10 → n = ((P ++ rest).length : Int) → (P ++ rest).length < 35184372088832 →
  Ev (fun k => nats_Push.l0 k (P ++ rest) c n (P.length : Int)) (if 0 < (mul10 rest c).2 then P ++ (mul10 rest c).1 ++ [(mul10 rest c).2] else P ++ (mul10 rest c).1)
 | [], P, c, n, hw, hc, hn, hl => by
  refine Ev.step (f := fun _ => some (if 0 < (mul10 [] c).2 then P ++ (mul10 [] c).1 ++ [(mul10 [] c).2] else P ++ (mul10 [] c).1)) (fun k => ?_) (Ev.now _)
  rw [List.append_nil] at hn hl
  simp only [nats_Push.l0, mul10, List.append_nil]
  rw [if_neg (by omega)]
  by_cases h : 0 < c
  ·rw [if_pos h, if_pos hl, if_pos h, show c % 4294967296 = c from by omega]
  ·rw [if_neg (by omega), if_neg h]
 | x :: rest, P, c, n, hw, hc, hn, hl => by
  have hx := hw.head
  have ih := push_l0 rest (P ++ [(x * 10 + c) % 4294967296]) ((x * 10 + c) / 4294967296) n hw.tail (by omega) (by rw [hn]; simp) (by simp at hl ⊢; omega)
  have h := Ev.step (g := fun k => nats_Push.l0 k (P ++ x :: rest) c n (P.length : Int)) (fun k => push_step k P x c n rest hx hc hn (by omega)) ih
  simpa [mul10] using h
theorem push (l : List Int) (d : Int) (hw : Wf l) (hd : 0 ≤ d ∧ d < 10) (hl : l.length < 35184372088832) : Ev (fun k => nats_Push.f k l d) (pushOf l d) := by
 have h := push_l0 l [] d (l.length : Int) hw hd (by simp) (by simpa using hl)
 unfold nats_Push.f
 rw [u64 (by omega) (by omega)]
 simpa [pushOf] using h
theorem lread_bg (s : ByteArray) : ∀ (d pos : Nat) (X : List Int), d + pos = s.size → (∀ i, pos ≤ i → i < s.size → 48 ≤ bt s (i : Int) ∧ bt s (i : Int) ≤ 57) → Ev (fun k => limb_Read.l0 k s pos X true) ([], 4)
 | 0, pos, X, hd, h => by
  refine Ev.step (f := fun _ => some ([], 4)) (fun k => ?_) (Ev.now _)
  simp only [limb_Read.l0]
  rw [if_neg (by omega)]
  rfl
 | d + 1, pos, X, hd, h => by
  refine Ev.step (fun k => ?_) (lread_bg s d (pos + 1) X (by omega) (fun i hi hj => h i (by omega) hj))
  simp only [limb_Read.l0]
  rw [if_pos (by omega), if_pos (h pos (Nat.le_refl _) (by omega))]
  rfl
theorem rdigits_all (s : ByteArray) (hs : s.size ≤ 4096) : ∀ (d pos : Nat), d + pos = s.size → (∀ i, pos ≤ i → i < s.size → 48 ≤ bt s (i : Int) ∧ bt s (i : Int) ≤ 57) → Ev (fun k => r1_Digits.l0 k s (pos : Int)) (decide (0 < s.size))
 | 0, pos, hd, h => by
  refine Ev.step (f := fun _ => some (decide (0 < s.size))) (fun k => ?_) (Ev.now _)
  simp only [r1_Digits.l0]
  rw [if_neg (by omega)]
 | d + 1, pos, hd, h => by
  have hdg := h pos (Nat.le_refl _) (by omega)
  refine Ev.step (fun k => ?_) (rdigits_all s hs d (pos + 1) (by omega) (fun i hi hj => h i (by omega) hj))
  simp only [r1_Digits.l0]
  rw [if_pos (by omega), if_pos (by omega), if_neg (by omega), if_neg (by omega), winc (by omega)]
theorem rdigits_bad (s : ByteArray) (hs : s.size ≤ 4096) : ∀ (d pos : Nat), d + pos = s.size → (∃ i, pos ≤ i ∧ i < s.size ∧ ¬ (48 ≤ bt s (i : Int) ∧ bt s (i : Int) ≤ 57)) → Ev (fun k => r1_Digits.l0 k s (pos : Int)) false
 | 0, pos, hd, h => by
  obtain ⟨i, h1, h2, _⟩ := h
  omega
 | d + 1, pos, hd, h => by
  by_cases hdg : 48 ≤ bt s (pos : Int) ∧ bt s (pos : Int) ≤ 57
  ·refine Ev.step (fun k => ?_) (rdigits_bad s hs d (pos + 1) (by omega) (by
    obtain ⟨i, h1, h2, h3⟩ := h
    have : i ≠ pos := fun e => h3 (e ▸ hdg)
    exact ⟨i, by omega, h2, h3⟩))
   simp only [r1_Digits.l0]
   rw [if_pos (by omega), if_pos (by omega), if_neg (by omega), if_neg (by omega), winc (by omega)]
  ·refine Ev.step (f := fun _ => some false) (fun k => ?_) (Ev.now _)
   simp only [r1_Digits.l0]
   rw [if_pos (by omega), if_pos (by omega)]
   by_cases h1 : bt s (pos : Int) < 48
   ·rw [if_pos h1]
   ·rw [if_neg h1, if_pos (by omega)]
end Go.Proofs.Ytgffficaoioljaa.PlN
end
