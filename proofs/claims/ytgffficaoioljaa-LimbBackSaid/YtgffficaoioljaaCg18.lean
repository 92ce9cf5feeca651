import Derived.Test.YtgffficaoioljaaCg14
import Derived.Test.YtgffficaoioljaaCg16
import Derived.Test.YtgffficaoioljaaCg11
section
namespace Go.Proofs.Ytgffficaoioljaa.PlN
open Go.RowKit Go.Proofs.Ytgffficaoioljaa.P Go.Proofs.Ytgffficaoioljaa.Pl Go.Proofs.Ytgffficaoioljaa.PlA Go.Proofs.YtgffficaoioljaaW.PrintWords Go.Proofs.YtgffficaoioljaaW.PrintLast Go.Proofs.YtgffficaoioljaaW.PrintMore
set_option linter.unusedVariables false
def mul10 : List Int → Int → List Int × Int
  | [], c => ([], c)
  | x :: l, c => (((x * 10 + c) % 4294967296) :: (mul10 l ((x * 10 + c) / 4294967296)).1, (mul10 l ((x * 10 + c) / 4294967296)).2)
theorem mul10_spec : ∀ {l : List Int} {c : Int}, Wf l → 0 ≤ c ∧ c < 10 → Wf (mul10 l c).1 ∧ (mul10 l c).1.length = l.length ∧ (0 ≤ (mul10 l c).2 ∧ (mul10 l c).2 < 10) ∧ val (mul10 l c).1 + 4294967296 ^ l.length * (mul10 l c).2 = 10 * val l + c
  | [], c, _, hc => ⟨Wf.nil, rfl, hc, by simp [mul10, val]⟩
  | x :: l, c, hw, hc => by
    have hx := hw.head
    obtain ⟨h1, h2, h3, h4⟩ := mul10_spec (l := l) (c := (x * 10 + c) / 4294967296) hw.tail (by omega)
    refine ⟨Wf.cons (by omega) (by omega) h1, by simp [mul10, h2], h3, ?_⟩
    simp only [mul10, val, List.length_cons, Int.pow_succ]
    have h5 : x * 10 + c = (x * 10 + c) % 4294967296 + 4294967296 * ((x * 10 + c) / 4294967296) := by omega
    generalize (x * 10 + c) / 4294967296 = c2 at *
    generalize (x * 10 + c) % 4294967296 = s at *
    generalize (mul10 l c2).2 = c3 at *
    generalize val (mul10 l c2).1 = V at *
    generalize (4294967296 : Int) ^ l.length = P at *
    grind
theorem nm_of_ge {l : List Int} (hw : Wf l) (h0 : l ≠ []) (h : 4294967296 ^ (l.length - 1) ≤ val l) : trim l = l := by
  have hI := Is.of hw rfl
  have h1 := hI.lt
  have h2 := trim_len l
  have h3 : 0 < l.length := List.length_pos_iff.2 h0
  have h4 : (trim l).length = l.length := by
    rcases Nat.lt_or_ge (trim l).length l.length with h5 | h5
    · have := pow_le (m := (trim l).length) (n := l.length - 1) (by omega)
      omega
    · omega
  have h5 := trim_take l
  rw [h4, List.take_length] at h5
  exact h5.symm
def pushOf (l : List Int) (d : Int) : List Int := if 0 < (mul10 l d).2 then (mul10 l d).1 ++ [(mul10 l d).2] else (mul10 l d).1
theorem pushOf_is {l : List Int} {v d : Int} (h : Is l v) (hd : 0 ≤ d ∧ d < 10) : Is (pushOf l d) (10 * v + d) := by
  obtain ⟨h1, h2, h3, h4⟩ := mul10_spec h.wf hd
  rw [h.val] at h4
  unfold pushOf
  by_cases hc : 0 < (mul10 l d).2
  · rw [if_pos hc]
    refine ⟨h1.append (Wf.one h3.1 (by omega)), trim_snoc _ _ (by omega), ?_⟩
    rw [val_snoc, h2]
    exact h4
  · rw [if_neg hc]
    have hz : (mul10 l d).2 = 0 := by omega
    rw [hz, Int.mul_zero, Int.add_zero] at h4
    refine ⟨h1, ?_, h4⟩
    by_cases hl : (mul10 l d).1 = []
    · rw [hl]; rfl
    · refine nm_of_ge h1 hl ?_
      have hl2 : l ≠ [] := by intro e; rw [e] at hl; exact hl rfl
      have h5 := h.ge hl2
      have h6 := h.nonneg
      rw [h4, h2]
      omega
theorem pushOf_len {l : List Int} {d : Int} (hw : Wf l) (hd : 0 ≤ d ∧ d < 10) : (pushOf l d).length ≤ l.length + 1 := by
  obtain ⟨h1, h2, h3, h4⟩ := mul10_spec hw hd
  unfold pushOf
  split
  · simp [h2]
  · omega
theorem set_mid_at (P : List Int) (x s : Int) (rest : List Int) : (P ++ x :: rest).set P.length s = (P ++ [s]) ++ rest := by
  rw [List.set_append_right _ _ (Nat.le_refl _)]
  simp
theorem rd_mid_at (P : List Int) (x : Int) (rest : List Int) : rd (P ++ x :: rest) (P.length : Int) = x := by
  rw [rd_of (by simp)]
  simp
theorem push_step (k : Nat) (P : List Int) (x c n : Int) (rest : List Int) (hx : 0 ≤ x ∧ x < 4294967296) (hc : 0 ≤ c ∧ c < 10) (hn : n = ((P ++ x :: rest).length : Int)) (hl : (P ++ x :: rest).length ≤ 70368744177664) :
    nats_Push.l0 (k + 1) (P ++ x :: rest) c n (P.length : Int) = nats_Push.l0 k ((P ++ [(x * 10 + c) % 4294967296]) ++ rest) ((x * 10 + c) / 4294967296) n (((P ++ [(x * 10 + c) % 4294967296]).length : Nat) : Int) := by
  have hlen : (P ++ x :: rest).length = P.length + 1 + rest.length := by simp; omega
  simp only [nats_Push.l0]
  rw [if_pos (by omega), if_pos (by omega), if_pos (by omega), rd_mid_at, u64 (x := x) (by omega) (by omega), u64 (x := x * 10) (by omega) (by omega), u64 (x := x * 10 + c) (by omega) (by omega), Int.toNat_natCast, set_mid_at, winc (by omega)]
  simp
theorem push_l0 : ∀ (rest P : List Int) (c n : Int), Wf rest → 0 ≤ c ∧ c < 10 → n = ((P ++ rest).length : Int) → (P ++ rest).length < 35184372088832 →
    Ev (fun k => nats_Push.l0 k (P ++ rest) c n (P.length : Int)) (if 0 < (mul10 rest c).2 then P ++ (mul10 rest c).1 ++ [(mul10 rest c).2] else P ++ (mul10 rest c).1)
  | [], P, c, n, hw, hc, hn, hl => by
    refine Ev.step (f := fun _ => some (if 0 < (mul10 [] c).2 then P ++ (mul10 [] c).1 ++ [(mul10 [] c).2] else P ++ (mul10 [] c).1)) (fun k => ?_) (Ev.now _)
    rw [List.append_nil] at hn hl
    simp only [nats_Push.l0, mul10, List.append_nil]
    rw [if_neg (by omega)]
    by_cases h : 0 < c
    · rw [if_pos h, if_pos hl, if_pos h, show c % 4294967296 = c from by omega]
    · rw [if_neg (by omega), if_neg h]
  | x :: rest, P, c, n, hw, hc, hn, hl => by
    have hx := hw.head
    have ih := push_l0 rest (P ++ [(x * 10 + c) % 4294967296]) ((x * 10 + c) / 4294967296) n hw.tail (by omega) (by rw [hn]; simp) (by simp at hl ⊢; omega)
    have h := Ev.step (g := fun k => nats_Push.l0 k (P ++ x :: rest) c n (P.length : Int)) (fun k => push_step k P x c n rest hx hc hn (by omega)) ih
    simpa [mul10] using h
theorem push (l : List Int) (d : Int) (hw : Wf l) (hd : 0 ≤ d ∧ d < 10) (hl : l.length < 35184372088832) : Ev (fun k => nats_Push.f k l d) (pushOf l d) := by
  have h := push_l0 l [] d (l.length : Int) hw hd (by simp) (by simpa using hl)
  unfold nats_Push.f
  rw [u64 (by omega) (by omega)]
  simpa [pushOf] using h
theorem rread_l1_step (k : Nat) (s : ByteArray) (P : List Int) (x c pos : Int) (rest : List Int) (hx : 0 ≤ x ∧ x < 4294967296) (hc : 0 ≤ c ∧ c < 10) (hl : (P ++ x :: rest).length ≤ 70368744177664) :
    sibylref01_Read.l1 (k + 1) s (P ++ x :: rest) pos c (P.length : Int) = sibylref01_Read.l1 k s ((P ++ [(x * 10 + c) % 4294967296]) ++ rest) pos ((x * 10 + c) / 4294967296) (((P ++ [(x * 10 + c) % 4294967296]).length : Nat) : Int) := by
  have hlen : (P ++ x :: rest).length = P.length + 1 + rest.length := by simp; omega
  simp only [sibylref01_Read.l1]
  rw [if_pos (by omega), if_pos (by omega), rd_mid_at, u64 (x := x) (by omega) (by omega), u64 (x := x * 10) (by omega) (by omega), u64 (x := x * 10 + c) (by omega) (by omega), tmod_nn (by omega), tdiv_nn (by omega), u64 (x := (x * 10 + c) / 4294967296) (by omega) (by omega), show (x * 10 + c) % 4294967296 % 4294967296 = (x * 10 + c) % 4294967296 from by omega, Int.toNat_natCast, set_mid_at, winc (by omega)]
  simp
theorem rread_l1_end (k : Nat) (s : ByteArray) (l : List Int) (c : Int) (pos : Nat) (hc : 0 ≤ c ∧ c < 10) (hl : l.length < 35184372088832) (hp : pos ≤ 70368744177664) :
    sibylref01_Read.l1 (k + 1) s l (pos : Int) c (l.length : Int) = (if 16 < (if 0 < c then l ++ [c] else l).length then some ([], 4) else sibylref01_Read.l0 k s (if 0 < c then l ++ [c] else l) ((pos + 1 : Nat) : Int)) := by
  simp only [sibylref01_Read.l1]
  rw [if_neg (by omega), winc (by omega)]
  by_cases h : 0 < c
  · rw [if_pos h, if_pos h, if_pos hl, show c % 4294967296 = c from by omega]
    simp only [Option.bind_some]
    by_cases h2 : 16 < (l ++ [c]).length
    · rw [if_pos (by omega), if_pos h2]
    · rw [if_neg (by omega), if_neg h2]
  · rw [if_neg h, if_neg h]
    by_cases h2 : 16 < l.length
    · rw [if_pos (by omega), if_pos h2]
    · rw [if_neg (by omega), if_neg h2]
def pushP (P rest : List Int) (c : Int) : List Int := if 0 < (mul10 rest c).2 then P ++ (mul10 rest c).1 ++ [(mul10 rest c).2] else P ++ (mul10 rest c).1
theorem pushP_nil (l : List Int) (d : Int) : pushP [] l d = pushOf l d := by simp [pushP, pushOf]
theorem pushP_end (P : List Int) (c : Int) : pushP P [] c = if 0 < c then P ++ [c] else P := by simp [pushP, mul10]
theorem pushP_cons (P : List Int) (x : Int) (rest : List Int) (c : Int) : pushP P (x :: rest) c = pushP (P ++ [(x * 10 + c) % 4294967296]) rest ((x * 10 + c) / 4294967296) := by simp [pushP, mul10]
theorem rread_l1 (s : ByteArray) (pos : Nat) (hp : pos ≤ 70368744177664) {R : List Int × Int} : ∀ (rest P : List Int) (c : Int), Wf rest → 0 ≤ c ∧ c < 10 → (P ++ rest).length < 35184372088832 →
    Ev (fun k => if 16 < (pushP P rest c).length then some ([], 4) else sibylref01_Read.l0 k s (pushP P rest c) ((pos + 1 : Nat) : Int)) R →
    Ev (fun k => sibylref01_Read.l1 k s (P ++ rest) (pos : Int) c (P.length : Int)) R
  | [], P, c, hw, hc, hl, h => by
    rw [pushP_end] at h
    rw [List.append_nil] at hl ⊢
    exact Ev.step (fun k => rread_l1_end k s P c pos hc hl hp) h
  | x :: rest, P, c, hw, hc, hl, h => by
    have hx := hw.head
    rw [pushP_cons] at h
    exact Ev.step (fun k => rread_l1_step k s P x c (pos : Int) rest hx hc (by omega)) (rread_l1 s pos hp rest (P ++ [(x * 10 + c) % 4294967296]) ((x * 10 + c) / 4294967296) hw.tail (by omega) (by simp at hl ⊢; omega) h)
theorem rread_step (s : ByteArray) (pos : Nat) (l : List Int) (hw : Wf l) (hl : l.length ≤ 16) (hp : pos < s.size) (hp2 : s.size ≤ 4096) (hd : 48 ≤ bt s (pos : Int) ∧ bt s (pos : Int) ≤ 57) {R : List Int × Int}
    (h : Ev (fun k => if 16 < (pushOf l (bt s (pos : Int) - 48)).length then some ([], 4) else sibylref01_Read.l0 k s (pushOf l (bt s (pos : Int) - 48)) ((pos + 1 : Nat) : Int)) R) : Ev (fun k => sibylref01_Read.l0 k s l (pos : Int)) R := by
  have h1 := rread_l1 s pos (by omega) (R := R) l [] (bt s (pos : Int) - 48) hw (by omega) (by simp; omega) (by rw [pushP_nil]; exact h)
  refine Ev.step (fun k => ?_) h1
  simp only [sibylref01_Read.l0, List.nil_append]
  rw [if_pos (by omega), if_pos (by omega), show (bt s (pos : Int) - 48) % 256 = bt s (pos : Int) - 48 from by omega]
  rfl
def rdval (s : ByteArray) : Nat → Nat → Int → Int
  | 0, _, v => v
  | d + 1, pos, v => rdval s d (pos + 1) (10 * v + (bt s (pos : Int) - 48))
theorem rdval_ge (s : ByteArray) : ∀ (d pos : Nat) (v : Int), 0 ≤ v → (∀ i, pos ≤ i → i < pos + d → 48 ≤ bt s (i : Int) ∧ bt s (i : Int) ≤ 57) → v ≤ rdval s d pos v
  | 0, _, v, _, _ => Int.le_refl _
  | d + 1, pos, v, h0, h => by
    have h1 := h pos (Nat.le_refl _) (by omega)
    have := rdval_ge s d (pos + 1) (10 * v + (bt s (pos : Int) - 48)) (by omega) (fun i hi hj => h i (by omega) (by omega))
    simp only [rdval]
    omega
theorem fit_big {r : List Int} {v : Int} (h : Is r v) (hv : 4294967296 ^ 16 ≤ v) : fitOf r = ([], 4) := by
  have h1 := h.lt
  have h2 : 16 < r.length := by
    rcases Nat.lt_or_ge 16 r.length with h3 | h3
    · exact h3
    · have := pow_le h3; omega
  unfold fitOf
  rw [if_pos (by omega)]
theorem lread_bg (s : ByteArray) : ∀ (d pos : Nat) (X : List Int), d + pos = s.size → (∀ i, pos ≤ i → i < s.size → 48 ≤ bt s (i : Int) ∧ bt s (i : Int) ≤ 57) → Ev (fun k => limb_Read.l0 k s pos X true) ([], 4)
  | 0, pos, X, hd, h => by
    refine Ev.step (f := fun _ => some ([], 4)) (fun k => ?_) (Ev.now _)
    simp only [limb_Read.l0]
    rw [if_neg (by omega)]
    rfl
  | d + 1, pos, X, hd, h => by
    refine Ev.step (fun k => ?_) (lread_bg s d (pos + 1) X (by omega) (fun i hi hj => h i (by omega) hj))
    simp only [limb_Read.l0]
    rw [if_pos (by omega), if_pos (h pos (Nat.le_refl _) (by omega))]
    rfl
theorem lread_step (s : ByteArray) (pos : Nat) (X : List Int) (hp : pos < s.size) (hd : 48 ≤ bt s (pos : Int) ∧ bt s (pos : Int) ≤ 57) (hw : Wf X) (hl : X.length < 35184372088832) {R : List Int × Int}
    (h : Ev (fun k => limb_Read.l0 k s (pos + 1) (pushOf X (bt s (pos : Int) - 48)) (decide (((pushOf X (bt s (pos : Int) - 48)).length : Int) > 16))) R) : Ev (fun k => limb_Read.l0 k s pos X false) R := by
  refine Ev.step (f := fun k => (nats_Push.f k X (bt s (pos : Int) - 48)).bind fun Y => limb_Read.l0 k s (pos + 1) Y (decide ((Y.length : Int) > 16))) (fun k => ?_) (Ev.bind (push X _ hw (by omega) hl) h)
  simp only [limb_Read.l0]
  rw [if_pos hp, if_pos hd]
  rfl
theorem read_all (s : ByteArray) (hs : s.size ≤ 4096) : ∀ (d pos : Nat) (X : List Int) (v : Int), d + pos = s.size → Is X v → X.length ≤ 16 → (∀ i, pos ≤ i → i < s.size → 48 ≤ bt s (i : Int) ∧ bt s (i : Int) ≤ 57) →
    ∃ r, Is r (rdval s d pos v) ∧ Ev (fun k => limb_Read.l0 k s pos X false) (fitOf r) ∧ Ev (fun k => sibylref01_Read.l0 k s X (pos : Int)) (fitOf r)
  | 0, pos, X, v, hd, hI, hl, h => by
    have e : fitOf X = (X, 0) := by unfold fitOf; rw [if_neg (by omega)]
    refine ⟨X, hI, ?_, ?_⟩
    · rw [e]
      refine Ev.step (f := fun _ => some (X, 0)) (fun k => ?_) (Ev.now _)
      simp only [limb_Read.l0]
      rw [if_neg (by omega)]
      rfl
    · rw [e]
      refine Ev.step (f := fun _ => some (X, 0)) (fun k => ?_) (Ev.now _)
      simp only [sibylref01_Read.l0]
      rw [if_neg (by omega)]
  | d + 1, pos, X, v, hd, hI, hl, h => by
    have hdg := h pos (Nat.le_refl _) (by omega)
    have hP := pushOf_is hI (d := bt s (pos : Int) - 48) (by omega)
    have hpl := pushOf_len hI.wf (d := bt s (pos : Int) - 48) (by omega)
    by_cases hb : 16 < (pushOf X (bt s (pos : Int) - 48)).length
    · have hge : 4294967296 ^ 16 ≤ 10 * v + (bt s (pos : Int) - 48) := by
        have h1 := hP.ge (by intro e; rw [e] at hb; simp at hb)
        have h2 := pow_le (m := 16) (n := (pushOf X (bt s (pos : Int) - 48)).length - 1) (by omega)
        omega
      have hv := rdval_ge s d (pos + 1) (10 * v + (bt s (pos : Int) - 48)) hP.nonneg (fun i hi hj => h i (by omega) (by omega))
      have hR := limbsOf_is (v := rdval s (d + 1) pos v) (by simp only [rdval]; have := hP.nonneg; omega)
      have e := fit_big hR (by simp only [rdval]; omega)
      refine ⟨_, hR, ?_, ?_⟩
      · rw [e]
        refine lread_step s pos X (by omega) hdg hI.wf (by omega) ?_
        rw [decide_eq_true (by omega)]
        exact lread_bg s d (pos + 1) _ (by omega) (fun i hi hj => h i (by omega) hj)
      · rw [e]
        exact rread_step s pos X hI.wf hl (by omega) hs hdg (Ev.congr (fun k => if_pos hb) (Ev.now _))
    · obtain ⟨r, h1, h2, h3⟩ := read_all s hs d (pos + 1) (pushOf X (bt s (pos : Int) - 48)) (10 * v + (bt s (pos : Int) - 48)) (by omega) hP (by omega) (fun i hi hj => h i (by omega) hj)
      refine ⟨r, h1, ?_, ?_⟩
      · refine lread_step s pos X (by omega) hdg hI.wf (by omega) ?_
        rw [decide_eq_false (by omega)]
        exact h2
      · exact rread_step s pos X hI.wf hl (by omega) hs hdg (Ev.congr (fun k => if_neg hb) h3)
end Go.Proofs.Ytgffficaoioljaa.PlN
end
