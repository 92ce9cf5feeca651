section
namespace Go.Proofs.Ytgffficaoioljaa.Pl
structure Hd (p : Prop) : Prop where mk :: (out : p)
def Wf (l : List Int) : Prop := ∀ x ∈ l, 0 ≤ x ∧ x < 4294967296
def val : List Int → Int
 | [] => 0
 | x :: l => x + 4294967296 * val l
theorem Wf.nil : Wf [] := fun _ h => by cases h
theorem Wf.cons {x : Int} {l : List Int} (h0 : 0 ≤ x) (h1 : x < 4294967296) (h : Wf l) : Wf (x :: l) := by
 intro y hy
 rcases List.mem_cons.1 hy with rfl | hy
 ·exact ⟨h0, h1⟩
 ·exact h y hy
theorem Wf.head {x : Int} {l : List Int} (h : Wf (x :: l)) : 0 ≤ x ∧ x < 4294967296 := h x List.mem_cons_self
theorem Wf.tail {x : Int} {l : List Int} (h : Wf (x :: l)) : Wf l := fun y hy => h y (List.mem_cons_of_mem _ hy)
theorem Wf.append {a b : List Int} (ha : Wf a) (hb : Wf b) : Wf (a ++ b) := by
 intro y hy
 rcases List.mem_append.1 hy with hy | hy
 ·exact ha y hy
 ·exact hb y hy
theorem Wf.one {x : Int} (h0 : 0 ≤ x) (h1 : x < 4294967296) : Wf [x] := Wf.cons h0 h1 Wf.nil
theorem Wf.left {a b : List Int} (h : Wf (a ++ b)) : Wf a := fun y hy => h y (List.mem_append_left _ hy)
theorem Wf.take {l : List Int} (h : Wf l) (n : Nat) : Wf (l.take n) := fun y hy => h y (List.mem_of_mem_take hy)
theorem Wf.drop {l : List Int} (h : Wf l) (n : Nat) : Wf (l.drop n) := fun y hy => h y (List.mem_of_mem_drop hy)
theorem Wf.set {l : List Int} (h : Wf l) (n : Nat) {x : Int} (h0 : 0 ≤ x) (h1 : x < 4294967296) : Wf (l.set n x) := by
 intro y hy
 rcases List.mem_or_eq_of_mem_set hy with hy | rfl
 ·exact h y hy
 ·exact ⟨h0, h1⟩
theorem Wf.zeros (n : Nat) : Wf (List.replicate n 0) := by
 intro y hy
 have := (List.mem_replicate.1 hy).2
 omega
theorem val_nonneg : ∀ {l : List Int}, Wf l → 0 ≤ val l
 | [], _ => Int.le_refl _
 | x :: l, h => by
  have h1 := val_nonneg h.tail
  have h2 := h.head
  simp only [val]
  omega
theorem val_append (a b : List Int) : val (a ++ b) = val a + 4294967296 ^ a.length * val b := by
 induction a with
 | nil => simp [val]
 | cons x a ih =>
  simp only [List.cons_append, val, ih, List.length_cons, Int.pow_succ]
  grind
theorem val_one (x : Int) : val [x] = x := by simp [val]
theorem val_snoc (a : List Int) (x : Int) : val (a ++ [x]) = val a + 4294967296 ^ a.length * x := by rw [val_append, val_one]
theorem val_zeros (n : Nat) : val (List.replicate n 0) = 0 := by
 induction n with
 | zero => rfl
 | succ n ih => simp [List.replicate_succ, val, ih]
theorem pow_pos' (n : Nat) : (0 : Int) < 4294967296 ^ n := Int.pow_pos (by decide)
theorem val_lt : ∀ {l : List Int}, Wf l → val l < 4294967296 ^ l.length
 | [], _ => by simp [val]
 | x :: l, h => by
  have h1 := val_lt h.tail
  have h2 := h.head
  simp only [val, List.length_cons, Int.pow_succ]
  generalize (4294967296 : Int) ^ l.length = P at *
  omega
def trim : List Int → List Int
 | [] => []
 | x :: l => if trim l = [] ∧ x = 0 then [] else x :: trim l
theorem trim_val : ∀ l, val (trim l) = val l
 | [] => rfl
 | x :: l => by
  have ih := trim_val l
  unfold trim
  split
  ·rename_i h
   rw [h.1] at ih
   simp only [val] at ih ⊢
   omega
  ·simp only [val, ih]
theorem trim_wf : ∀ {l : List Int}, Wf l → Wf (trim l)
 | [], _ => Wf.nil
 | x :: l, h => by
  unfold trim
  split
  ·exact Wf.nil
  ·exact Wf.cons h.head.1 h.head.2 (trim_wf h.tail)
theorem trim_trim : ∀ l, trim (trim l) = trim l
 | [] => rfl
 | x :: l => by
  have ih := trim_trim l
  by_cases h : trim l = [] ∧ x = 0
  ·simp [trim, h]
  ·have e : trim (x :: l) = x :: trim l := by simp [trim, h]
   rw [e]
   simp only [trim, ih]
   rw [if_neg h]
theorem trim_len : ∀ l : List Int, (trim l).length ≤ l.length
 | [] => Nat.le_refl _
 | x :: l => by
  have ih := trim_len l
  unfold trim
  split
  ·simp
  ·simp; omega
theorem trim_zero (l : List Int) : trim (l ++ [0]) = trim l := by
 induction l with
 | nil => simp [trim]
 | cons x l ih => simp only [List.cons_append, trim, ih]
theorem trim_snoc (l : List Int) (x : Int) (h : x ≠ 0) : trim (l ++ [x]) = l ++ [x] := by
 induction l with
 | nil => simp [trim, h]
 | cons y l ih => simp [trim, ih]
theorem trim_nil_val {l : List Int} (h : Wf l) (hv : val l = 0) : trim l = [] := by
 induction l with
 | nil => rfl
 | cons x l ih =>
  have h1 := val_nonneg h.tail
  have h2 := h.head
  simp only [val] at hv
  have h3 : val l = 0 := by omega
  have h4 : x = 0 := by omega
  simp [trim, ih h.tail h3, h4]
structure Is (r : List Int) (v : Int) : Prop where
 wf : Wf r
 nm : trim r = r
 val : val r = v
theorem Is.of {l : List Int} {v : Int} (h : Wf l) (hv : Pl.val l = v) : Is (trim l) v := ⟨trim_wf h, trim_trim l, by rw [trim_val, hv]⟩
theorem nm_tail {x : Int} {l : List Int} (h : trim (x :: l) = x :: l) : trim l = l := by
 unfold trim at h
 split at h
 ·cases h
 ·exact (List.cons.inj h).2
theorem nm_nonzero {x : Int} {l : List Int} (hw : Wf (x :: l)) (h : trim (x :: l) = x :: l) : val (x :: l) ≠ 0 := by
 intro hv
 rw [trim_nil_val hw hv] at h
 cases h
theorem uniq : ∀ {a b : List Int}, Wf a → Wf b → trim a = a → trim b = b → val a = val b → a = b
 | [], [], _, _, _, _, _ => rfl
 | [], y :: b, _, hb, _, nb, hv => absurd hv.symm (by simpa [val] using nm_nonzero hb nb)
 | x :: a, [], ha, _, na, _, hv => absurd hv (by simpa [val] using nm_nonzero ha na)
 | x :: a, y :: b, ha, hb, na, nb, hv => by
  have h1 := ha.head
  have h2 := hb.head
  have h3 := val_nonneg ha.tail
  have h4 := val_nonneg hb.tail
  simp only [val] at hv
  have e1 : x = y := by omega
  have e2 : val a = val b := by omega
  rw [e1, uniq ha.tail hb.tail (nm_tail na) (nm_tail nb) e2]
theorem Is.eq {r s : List Int} {v : Int} (h : Is r v) (k : Is s v) : r = s := uniq h.wf k.wf h.nm k.nm (h.val.trans k.val.symm)
theorem Is.nil : Is [] 0 := ⟨Wf.nil, rfl, rfl⟩
theorem Is.zero_iff {r : List Int} {v : Int} (h : Is r v) : r = [] ↔ v = 0 := by
 constructor
 ·rintro rfl
  exact h.val.symm
 ·rintro rfl
  exact h.eq Is.nil
theorem last_pos {l : List Int} {x : Int} (h : trim (l ++ [x]) = l ++ [x]) (hw : Wf (l ++ [x])) : 1 ≤ x := by
 have h1 := hw x (by simp)
 rcases Int.lt_or_le 0 x with h0 | h0
 ·omega
 ·have : x = 0 := by omega
  subst this
  rw [trim_zero] at h
  have h2 := trim_len l
  rw [h] at h2
  simp at h2
  omega
theorem snoc_of_ne {l : List Int} (h : l ≠ []) : ∃ m x, l = m ++ [x] := ⟨l.dropLast, l.getLast h, (List.dropLast_concat_getLast h).symm⟩
theorem Is.ge {r : List Int} {v : Int} (h : Is r v) (hr : r ≠ []) : 4294967296 ^ (r.length - 1) ≤ v := by
 obtain ⟨m, x, rfl⟩ := snoc_of_ne hr
 have h1 := last_pos h.nm h.wf
 have h2 := val_nonneg h.wf.left
 have h3 := h.val
 rw [val_snoc] at h3
 have hp := pow_pos' m.length
 simp only [List.length_append, List.length_singleton, Nat.add_sub_cancel]
 have : (4294967296 : Int) ^ m.length * 1 ≤ 4294967296 ^ m.length * x := Int.mul_le_mul_of_nonneg_left h1 (Int.le_of_lt hp)
 omega
theorem pow_le {m n : Nat} (h : m ≤ n) : (4294967296 : Int) ^ m ≤ 4294967296 ^ n := by
 have := Nat.pow_le_pow_right (n := 4294967296) (by decide) h
 have h2 : ((4294967296 ^ m : Nat) : Int) ≤ ((4294967296 ^ n : Nat) : Int) := Int.ofNat_le.2 this
 simpa using h2
theorem Is.len {r : List Int} {v : Int} (h : Is r v) {n : Nat} (hv : v < 4294967296 ^ n) : r.length ≤ n := by
 rcases Nat.lt_or_ge n r.length with hl | hl
 ·have hr : r ≠ [] := by intro e; rw [e] at hl; simp at hl
  have h1 := h.ge hr
  have h2 := pow_le (m := n) (n := r.length - 1) (by omega)
  omega
 ·exact hl
theorem Is.lt {r : List Int} {v : Int} (h : Is r v) : v < 4294967296 ^ r.length := h.val ▸ val_lt h.wf
def limbsN (n : Nat) : List Int := if h : n = 0 then [] else ((n % 4294967296 : Nat) : Int) :: limbsN (n / 4294967296)
termination_by n
decreasing_by omega
theorem limbsN_wf (n : Nat) : Wf (limbsN n) := by
 induction n using Nat.strongRecOn with
 | _ n ih =>
  unfold limbsN
  split
  ·exact Wf.nil
  ·exact Wf.cons (by omega) (by omega) (ih _ (by omega))
theorem limbsN_val (n : Nat) : val (limbsN n) = n := by
 induction n using Nat.strongRecOn with
 | _ n ih =>
  unfold limbsN
  split
  ·simp [val]; omega
  ·simp only [val]
   rw [ih _ (by omega)]
   omega
end Go.Proofs.Ytgffficaoioljaa.Pl
end
