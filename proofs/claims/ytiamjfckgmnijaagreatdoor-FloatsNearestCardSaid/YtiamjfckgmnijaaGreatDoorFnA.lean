set_option linter.all false
section
namespace Go.Proofs.YtiamjfckgmnijaaGreatDoor.Pl
structure Hd (p : Prop) : Prop where mk :: (out : p)
def Wf (l : List Int) : Prop := ∀ x ∈ l, 0 ≤ x ∧ x < 4294967296
def val : List Int → Int
  | [] => 0
  | x :: l => x + 4294967296 * val l
theorem Wf.nil : Wf [] := fun _ h => by cases h
theorem Wf.cons {x : Int} {l : List Int} (h0 : 0 ≤ x) (h1 : x < 4294967296) (h : Wf l) : Wf (x :: l) := by
  intro y hy
  rcases List.mem_cons.1 hy with rfl | hy
  · exact ⟨h0, h1⟩
  · exact h y hy
theorem Wf.head {x : Int} {l : List Int} (h : Wf (x :: l)) : 0 ≤ x ∧ x < 4294967296 := h x List.mem_cons_self
theorem Wf.tail {x : Int} {l : List Int} (h : Wf (x :: l)) : Wf l := fun y hy => h y (List.mem_cons_of_mem _ hy)
theorem Wf.append {a b : List Int} (ha : Wf a) (hb : Wf b) : Wf (a ++ b) := by
  intro y hy
  rcases List.mem_append.1 hy with hy | hy
  · exact ha y hy
  · exact hb y hy
theorem Wf.one {x : Int} (h0 : 0 ≤ x) (h1 : x < 4294967296) : Wf [x] := Wf.cons h0 h1 Wf.nil
theorem Wf.left {a b : List Int} (h : Wf (a ++ b)) : Wf a := fun y hy => h y (List.mem_append_left _ hy)
theorem Wf.right {a b : List Int} (h : Wf (a ++ b)) : Wf b := fun y hy => h y (List.mem_append_right _ hy)
theorem Wf.take {l : List Int} (h : Wf l) (n : Nat) : Wf (l.take n) := fun y hy => h y (List.mem_of_mem_take hy)
theorem Wf.drop {l : List Int} (h : Wf l) (n : Nat) : Wf (l.drop n) := fun y hy => h y (List.mem_of_mem_drop hy)
theorem Wf.set {l : List Int} (h : Wf l) (n : Nat) {x : Int} (h0 : 0 ≤ x) (h1 : x < 4294967296) : Wf (l.set n x) := by
  intro y hy
  rcases List.mem_or_eq_of_mem_set hy with hy | rfl
  · exact h y hy
  · exact ⟨h0, h1⟩
theorem Wf.zeros (n : Nat) : Wf (List.replicate n 0) := by
  intro y hy
  have := (List.mem_replicate.1 hy).2
  omega
theorem val_nonneg : ∀ {l : List Int}, Wf l → 0 ≤ val l
  | [], _ => Int.le_refl _
  | x :: l, h => by
    have h1 := val_nonneg h.tail
    have h2 := h.head
    simp only [val]
    omega
theorem val_append (a b : List Int) : val (a ++ b) = val a + 4294967296 ^ a.length * val b := by
  induction a with
  | nil => simp [val]
  | cons x a ih =>
    simp only [List.cons_append, val, ih, List.length_cons, Int.pow_succ]
    grind
theorem val_one (x : Int) : val [x] = x := by simp [val]
theorem val_snoc (a : List Int) (x : Int) : val (a ++ [x]) = val a + 4294967296 ^ a.length * x := by rw [val_append, val_one]
theorem val_zeros (n : Nat) : val (List.replicate n 0) = 0 := by
  induction n with
  | zero => rfl
  | succ n ih => simp [List.replicate_succ, val, ih]
theorem pow_pos' (n : Nat) : (0 : Int) < 4294967296 ^ n := Int.pow_pos (by decide)
theorem val_lt : ∀ {l : List Int}, Wf l → val l < 4294967296 ^ l.length
  | [], _ => by simp [val]
  | x :: l, h => by
    have h1 := val_lt h.tail
    have h2 := h.head
    simp only [val, List.length_cons, Int.pow_succ]
    generalize (4294967296 : Int) ^ l.length = P at *
    omega
def trim : List Int → List Int
  | [] => []
  | x :: l => if trim l = [] ∧ x = 0 then [] else x :: trim l
theorem trim_val : ∀ l, val (trim l) = val l
  | [] => rfl
  | x :: l => by
    have ih := trim_val l
    unfold trim
    split
    · rename_i h
      rw [h.1] at ih
      simp only [val] at ih ⊢
      omega
    · simp only [val, ih]
theorem trim_wf : ∀ {l : List Int}, Wf l → Wf (trim l)
  | [], _ => Wf.nil
  | x :: l, h => by
    unfold trim
    split
    · exact Wf.nil
    · exact Wf.cons h.head.1 h.head.2 (trim_wf h.tail)
theorem trim_trim : ∀ l, trim (trim l) = trim l
  | [] => rfl
  | x :: l => by
    have ih := trim_trim l
    by_cases h : trim l = [] ∧ x = 0
    · simp [trim, h]
    · have e : trim (x :: l) = x :: trim l := by simp [trim, h]
      rw [e]
      simp only [trim, ih]
      rw [if_neg h]
theorem trim_len : ∀ l : List Int, (trim l).length ≤ l.length
  | [] => Nat.le_refl _
  | x :: l => by
    have ih := trim_len l
    unfold trim
    split
    · simp
    · simp; omega
theorem trim_take : ∀ l : List Int, l.take (trim l).length = trim l
  | [] => rfl
  | x :: l => by
    have ih := trim_take l
    unfold trim
    split
    · rfl
    · simp [ih]
theorem trim_zero (l : List Int) : trim (l ++ [0]) = trim l := by
  induction l with
  | nil => simp [trim]
  | cons x l ih => simp only [List.cons_append, trim, ih]
theorem trim_snoc (l : List Int) (x : Int) (h : x ≠ 0) : trim (l ++ [x]) = l ++ [x] := by
  induction l with
  | nil => simp [trim, h]
  | cons y l ih => simp [trim, ih]
theorem trim_nil_val {l : List Int} (h : Wf l) (hv : val l = 0) : trim l = [] := by
  induction l with
  | nil => rfl
  | cons x l ih =>
    have h1 := val_nonneg h.tail
    have h2 := h.head
    simp only [val] at hv
    have h3 : val l = 0 := by omega
    have h4 : x = 0 := by omega
    simp [trim, ih h.tail h3, h4]
structure Is (r : List Int) (v : Int) : Prop where
  wf : Wf r
  nm : trim r = r
  val : val r = v
theorem Is.of {l : List Int} {v : Int} (h : Wf l) (hv : Pl.val l = v) : Is (trim l) v := ⟨trim_wf h, trim_trim l, by rw [trim_val, hv]⟩
theorem nm_tail {x : Int} {l : List Int} (h : trim (x :: l) = x :: l) : trim l = l := by
  unfold trim at h
  split at h
  · cases h
  · exact (List.cons.inj h).2
theorem nm_nonzero {x : Int} {l : List Int} (hw : Wf (x :: l)) (h : trim (x :: l) = x :: l) : val (x :: l) ≠ 0 := by
  intro hv
  rw [trim_nil_val hw hv] at h
  cases h
theorem uniq : ∀ {a b : List Int}, Wf a → Wf b → trim a = a → trim b = b → val a = val b → a = b
  | [], [], _, _, _, _, _ => rfl
  | [], y :: b, _, hb, _, nb, hv => absurd hv.symm (by simpa [val] using nm_nonzero hb nb)
  | x :: a, [], ha, _, na, _, hv => absurd hv (by simpa [val] using nm_nonzero ha na)
  | x :: a, y :: b, ha, hb, na, nb, hv => by
    have h1 := ha.head
    have h2 := hb.head
    have h3 := val_nonneg ha.tail
    have h4 := val_nonneg hb.tail
    simp only [val] at hv
    have e1 : x = y := by omega
    have e2 : val a = val b := by omega
    rw [e1, uniq ha.tail hb.tail (nm_tail na) (nm_tail nb) e2]
theorem Is.eq {r s : List Int} {v : Int} (h : Is r v) (k : Is s v) : r = s := uniq h.wf k.wf h.nm k.nm (h.val.trans k.val.symm)
theorem Is.nonneg {r : List Int} {v : Int} (h : Is r v) : 0 ≤ v := h.val ▸ val_nonneg h.wf
theorem Is.nil : Is [] 0 := ⟨Wf.nil, rfl, rfl⟩
theorem Is.zero_iff {r : List Int} {v : Int} (h : Is r v) : r = [] ↔ v = 0 := by
  constructor
  · rintro rfl
    exact h.val.symm
  · rintro rfl
    exact h.eq Is.nil
theorem last_pos {l : List Int} {x : Int} (h : trim (l ++ [x]) = l ++ [x]) (hw : Wf (l ++ [x])) : 1 ≤ x := by
  have h1 := hw x (by simp)
  rcases Int.lt_or_le 0 x with h0 | h0
  · omega
  · have : x = 0 := by omega
    subst this
    rw [trim_zero] at h
    have h2 := trim_len l
    rw [h] at h2
    simp at h2
    omega
theorem snoc_of_ne {l : List Int} (h : l ≠ []) : ∃ m x, l = m ++ [x] := ⟨l.dropLast, l.getLast h, (List.dropLast_concat_getLast h).symm⟩
theorem Is.ge {r : List Int} {v : Int} (h : Is r v) (hr : r ≠ []) : 4294967296 ^ (r.length - 1) ≤ v := by
  obtain ⟨m, x, rfl⟩ := snoc_of_ne hr
  have h1 := last_pos h.nm h.wf
  have h2 := val_nonneg h.wf.left
  have h3 := h.val
  rw [val_snoc] at h3
  have hp := pow_pos' m.length
  simp only [List.length_append, List.length_singleton, Nat.add_sub_cancel]
  have : (4294967296 : Int) ^ m.length * 1 ≤ 4294967296 ^ m.length * x := Int.mul_le_mul_of_nonneg_left h1 (Int.le_of_lt hp)
  omega
theorem pow_le {m n : Nat} (h : m ≤ n) : (4294967296 : Int) ^ m ≤ 4294967296 ^ n := by
  have := Nat.pow_le_pow_right (n := 4294967296) (by decide) h
  have h2 : ((4294967296 ^ m : Nat) : Int) ≤ ((4294967296 ^ n : Nat) : Int) := Int.ofNat_le.2 this
  simpa using h2
theorem Is.len {r : List Int} {v : Int} (h : Is r v) {n : Nat} (hv : v < 4294967296 ^ n) : r.length ≤ n := by
  rcases Nat.lt_or_ge n r.length with hl | hl
  · have hr : r ≠ [] := by intro e; rw [e] at hl; simp at hl
    have h1 := h.ge hr
    have h2 := pow_le (m := n) (n := r.length - 1) (by omega)
    omega
  · exact hl
theorem Is.lt {r : List Int} {v : Int} (h : Is r v) : v < 4294967296 ^ r.length := h.val ▸ val_lt h.wf
def limbsN (n : Nat) : List Int := if h : n = 0 then [] else ((n % 4294967296 : Nat) : Int) :: limbsN (n / 4294967296)
termination_by n
decreasing_by omega
theorem limbsN_wf (n : Nat) : Wf (limbsN n) := by
  induction n using Nat.strongRecOn with
  | _ n ih =>
    unfold limbsN
    split
    · exact Wf.nil
    · exact Wf.cons (by omega) (by omega) (ih _ (by omega))
theorem limbsN_val (n : Nat) : val (limbsN n) = n := by
  induction n using Nat.strongRecOn with
  | _ n ih =>
    unfold limbsN
    split
    · simp [val]; omega
    · simp only [val]
      rw [ih _ (by omega)]
      omega
def limbsOf (v : Int) : List Int := limbsN v.toNat
theorem limbsOf_is {v : Int} (h : 0 ≤ v) : Is (trim (limbsOf v)) v := Is.of (limbsN_wf _) (by rw [limbsOf, limbsN_val]; omega)
end Go.Proofs.YtiamjfckgmnijaaGreatDoor.Pl
end
section
namespace Go.Proofs.YtiamjfckgmnijaaGreatDoor.Pl
def limbs (v : Nat) : List Int := if h : v = 0 then [] else ((v % 4294967296 : Nat) : Int) :: limbs (v / 4294967296)
termination_by v
decreasing_by exact Nat.div_lt_self (Nat.pos_of_ne_zero h) (by decide)
def N (v : Int) : List Int := limbs v.toNat
theorem limbs_is : ∀ v : Nat, Is (limbs v) (v : Int) := by
  intro v
  induction v using Nat.strongRecOn with
  | _ v ih =>
    rw [limbs]
    by_cases h : v = 0
    · rw [dif_pos h, h]; exact ⟨Wf.nil, rfl, rfl⟩
    · rw [dif_neg h]
      have hlt : v / 4294967296 < v := Nat.div_lt_self (Nat.pos_of_ne_zero h) (by decide)
      obtain ⟨h1, h2, h3⟩ := ih _ hlt
      refine ⟨Wf.cons (by omega) (by omega) h1, ?_, ?_⟩
      · rw [trim, if_neg, h2]
        rintro ⟨h4, h5⟩
        rw [h2] at h4
        rw [h4] at h3
        simp only [Pl.val] at h3
        omega
      · simp only [Pl.val, h3]; omega
theorem N_is {v : Int} (h : 0 ≤ v) : Is (N v) v := by
  have := limbs_is v.toNat
  rwa [Int.toNat_of_nonneg h] at this
theorem Is.unique {a b : List Int} {v : Int} (h : Is a v) (k : Is b v) : a = b := uniq h.wf k.wf h.nm k.nm (h.val.trans k.val.symm)
theorem Is.toN {a : List Int} {v : Int} (h : Is a v) : a = N v := h.unique (N_is h.nonneg)
theorem trim_N {l : List Int} (h : Wf l) : trim l = N (val l) := (Is.of h rfl).toN
theorem N_wf (v : Int) : Wf (N v) := (limbs_is _).wf
theorem N_val {v : Int} (h : 0 ≤ v) : val (N v) = v := (N_is h).val
theorem N_zero : N 0 = [] := by simp [N, limbs]
theorem Is.lt_of_len {a b : List Int} {x y : Int} (ha : Is a x) (hb : Is b y) (h : a.length < b.length) : x < y := by
  have h1 := ha.lt
  have h2 := hb.ge (by intro h0; rw [h0] at h; simp at h)
  have h3 := pow_le (show a.length ≤ b.length - 1 by omega)
  omega
theorem drop_at {l : List Int} {n : Nat} (h : n < l.length) : l.drop n = l.getD n 0 :: l.drop (n + 1) := by
  rw [List.drop_eq_getElem_cons h]
  simp [List.getD_eq_getElem?_getD, h]
theorem val_split (l : List Int) (n : Nat) (h : n < l.length) : val l = val (l.take n) + 4294967296 ^ n * (l.getD n 0 + 4294967296 * val (l.drop (n + 1))) := by
  have e : l = l.take n ++ (l.getD n 0 :: l.drop (n + 1)) := by
    have : l.getD n 0 = l[n] := by simp [List.getD_eq_getElem?_getD, h]
    rw [this, ← List.drop_eq_getElem_cons h, List.take_append_drop]
  conv => lhs; rw [e]
  rw [val_append, List.length_take, Nat.min_eq_left (by omega)]
  rfl
theorem lt_at {a b : List Int} (ha : Wf a) (hb : Wf b) {n : Nat} (h1 : n < a.length) (h2 : n < b.length) (hd : a.drop (n + 1) = b.drop (n + 1)) (h : a.getD n 0 < b.getD n 0) : val a < val b := by
  rw [val_split a n h1, val_split b n h2, hd]
  have l1 := val_lt (ha.take n)
  have l2 := val_nonneg (hb.take n)
  rw [List.length_take, Nat.min_eq_left (by omega)] at l1
  generalize a.getD n 0 = x at *
  generalize b.getD n 0 = y at *
  generalize val (b.drop (n + 1)) = D
  have hp : (0 : Int) < 4294967296 ^ n := pow_pos' n
  generalize (4294967296 : Int) ^ n = P at *
  have : P * (x + 1) ≤ P * y := Int.mul_le_mul_of_nonneg_left (by omega) (by omega)
  have e1 : P * (x + 4294967296 * D) = P * (x + 1) - P + P * (4294967296 * D) := by grind
  have e2 : P * (y + 4294967296 * D) = P * y + P * (4294967296 * D) := by grind
  rw [e1, e2]
  omega
theorem take_at {l : List Int} {n : Nat} (h : n < l.length) : l.take (n + 1) = l.take n ++ [l.getD n 0] := by
  rw [List.take_succ_eq_append_getElem h]
  simp [List.getD_eq_getElem?_getD, h]
theorem getD_big {l : List Int} {n : Nat} (h : l.length ≤ n) : l.getD n 0 = 0 := by simp [List.getD_eq_getElem?_getD, h]
theorem val_take_at (l : List Int) (n : Nat) : val (l.take (n + 1)) = val (l.take n) + 4294967296 ^ n * l.getD n 0 := by
  rcases Nat.lt_or_ge n l.length with h | h
  · rw [take_at h, val_snoc, List.length_take, Nat.min_eq_left (by omega)]
  · rw [List.take_of_length_le (by omega), List.take_of_length_le (by omega), getD_big h]; simp
theorem val_take_set {l : List Int} {n : Nat} (h : n < l.length) (x : Int) : val ((l.set n x).take (n + 1)) = val (l.take n) + 4294967296 ^ n * x := by
  have e : (l.set n x).take (n + 1) = l.take n ++ [x] := by
    rw [take_at (by simpa using h), List.take_set_of_le (Nat.le_refl _)]
    simp [List.getD_eq_getElem?_getD, h]
  rw [e, val_snoc, List.length_take, Nat.min_eq_left (by omega)]
theorem Wf.at {l : List Int} (h : Wf l) (n : Nat) : 0 ≤ l.getD n 0 ∧ l.getD n 0 < 4294967296 := by
  rcases Nat.lt_or_ge n l.length with k | k
  · have : l.getD n 0 = l[n] := by simp [List.getD_eq_getElem?_getD, k]
    rw [this]; exact h _ (List.getElem_mem k)
  · rw [getD_big k]; omega
theorem pow_snoc (n : Nat) : (4294967296 : Int) ^ (n + 1) = 4294967296 ^ n * 4294967296 := Int.pow_succ _ _
theorem Is.take_all {l : List Int} {n : Nat} (h : l.length ≤ n) : l.take n = l := List.take_of_length_le h
def sgn (x y : Int) : Int := if x < y then -1 else if y < x then 1 else 0
theorem sgn_lt {x y : Int} (h : x < y) : sgn x y = -1 := by simp [sgn, h]
theorem sgn_gt {x y : Int} (h : y < x) : sgn x y = 1 := by simp [sgn, h]; omega
theorem sgn_eq {x y : Int} (h : x = y) : sgn x y = 0 := by simp [sgn, h]
end Go.Proofs.YtiamjfckgmnijaaGreatDoor.Pl
end
section
namespace Go.Proofs.YtiamjfckgmnijaaGreatDoor.Pl
set_option linter.unusedVariables false
theorem pow_split {s : Nat} (h : s ≤ 32) : (2 : Int) ^ s * 2 ^ (32 - s) = 4294967296 := by
  rw [← Int.pow_add, show s + (32 - s) = 32 from by omega]; rfl
theorem pow_bd {s : Nat} (h : s ≤ 32) : (1 : Int) ≤ 2 ^ s ∧ (2 : Int) ^ s ≤ 4294967296 := by
  have h1 : (0 : Int) < 2 ^ s := Int.pow_pos (by decide)
  have h2 : (0 : Int) < 2 ^ (32 - s) := Int.pow_pos (by decide)
  have h3 := pow_split h
  refine ⟨by omega, ?_⟩
  have : (2 : Int) ^ s * 1 ≤ 2 ^ s * 2 ^ (32 - s) := Int.mul_le_mul_of_nonneg_left (by omega) (by omega)
  omega
theorem shlstep {x c : Int} {s : Nat} (hs : s < 32) (hx : 0 ≤ x ∧ x < 4294967296) (hc : 0 ≤ c ∧ c < 2 ^ s) : ∃ y z, Hd (c + x * 2 ^ s % 4294967296 = y) ∧ Hd (x * 2 ^ s / 4294967296 = z) ∧ (0 ≤ y ∧ y < 4294967296) ∧ (0 ≤ z ∧ z < 2 ^ s) ∧ Hd (y + 4294967296 * z = c + x * 2 ^ s) := by
  have hp := pow_bd (s := s) (by omega)
  have hsp := pow_split (s := s) (by omega)
  have ht : (1 : Int) ≤ 2 ^ (32 - s) := (pow_bd (s := 32 - s) (by omega)).1
  have h2 : 0 ≤ x * 2 ^ s := Int.mul_nonneg hx.1 (by omega)
  have h3 : x * 2 ^ s < 4294967296 * 2 ^ s := Int.mul_lt_mul_of_pos_right hx.2 (by omega)
  refine ⟨_, _, ⟨rfl⟩, ⟨rfl⟩, ?_, ⟨by omega, ?_⟩, ⟨by omega⟩⟩
  ·
    have e : x * 2 ^ s % 4294967296 = (x % 2 ^ (32 - s)) * 2 ^ s := by
      rw [← hsp, Int.mul_comm x, Int.mul_emod_mul_of_pos _ _ (by omega), Int.mul_comm]
    have h4 : x % 2 ^ (32 - s) ≤ 2 ^ (32 - s) - 1 := by have := Int.emod_lt_of_pos x (show (0 : Int) < 2 ^ (32 - s) by omega); omega
    have h5 : (x % 2 ^ (32 - s)) * 2 ^ s ≤ (2 ^ (32 - s) - 1) * 2 ^ s := Int.mul_le_mul_of_nonneg_right h4 (by omega)
    have h6 : ((2 : Int) ^ (32 - s) - 1) * 2 ^ s = 4294967296 - 2 ^ s := by rw [Int.sub_mul, Int.mul_comm, hsp, Int.one_mul]
    omega
  · exact Int.ediv_lt_of_lt_mul (by decide) (by rw [Int.mul_comm (2 ^ s) 4294967296]; exact h3)
theorem shrstep {x y : Int} {s : Nat} (hs : s < 32) (hx : 0 ≤ x ∧ x < 4294967296) (hy : 0 ≤ y ∧ y < 4294967296) : ∃ z, Hd ((y * 4294967296 + x) / 2 ^ s % 4294967296 = z) ∧ (0 ≤ z ∧ z < 4294967296) ∧ Hd (2 ^ s * z + x % 2 ^ s = x + 4294967296 * (y % 2 ^ s)) := by
  have hp := pow_bd (s := s) (by omega)
  have hsp := pow_split (s := s) (by omega)
  have ht := (pow_bd (s := 32 - s) (by omega)).1
  refine ⟨_, ⟨rfl⟩, by omega, ⟨?_⟩⟩
  generalize (2 : Int) ^ s = S at *
  generalize (2 : Int) ^ (32 - s) = T at *
  have e1 : (y * 4294967296 + x) / S = x / S + T * y := by
    rw [← hsp, show y * (S * T) + x = x + S * (T * y) from by grind, Int.add_mul_ediv_left _ _ (by omega)]
  have hy2 := Int.emod_def y S
  have hx2 := Int.emod_def x S
  have h1 := Int.emod_nonneg y (show S ≠ 0 by omega)
  have h2 := Int.emod_lt_of_pos y (show 0 < S by omega)
  have h3 := Int.emod_nonneg x (show S ≠ 0 by omega)
  have h4 : 0 ≤ x / S := Int.ediv_nonneg hx.1 (by omega)
  have h5 : x / S < T := Int.ediv_lt_of_lt_mul (by omega) (by rw [Int.mul_comm, hsp]; exact hx.2)
  rw [e1]
  generalize y / S = q at *
  generalize y % S = r at *
  generalize x / S = u at *
  generalize x % S = w at *
  have e2 : T * y = 4294967296 * q + T * r := by rw [← hsp]; grind
  have h6 : 0 ≤ T * r := Int.mul_nonneg (by omega) h1
  have h7 : T * r ≤ T * (S - 1) := Int.mul_le_mul_of_nonneg_left (by omega) (by omega)
  have h8 : T * (S - 1) = 4294967296 - T := by rw [Int.mul_sub, Int.mul_comm, hsp, Int.mul_one]
  have e3 : (u + T * y) % 4294967296 = u + T * r := by
    rw [e2]
    generalize T * r = p at *
    clear hsp hx2 hy2 e1 e2
    omega
  rw [e3]
  grind
structure Kn (Uv Vv W X M v1 v2 top u2 q : Int) : Prop where
  hM : 0 < M
  hV : Vv = W + (v1 * 4294967296 + v2) * M
  hW : 0 ≤ W ∧ W < M
  hU : Uv = X + (top * 4294967296 + u2) * M
  hX : 0 ≤ X ∧ X < M
  hq : 0 ≤ q ∧ q < 4294967296
  lo : q * Vv ≤ Uv
  hi : Uv < (q + 1) * Vv
  bv1 : 2147483648 ≤ v1 ∧ v1 < 4294967296
  bv2 : 0 ≤ v2 ∧ v2 < 4294967296
  bu2 : 0 ≤ u2 ∧ u2 < 4294967296
  btop : 0 ≤ top ∧ top < v1 * 4294967296 + 4294967296
theorem Kn.pos {Uv Vv W X M v1 v2 top u2 q : Int} (h : Kn Uv Vv W X M v1 v2 top u2 q) : 4294967296 * M ≤ Vv := by
  have h1 : 4294967296 * M ≤ (v1 * 4294967296 + v2) * M := Int.mul_le_mul_of_nonneg_right (by have := h.bv1; have := h.bv2; omega) (Int.le_of_lt h.hM)
  have h2 := h.hV
  have h3 := h.hW
  omega
theorem Kn.gt {Uv Vv W X M v1 v2 top u2 q g : Int} (h : Kn Uv Vv W X M v1 v2 top u2 q) (h1 : Uv < g * Vv) : q < g := by
  have h2 := h.lo
  have h3 := h.pos
  have h4 := h.hM
  rcases Int.lt_or_le q g with h5 | h5
  · exact h5
  · have : g * Vv ≤ q * Vv := Int.mul_le_mul_of_nonneg_right h5 (by omega)
    omega
theorem Kn.over {Uv Vv W X M v1 v2 top u2 q g r : Int} (h : Kn Uv Vv W X M v1 v2 top u2 q) (hg : 0 ≤ g) (hr : g * v1 + r = top) (ht : r * 4294967296 + u2 < g * v2) : q < g := by
  refine h.gt ?_
  have a : top * 4294967296 + u2 + 1 ≤ g * (v1 * 4294967296 + v2) := by
    have e : g * (v1 * 4294967296 + v2) = g * v1 * 4294967296 + g * v2 := by grind
    rw [e]
    generalize g * v1 = p at *
    generalize g * v2 = p2 at *
    omega
  have b : (top * 4294967296 + u2 + 1) * M ≤ g * (v1 * 4294967296 + v2) * M := Int.mul_le_mul_of_nonneg_right a (Int.le_of_lt h.hM)
  have c : g * Vv = g * W + g * (v1 * 4294967296 + v2) * M := by rw [h.hV]; grind
  have d : 0 ≤ g * W := Int.mul_nonneg hg h.hW.1
  have e : (top * 4294967296 + u2 + 1) * M = (top * 4294967296 + u2) * M + M := by grind
  have f := h.hU
  have g1 := h.hX
  omega
theorem Kn.near {Uv Vv W X M v1 v2 top u2 q g : Int} (h : Kn Uv Vv W X M v1 v2 top u2 q) (hg : 0 ≤ g ∧ g < 4294967296) (ht : g * (v1 * 4294967296 + v2) ≤ top * 4294967296 + u2) : g ≤ q + 1 := by
  have b : g * (v1 * 4294967296 + v2) * M ≤ (top * 4294967296 + u2) * M := Int.mul_le_mul_of_nonneg_right ht (Int.le_of_lt h.hM)
  have c : g * Vv = g * W + g * (v1 * 4294967296 + v2) * M := by rw [h.hV]; grind
  have d : g * W ≤ g * M := Int.mul_le_mul_of_nonneg_left (by have := h.hW; omega) hg.1
  have e : g * M ≤ 4294967295 * M := Int.mul_le_mul_of_nonneg_right (by omega) (Int.le_of_lt h.hM)
  have f := h.hU
  have g1 := h.hX
  have p := h.pos
  have hM := h.hM
  have hi := h.hi
  have k : g * Vv < (q + 2) * Vv := by
    have : (q + 2) * Vv = (q + 1) * Vv + Vv := by grind
    omega
  have := Int.lt_of_mul_lt_mul_right k (by omega)
  omega
def fixN : Nat → Int → List Int
  | 0, _ => []
  | n + 1, v => (v % 4294967296) :: fixN n (v / 4294967296)
theorem fixN_len : ∀ n v, (fixN n v).length = n
  | 0, _ => rfl
  | n + 1, v => by simp [fixN, fixN_len n]
theorem fixN_wf : ∀ n v, Wf (fixN n v)
  | 0, _ => Wf.nil
  | n + 1, v => Wf.cons (by omega) (by omega) (fixN_wf n _)
theorem fixN_val : ∀ (n : Nat) (v : Int), 0 ≤ v → v < 4294967296 ^ n → val (fixN n v) = v
  | 0, v, h0, h1 => by simp at h1; simp [fixN, val]; omega
  | n + 1, v, h0, h1 => by
    rw [pow_snoc] at h1
    simp only [fixN, val, fixN_val n (v / 4294967296) (by omega) (by omega)]
    omega
theorem eq_of_val : ∀ {a b : List Int}, Wf a → Wf b → a.length = b.length → val a = val b → a = b
  | [], [], _, _, _, _ => rfl
  | [], y :: b, _, _, h, _ => by simp at h
  | x :: a, [], _, _, h, _ => by simp at h
  | x :: a, y :: b, ha, hb, h, hv => by
    have h1 := ha.head
    have h2 := hb.head
    have h3 := val_nonneg ha.tail
    have h4 := val_nonneg hb.tail
    simp only [val] at hv
    have e1 : x = y := by omega
    have e2 : val a = val b := by omega
    rw [e1, eq_of_val ha.tail hb.tail (by simpa using h) e2]
theorem val_top2 (V : List Int) (m : Nat) (h : V.length = m + 2) : val V = val (V.take m) + (V.getD (m + 1) 0 * 4294967296 + V.getD m 0) * 4294967296 ^ m := by
  have e : V.take (m + 1 + 1) = V := List.take_of_length_le (by omega)
  have h1 := val_take_at V (m + 1)
  have h2 := val_take_at V m
  rw [e, h2, pow_snoc] at h1
  rw [h1]
  grind
theorem val_top3 (U : List Int) (m : Nat) (h : U.length = m + 3) : val U = val (U.take m) + ((U.getD (m + 2) 0 * 4294967296 + U.getD (m + 1) 0) * 4294967296 + U.getD m 0) * 4294967296 ^ m := by
  have e : U.take (m + 2 + 1) = U := List.take_of_length_le (by omega)
  have h0 := val_take_at U (m + 2)
  have h1 := val_take_at U (m + 1)
  have h2 := val_take_at U m
  rw [show m + 1 + 1 = m + 2 from rfl] at h1
  rw [e, h1, h2, show m + 2 = m + 1 + 1 from rfl, pow_snoc, pow_snoc] at h0
  rw [h0]
  grind
theorem take_lt {l : List Int} (hw : Wf l) (m : Nat) (h : m ≤ l.length) : 0 ≤ val (l.take m) ∧ val (l.take m) < 4294967296 ^ m := by
  have h1 := val_lt (hw.take m)
  rw [List.length_take, Nat.min_eq_left h] at h1
  exact ⟨val_nonneg (hw.take m), h1⟩
theorem kn_of (U V : List Int) (m : Nat) (hU : Wf U) (hV : Wf V) (hn : V.length = m + 2) (hu : U.length = m + 3) (htop : 2147483648 ≤ V.getD (m + 1) 0) (hlt : val U < 4294967296 * val V) :
    Kn (val U) (val V) (val (V.take m)) (val (U.take m)) (4294967296 ^ m) (V.getD (m + 1) 0) (V.getD m 0) (U.getD (m + 2) 0 * 4294967296 + U.getD (m + 1) 0) (U.getD m 0) (val U / val V) := by
  have hW := take_lt hV m (by omega)
  have hX := take_lt hU m (by omega)
  have e1 := val_top2 V m hn
  have e2 := val_top3 U m hu
  have hM := pow_pos' m
  have b1 := Wf.at hV (m + 1)
  have b2 := Wf.at hV m
  have b3 := Wf.at hU (m + 2)
  have b4 := Wf.at hU (m + 1)
  have b5 := Wf.at hU m
  have hVpos : 0 < val V := by
    have : 0 < (V.getD (m + 1) 0 * 4294967296 + V.getD m 0) * 4294967296 ^ m := Int.mul_pos (by omega) hM
    omega
  have hU0 := val_nonneg hU
  refine ⟨hM, e1, hW, e2, hX, ⟨Int.ediv_nonneg hU0 (by omega), Int.ediv_lt_of_lt_mul hVpos hlt⟩, Int.ediv_mul_le _ (by omega), Int.lt_ediv_add_one_mul_self _ hVpos, ⟨htop, b1.2⟩, b2, b5, by omega, ?_⟩
  rw [e1, e2] at hlt
  generalize V.getD (m + 1) 0 = v1 at *
  generalize V.getD m 0 = v2 at *
  generalize U.getD (m + 2) 0 = u0 at *
  generalize U.getD (m + 1) 0 = u1 at *
  generalize U.getD m 0 = u2 at *
  generalize val (V.take m) = W at *
  generalize val (U.take m) = X at *
  generalize (4294967296 : Int) ^ m = M at *
  have h1 : 4294967296 * (W + (v1 * 4294967296 + v2) * M) < 4294967296 * ((v1 * 4294967296 + v2 + 1) * M) := by
    have : (v1 * 4294967296 + v2 + 1) * M = (v1 * 4294967296 + v2) * M + M := by grind
    omega
  have h2 : ((u0 * 4294967296 + u1) * 4294967296 + u2) * M < (4294967296 * (v1 * 4294967296 + v2 + 1)) * M := by
    have : 4294967296 * (v1 * 4294967296 + v2 + 1) * M = 4294967296 * ((v1 * 4294967296 + v2 + 1) * M) := by grind
    omega
  have h3 := Int.lt_of_mul_lt_mul_right h2 (Int.le_of_lt hM)
  omega
theorem norm_top (B V : List Int) (m s : Nat) (hs : s < 32) (hB : Wf B) (hn : B.length = m + 2) (hV : Is V (val B * 2 ^ s)) (h1 : 2147483648 ≤ B.getD (m + 1) 0 * 2 ^ s) (h2 : B.getD (m + 1) 0 * 2 ^ s < 4294967296) :
    V.length = m + 2 ∧ 2147483648 ≤ V.getD (m + 1) 0 := by
  have hp := pow_bd (s := s) (by omega)
  have hsp := pow_split (s := s) (by omega)
  have ht := (pow_bd (s := 32 - s) (by omega)).1
  have eB : val B = val (B.take (m + 1)) + 4294967296 ^ (m + 1) * B.getD (m + 1) 0 := by
    rw [← val_take_at B, List.take_of_length_le (by omega)]
  have hW := take_lt hB (m + 1) (by omega)
  have hP := pow_pos' (m + 1)
  have hlo : 4294967296 ^ (m + 1) * 2147483648 ≤ val B * 2 ^ s := by
    have : 4294967296 ^ (m + 1) * 2147483648 ≤ 4294967296 ^ (m + 1) * (B.getD (m + 1) 0 * 2 ^ s) := Int.mul_le_mul_of_nonneg_left h1 (Int.le_of_lt hP)
    have h3 : 0 ≤ val (B.take (m + 1)) * 2 ^ s := Int.mul_nonneg hW.1 (by omega)
    rw [eB, Int.add_mul, Int.mul_assoc]
    omega
  have hhi : val B * 2 ^ s < 4294967296 ^ (m + 2) := by
    have h3 : B.getD (m + 1) 0 + 1 ≤ 2 ^ (32 - s) := by
      rcases Int.lt_or_le (B.getD (m + 1) 0) (2 ^ (32 - s)) with h | h
      · omega
      · have : 2 ^ (32 - s) * 2 ^ s ≤ B.getD (m + 1) 0 * 2 ^ s := Int.mul_le_mul_of_nonneg_right h (by omega)
        rw [Int.mul_comm, hsp] at this
        omega
    have h4 : (B.getD (m + 1) 0 + 1) * 2 ^ s ≤ 4294967296 := by
      have : (B.getD (m + 1) 0 + 1) * 2 ^ s ≤ 2 ^ (32 - s) * 2 ^ s := Int.mul_le_mul_of_nonneg_right h3 (by omega)
      rwa [Int.mul_comm (2 ^ (32 - s)), hsp] at this
    have h5 : val B < 4294967296 ^ (m + 1) * (B.getD (m + 1) 0 + 1) := by rw [eB, Int.mul_add, Int.mul_one]; omega
    have h6 : val B * 2 ^ s < 4294967296 ^ (m + 1) * (B.getD (m + 1) 0 + 1) * 2 ^ s := Int.mul_lt_mul_of_pos_right h5 (by omega)
    have h7 : 4294967296 ^ (m + 1) * ((B.getD (m + 1) 0 + 1) * 2 ^ s) ≤ 4294967296 ^ (m + 1) * 4294967296 := Int.mul_le_mul_of_nonneg_left h4 (Int.le_of_lt hP)
    rw [Int.mul_assoc] at h6
    rw [show m + 2 = m + 1 + 1 from rfl, pow_snoc]
    omega
  have hl1 := hV.len hhi
  have hl2 : m + 2 ≤ V.length := by
    rcases Nat.lt_or_ge V.length (m + 2) with h | h
    · have h3 := hV.lt
      have h4 := pow_le (m := V.length) (n := m + 1) (by omega)
      omega
    · exact h
  have hl : V.length = m + 2 := by omega
  refine ⟨hl, ?_⟩
  have eV : val V = val (V.take (m + 1)) + 4294967296 ^ (m + 1) * V.getD (m + 1) 0 := by
    rw [← val_take_at V, List.take_of_length_le (by omega)]
  have hX := take_lt hV.wf (m + 1) (by omega)
  rw [hV.val] at eV
  rcases Int.lt_or_le (V.getD (m + 1) 0) 2147483648 with h | h
  · have : 4294967296 ^ (m + 1) * V.getD (m + 1) 0 ≤ 4294967296 ^ (m + 1) * 2147483647 := Int.mul_le_mul_of_nonneg_left (by omega) (Int.le_of_lt hP)
    have h3 : (4294967296 : Int) ^ (m + 1) * 2147483648 = 4294967296 ^ (m + 1) * 2147483647 + 4294967296 ^ (m + 1) := by
      generalize (4294967296 : Int) ^ (m + 1) = P
      omega
    omega
  · exact h
theorem divstep {r x w : Int} (hw : 0 < w) (hr : 0 ≤ r ∧ r < w) (hx : 0 ≤ x ∧ x < 4294967296) : ∃ q r2, Hd ((r * 4294967296 + x) / w = q) ∧ Hd ((r * 4294967296 + x) % w = r2) ∧ (0 ≤ q ∧ q < 4294967296) ∧ (0 ≤ r2 ∧ r2 < w) ∧ Hd (q * w + r2 = r * 4294967296 + x) := by
  have h0 : 0 ≤ r * 4294967296 + x := by omega
  have h1 : r * 4294967296 + x < 4294967296 * w := by omega
  refine ⟨_, _, ⟨rfl⟩, ⟨rfl⟩, ⟨Int.ediv_nonneg h0 (by omega), Int.ediv_lt_of_lt_mul hw h1⟩, ⟨Int.emod_nonneg _ (by omega), Int.emod_lt_of_pos _ hw⟩, ⟨?_⟩⟩
  have := Int.emod_def (r * 4294967296 + x) w
  have e := Int.mul_comm w ((r * 4294967296 + x) / w)
  omega
theorem val_cut (l : List Int) (i : Nat) (h : i ≤ l.length) : val l = val (l.take i) + 4294967296 ^ i * val (l.drop i) := by
  conv => lhs; rw [← List.take_append_drop i l]
  rw [val_append, List.length_take, Nat.min_eq_left h]
theorem val_drop_at {l : List Int} {i : Nat} (h : i < l.length) : val (l.drop i) = l.getD i 0 + 4294967296 * val (l.drop (i + 1)) := by rw [drop_at h]; rfl
theorem val_drop_big {l : List Int} {i : Nat} (h : l.length ≤ i) : val (l.drop i) = 0 := by rw [List.drop_of_length_le h]; rfl
theorem getD_set_self {l : List Int} {i : Nat} (h : i < l.length) (x : Int) : (l.set i x).getD i 0 = x := by simp [List.getD_eq_getElem?_getD, h]
theorem getD_set_ne {l : List Int} {i j : Nat} (hne : i ≠ j) (x : Int) : (l.set i x).getD j 0 = l.getD j 0 := by simp [List.getD_eq_getElem?_getD, List.getElem?_set_ne hne]
theorem drop_set_lt {l : List Int} {i n : Nat} (h : i < n) (x : Int) : (l.set i x).drop n = l.drop n := by
  apply List.ext_getElem?
  intro k
  rw [List.getElem?_drop, List.getElem?_drop, List.getElem?_set_ne (by omega)]
theorem getD_drop (l : List Int) (n k : Nat) : (l.drop n).getD k 0 = l.getD (n + k) 0 := by simp [List.getD_eq_getElem?_getD, List.getElem?_drop]
end Go.Proofs.YtiamjfckgmnijaaGreatDoor.Pl
end
section
namespace Go.Proofs.YtiamjfckgmnijaaGreatDoor.Pl
set_option linter.unusedVariables false
theorem rshlstep {x c : Int} {s : Nat} (hs : s < 32) (hx : 0 ≤ x ∧ x < 4294967296) (hc : 0 ≤ c ∧ c < 2 ^ s) : ∃ y z, Hd ((x * 2 ^ s + c) % 4294967296 = y) ∧ Hd ((x * 2 ^ s + c) / 4294967296 = z) ∧ (0 ≤ y ∧ y < 4294967296) ∧ (0 ≤ z ∧ z < 2 ^ s) ∧ Hd (y + 4294967296 * z = x * 2 ^ s + c) ∧ (0 ≤ x * 2 ^ s + c ∧ x * 2 ^ s + c < 18446744073709551616) := by
  have hp := pow_bd (s := s) (by omega)
  have h2 : 0 ≤ x * 2 ^ s := Int.mul_nonneg hx.1 (by omega)
  have h3 : (x + 1) * 2 ^ s ≤ 4294967296 * 2 ^ s := Int.mul_le_mul_of_nonneg_right (by omega) (by omega)
  rw [Int.add_mul, Int.one_mul] at h3
  refine ⟨_, _, ⟨rfl⟩, ⟨rfl⟩, by omega, ⟨by omega, ?_⟩, ⟨by omega⟩, by omega⟩
  exact Int.ediv_lt_of_lt_mul (by decide) (by rw [Int.mul_comm (2 ^ s) 4294967296]; omega)
theorem pow32 (K : Nat) : (4294967296 : Int) ^ K = 2 ^ (32 * K) := by rw [Int.pow_mul]; rfl
theorem div_pow (v : Int) (K j : Nat) : v / 2 ^ (32 * K + j) = v / 4294967296 ^ K / 2 ^ j := by
  rw [Int.pow_add, ← pow32, Int.ediv_ediv_of_nonneg (Int.le_of_lt (pow_pos' K))]
theorem val_div (l : List Int) (hw : Wf l) (K : Nat) (hK : K ≤ l.length) : val l / 4294967296 ^ K = val (l.drop K) := by
  have h1 := val_cut l K hK
  have h2 := take_lt hw K hK
  rw [h1, Int.add_mul_ediv_left _ _ (by have := pow_pos' K; omega), Int.ediv_eq_zero_of_lt h2.1 h2.2, Int.zero_add]
theorem bit_at (l : List Int) (hw : Wf l) (K j : Nat) (hK : K < l.length) (hj : j < 32) : val l / 2 ^ (32 * K + j) % 2 = l.getD K 0 / 2 ^ j % 2 := by
  have hp := pow_bd (s := j) (by omega)
  rw [div_pow, val_div l hw K (by omega), val_drop_at hK]
  have hsp := pow_split (s := j) (by omega)
  have e2 : (2 : Int) ^ (32 - j) = 2 * 2 ^ (31 - j) := by rw [show 32 - j = 31 - j + 1 from by omega, Int.pow_succ, Int.mul_comm]
  generalize l.getD K 0 = x
  generalize val (l.drop (K + 1)) = D
  have e : (x + 4294967296 * D) / 2 ^ j = x / 2 ^ j + 2 * (2 ^ (31 - j) * D) := by
    rw [← hsp, Int.mul_assoc, Int.add_mul_ediv_left _ _ (by omega), e2, Int.mul_assoc]
  rw [e]
  generalize (2 : Int) ^ (31 - j) * D = y
  omega
theorem bit_none (l : List Int) (hw : Wf l) (n : Nat) (h : l.length ≤ n / 32) : val l / 2 ^ n % 2 = 0 := by
  have h1 := val_lt hw
  have h2 := pow_le h
  have e : (n : Nat) = 32 * (n / 32) + n % 32 := by omega
  rw [e, div_pow, Int.ediv_eq_zero_of_lt (val_nonneg hw) (by omega), Int.zero_ediv]
  rfl
theorem val_set (l : List Int) (K : Nat) (x : Int) (h : K < l.length) : val (l.set K x) = val l + 4294967296 ^ K * (x - l.getD K 0) := by
  have h1 := val_cut l K (by omega)
  have h2 := val_cut (l.set K x) K (by simp; omega)
  have e1 : (l.set K x).take K = l.take K := by rw [List.take_set, List.set_eq_of_length_le (by rw [List.length_take]; omega)]
  rw [e1, val_drop_at (by simp; omega), getD_set_self h, drop_set_lt (by omega)] at h2
  rw [val_drop_at h] at h1
  rw [h2, h1]
  grind
theorem limb_room (l : List Int) (hw : Wf l) (K j : Nat) (hK : K < l.length) (hj : j < 32) (Q : Int) (h : val l = Q * 2 ^ (32 * K + j + 1)) : l.getD K 0 + 2 ^ j < 4294967296 := by
  have hx := Wf.at hw K
  have e := val_div l hw K (by omega)
  rw [h, show 32 * K + j + 1 = 32 * K + (j + 1) from by omega, Int.pow_add, ← pow32, show Q * (4294967296 ^ K * 2 ^ (j + 1)) = 4294967296 ^ K * (Q * 2 ^ (j + 1)) from by grind, Int.mul_ediv_cancel_left _ (by have := pow_pos' K; omega), val_drop_at hK] at e
  have hsp := pow_split (s := j + 1) (by omega)
  have hp := (pow_bd (s := j + 1) (by omega)).1
  have hp2 := (pow_bd (s := 32 - (j + 1)) (by omega)).1
  have hj1 : (2 : Int) ^ (j + 1) = 2 ^ j * 2 := Int.pow_succ _ _
  have hj0 := (pow_bd (s := j) (by omega)).1
  generalize l.getD K 0 = x at *
  generalize val (l.drop (K + 1)) = D at *
  generalize (2 : Int) ^ (32 - (j + 1)) = T at *
  have e2 : x = 2 ^ (j + 1) * (Q - T * D) := by rw [← hsp] at e; grind
  have hy : Q - T * D < T := by
    rcases Int.lt_or_le (Q - T * D) T with h1 | h1
    · exact h1
    · have : 2 ^ (j + 1) * T ≤ 2 ^ (j + 1) * (Q - T * D) := Int.mul_le_mul_of_nonneg_left h1 (by omega)
      omega
  have h3 : 2 ^ (j + 1) * (Q - T * D) ≤ 2 ^ (j + 1) * (T - 1) := Int.mul_le_mul_of_nonneg_left (by omega) (by omega)
  have h4 : 2 ^ (j + 1) * (T - 1) = 4294967296 - 2 ^ (j + 1) := by rw [Int.mul_sub, hsp, Int.mul_one]
  omega
theorem divbit {H B e : Int} (hB : 0 < B) (hH : 0 ≤ H) (he : 0 ≤ e ∧ e ≤ 1) :
    (B ≤ 2 * (H % B) + e → (2 * H + e) / B = 2 * (H / B) + 1 ∧ (2 * H + e) % B = 2 * (H % B) + e - B) ∧ (¬ B ≤ 2 * (H % B) + e → (2 * H + e) / B = 2 * (H / B) ∧ (2 * H + e) % B = 2 * (H % B) + e) := by
  have h1 := Int.emod_nonneg H (show B ≠ 0 by omega)
  have h2 := Int.emod_lt_of_pos H hB
  have h3 := Int.emod_def H B
  have h4 := Int.emod_def (2 * H + e) B
  generalize H / B = q at *
  generalize H % B = r at *
  constructor
  · intro h
    have e1 : 2 * H + e = (2 * r + e - B) + B * (2 * q + 1) := by grind
    have e2 : (2 * H + e) / B = 2 * q + 1 := by
      rw [e1, Int.add_mul_ediv_left _ _ (by omega), Int.ediv_eq_zero_of_lt (by omega) (by omega), Int.zero_add]
    refine ⟨e2, ?_⟩
    rw [h4, e2]
    grind
  · intro h
    have e1 : 2 * H + e = (2 * r + e) + B * (2 * q) := by grind
    have e2 : (2 * H + e) / B = 2 * q := by
      rw [e1, Int.add_mul_ediv_left _ _ (by omega), Int.ediv_eq_zero_of_lt (by omega) (by omega), Int.zero_add]
    refine ⟨e2, ?_⟩
    rw [h4, e2]
    grind
theorem half_pow (A : Int) (n : Nat) (hA : 0 ≤ A) : A / 2 ^ n = 2 * (A / 2 ^ (n + 1)) + A / 2 ^ n % 2 := by
  have : A / 2 ^ (n + 1) = A / 2 ^ n / 2 := by rw [Int.pow_succ, Int.ediv_ediv_of_nonneg (Int.le_of_lt (Int.pow_pos (by decide)))]
  rw [this]
  omega
theorem sgn_ge {x y : Int} : sgn x y ≥ 0 ↔ y ≤ x := by
  unfold sgn
  split
  · simp; omega
  · split
    · simp; omega
    · simp; omega
theorem gcd_half {m n : Nat} (hm : m % 2 = 0) (hn : n % 2 = 1) : Nat.gcd (m / 2) n = Nat.gcd m n := by
  have e : m = 2 * (m / 2) := by omega
  conv => rhs; rw [e]
  have hc : Nat.Coprime 2 n := by
    unfold Nat.Coprime
    rw [Nat.gcd_rec, hn]
    decide
  exact (Nat.Coprime.gcd_mul_left_cancel _ hc).symm
end Go.Proofs.YtiamjfckgmnijaaGreatDoor.Pl
end
