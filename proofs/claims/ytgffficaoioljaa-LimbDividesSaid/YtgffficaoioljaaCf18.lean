import Derived.Test.YtgffficaoioljaaCf15
import Derived.Test.YtgffficaoioljaaCf13
import Derived.Test.YtgffficaoioljaaCf11
import Derived.Test.YtgffficaoioljaaCf12
import Derived.Lib.ItoaNum
section
namespace Go.Proofs.Ytgffficaoioljaa.PlN
open Go.RowKit Go.Proofs.Ytgffficaoioljaa.P Go.Proofs.Ytgffficaoioljaa.Pl Go.Proofs.Ytgffficaoioljaa.PlA Go.Proofs.YtgffficaoioljaaW.PrintWords Go.Proofs.YtgffficaoioljaaW.PrintLast Go.Proofs.YtgffficaoioljaaW.PrintMore
set_option linter.unusedVariables false
def bitsOf (l : List Int) : Int := if l.length = 0 then 0 else 32 * ((l.length : Int) - 1) + (Lib.bitLen (rd l ((l.length - 1 : Nat) : Int)).toNat : Int)
theorem bitLen_zero : Lib.bitLen 0 = 0 := by decide +kernel
theorem top_nonzero {l : List Int} (hw : Wf l) (h : trim l = l) (hl : l.length ≠ 0) : 1 ≤ rd l ((l.length - 1 : Nat) : Int) := by
  obtain ⟨m, x, rfl⟩ := snoc_of_ne (l := l) (by intro e; rw [e] at hl; simp at hl)
  have := last_pos h hw
  rw [rd_of (by simp)]
  simpa using this
theorem bitLen_bd {x : Int} (h : 0 ≤ x ∧ x < 4294967296) : Lib.bitLen x.toNat ≤ 32 := Lib.bitLen_le x.toNat 32 (by omega) (by omega)
theorem bitLen_pos {x : Int} (h : 1 ≤ x ∧ x < 4294967296) : 1 ≤ Lib.bitLen x.toNat := (Lib.bitLenAux_bounds 64 x.toNat (by omega) (by omega)).1
theorem len32 {x : Int} (h : 0 ≤ x ∧ x < 4294967296) : bits_Len32.f x = some (Lib.bitLen x.toNat : Int) := by
  unfold bits_Len32.f
  rw [if_pos (by omega)]
theorem top_wf {l : List Int} (hw : Wf l) : 0 ≤ rd l ((l.length - 1 : Nat) : Int) ∧ rd l ((l.length - 1 : Nat) : Int) < 4294967296 := rd_wf' hw _
theorem natsBits (l : List Int) (hw : Wf l) (hl : l.length ≤ 70368744177664) : Ev (fun k => nats_Bits.f k l) (bitsOf (trim l)) := by
  have ia := Is.of hw rfl
  have la := trim_len l
  unfold nats_Bits.f
  refine Ev.bind (cut l (by omega)) ?_
  by_cases h : (trim l).length = 0
  · refine Ev.congr (fun k => if_pos (by omega)) ?_
    unfold bitsOf
    rw [if_pos h]
    exact Ev.now _
  · refine Ev.congr (fun k => if_neg (by omega)) ?_
    have e1 : wrap64 (((trim l).length : Int) - 1) = (((trim l).length - 1 : Nat) : Int) := by rw [w64 (by omega) (by omega)]; omega
    have ht := top_wf ia.wf
    have hb := bitLen_bd ht
    rw [e1]
    refine Ev.congr (fun k => if_pos (by omega)) (Ev.congr (fun k => if_pos (by omega)) ?_)
    refine Ev.congr (fun k => ?_) (Ev.now _)
    rw [len32 ht, Option.bind_some, w64 (x := 32 * _) (by omega) (by omega), w64 (by omega) (by omega)]
    unfold bitsOf
    rw [if_neg h, show (((trim l).length - 1 : Nat) : Int) = ((trim l).length : Int) - 1 from by omega]
theorem rbits_l0_step (k : Nat) (x n : Int) (hx : 0 < x ∧ x < 4294967296) (hn : 0 ≤ n ∧ n < 9000000000000000000) : sibylref01_Bits.l0 (k + 1) n x = sibylref01_Bits.l0 k (n + 1) (x / 2) := by
  simp only [sibylref01_Bits.l0]
  rw [if_pos (by omega), w64 (by omega) (by omega), Int.tdiv_eq_ediv_of_nonneg (by omega), show x / 2 % 4294967296 = x / 2 from by omega]
theorem rbits_l0 : ∀ (f : Nat) (x n : Int), 0 ≤ x → x < 4294967296 → x < 2 ^ f → 0 ≤ n → n + f < 9000000000000000000 → f ≤ 32 → Ev (fun k => sibylref01_Bits.l0 k n x) (n + (Lib.bitLen x.toNat : Int))
  | 0, x, n, h0, h1, h2, h3, h4, h5 => by
    have : x = 0 := by simp at h2; omega
    subst this
    refine Ev.step (f := fun _ => some n) (fun k => ?_) ?_
    · simp only [sibylref01_Bits.l0]
      rw [if_neg (by omega)]
    · rw [Int.toNat_zero, bitLen_zero]; simpa using Ev.now n
  | f + 1, x, n, h0, h1, h2, h3, h4, h5 => by
    rcases Int.lt_or_le 0 x with h | h
    · have ih := rbits_l0 f (x / 2) (n + 1) (by omega) (by omega) (by rw [Int.pow_succ] at h2; omega) (by omega) (by omega) (by omega)
      have e := Lib.bitLen_half x.toNat (by omega) (by omega)
      rw [show x.toNat / 2 = (x / 2).toNat from by omega] at e
      rw [e, show n + ((1 + Lib.bitLen (x / 2).toNat : Nat) : Int) = n + 1 + (Lib.bitLen (x / 2).toNat : Int) from by omega]
      exact Ev.step (fun k => rbits_l0_step k x n ⟨h, h1⟩ (by omega)) ih
    · have : x = 0 := by omega
      subst this
      refine Ev.step (f := fun _ => some n) (fun k => ?_) ?_
      · simp only [sibylref01_Bits.l0]
        rw [if_neg (by omega)]
      · rw [Int.toNat_zero, bitLen_zero]; simpa using Ev.now n
theorem rbits (l : List Int) (hw : Wf l) (hl : l.length ≤ 35184372088832) : Ev (fun k => sibylref01_Bits.f k l) (bitsOf (trim l)) := by
  have ia := Is.of hw rfl
  have la := trim_len l
  unfold sibylref01_Bits.f
  refine Ev.bind (rtrim' l (by omega)) ?_
  by_cases h : (trim l).length = 0
  · refine Ev.congr (fun k => if_pos (by omega)) ?_
    unfold bitsOf
    rw [if_pos h]
    exact Ev.now _
  · refine Ev.congr (fun k => if_neg (by omega)) ?_
    have e1 : wrap64 (((trim l).length : Int) - 1) = (((trim l).length - 1 : Nat) : Int) := by rw [w64 (by omega) (by omega)]; omega
    have ht := top_wf ia.wf
    rw [e1]
    refine Ev.congr (fun k => if_pos (by omega)) (Ev.congr (fun k => if_pos (by omega)) ?_)
    have := rbits_l0 32 (rd (trim l) (((trim l).length - 1 : Nat) : Int)) (32 * (((trim l).length : Int) - 1)) ht.1 ht.2 (by omega) (by omega) (by omega) (by omega)
    rw [w64 (x := 32 * _) (by omega) (by omega), show (((trim l).length - 1 : Nat) : Int) = ((trim l).length : Int) - 1 from by omega]
    unfold bitsOf
    rw [if_neg h]
    rwa [show (((trim l).length - 1 : Nat) : Int) = ((trim l).length : Int) - 1 from by omega] at this ⊢
theorem bitsOf_zero {l : List Int} (hw : Wf l) (h : trim l = l) : bitsOf l = 0 ↔ l = [] := by
  unfold bitsOf
  by_cases hl : l.length = 0
  · rw [if_pos hl]
    simp [List.eq_nil_of_length_eq_zero hl]
  · rw [if_neg hl]
    have h1 := bitLen_pos ⟨top_nonzero hw h hl, (top_wf hw).2⟩
    constructor
    · intro e; omega
    · intro e; rw [e] at hl; simp at hl
theorem bitsOf_nonneg (l : List Int) : 0 ≤ bitsOf l := by
  unfold bitsOf
  split <;> omega
end Go.Proofs.Ytgffficaoioljaa.PlN
end
section
namespace Go.Proofs.Ytgffficaoioljaa.PlN
open Go.RowKit Go.Proofs.Ytgffficaoioljaa.P Go.Proofs.Ytgffficaoioljaa.Pl Go.Proofs.Ytgffficaoioljaa.PlA Go.Proofs.YtgffficaoioljaaW.PrintWords Go.Proofs.YtgffficaoioljaaW.PrintLast Go.Proofs.YtgffficaoioljaaW.PrintMore
set_option linter.unusedVariables false
theorem take_lt' {l : List Int} (hw : Wf l) (m : Nat) (h : m ≤ l.length) : 0 ≤ val (l.take m) ∧ val (l.take m) < 4294967296 ^ m := by
  have h1 := val_lt (hw.take m)
  rw [List.length_take, Nat.min_eq_left h] at h1
  exact ⟨val_nonneg (hw.take m), h1⟩
theorem div_pow (v : Int) (K j : Nat) : v / 2 ^ (32 * K + j) = v / 4294967296 ^ K / 2 ^ j := by
  rw [Int.pow_add, ← pow32, Int.ediv_ediv_of_nonneg (Int.le_of_lt (pow_pos' K))]
theorem val_div (l : List Int) (hw : Wf l) (K : Nat) (hK : K ≤ l.length) : val l / 4294967296 ^ K = val (l.drop K) := by
  have h1 := val_cut l K hK
  have h2 := take_lt' hw K hK
  rw [h1, Int.add_mul_ediv_left _ _ (by have := pow_pos' K; omega), Int.ediv_eq_zero_of_lt h2.1 h2.2, Int.zero_add]
theorem bit_at (l : List Int) (hw : Wf l) (K j : Nat) (hK : K < l.length) (hj : j < 32) : val l / 2 ^ (32 * K + j) % 2 = rd l (K : Int) / 2 ^ j % 2 := by
  have hp := pow_bd (s := j) (by omega)
  rw [div_pow, val_div l hw K (by omega), val_drop_rd hK]
  have hsp := pow_split (s := j) (by omega)
  have e2 : (2 : Int) ^ (32 - j) = 2 * 2 ^ (31 - j) := by rw [show 32 - j = 31 - j + 1 from by omega, Int.pow_succ, Int.mul_comm]
  generalize rd l (K : Int) = x
  generalize val (l.drop (K + 1)) = D
  have e : (x + 4294967296 * D) / 2 ^ j = x / 2 ^ j + 2 * (2 ^ (31 - j) * D) := by
    rw [← hsp, Int.mul_assoc, Int.add_mul_ediv_left _ _ (by omega), e2, Int.mul_assoc]
  rw [e]
  generalize (2 : Int) ^ (31 - j) * D = y
  omega
theorem bit_none (l : List Int) (hw : Wf l) (n : Nat) (h : l.length ≤ n / 32) : val l / 2 ^ n % 2 = 0 := by
  have h1 := val_lt hw
  have h2 := pow_le h
  have e : (n : Nat) = 32 * (n / 32) + n % 32 := by omega
  rw [e, div_pow, Int.ediv_eq_zero_of_lt (val_nonneg hw) (by omega), Int.zero_ediv]
  rfl
theorem rbit (l : List Int) (hw : Wf l) (n : Nat) (hn : n ≤ 4000000000000000) : sibylref01_Bit.f l (n : Int) = some (decide (val l / 2 ^ n % 2 = 1)) := by
  have e0 : wrap64 (Int.tdiv (n : Int) 32) = ((n / 32 : Nat) : Int) := by rw [tdiv_nn (by omega), w64 (by omega) (by omega)]; omega
  have e1 : IntKind.u64.wrap (Int.tmod (n : Int) 32) = ((n % 32 : Nat) : Int) := by rw [tmod_nn (by omega), u64 (by omega) (by omega)]; omega
  unfold sibylref01_Bit.f
  rw [e0, e1, if_neg (by omega)]
  by_cases h : l.length ≤ n / 32
  · rw [if_pos (by omega), bit_none l hw n h]
    rfl
  · have hx := rd_wf' hw (n / 32)
    have hp := pow_bd (s := n % 32) (by omega)
    have hsh : shr .u32 (rd l ((n / 32 : Nat) : Int)) ((n % 32 : Nat) : Int) = rd l ((n / 32 : Nat) : Int) / 2 ^ (n % 32) := by
      unfold shr
      rw [Int.toNat_natCast, show min (n % 32) IntKind.u32.bits = n % 32 from Nat.min_eq_left (by simp [IntKind.bits]; omega)]
    have hb := bit_at l hw (n / 32) (n % 32) (by omega) (by omega)
    rw [show 32 * (n / 32) + n % 32 = n from by omega] at hb
    rw [if_neg (by omega), if_pos (by omega), if_pos (by omega), if_pos (by omega), hsh, tmod_nn (Int.ediv_nonneg hx.1 (by omega)), hb]
    generalize rd l ((n / 32 : Nat) : Int) / 2 ^ (n % 32) % 2 = b
    by_cases c : b = 1
    · rw [decide_eq_true c, beq_iff_eq.mpr c]
    · rw [decide_eq_false c, beq_eq_false_iff_ne.mpr c]
end Go.Proofs.Ytgffficaoioljaa.PlN
end
section
namespace Go.Proofs.Ytgffficaoioljaa.PlN
open Go.RowKit Go.Proofs.Ytgffficaoioljaa.P Go.Proofs.Ytgffficaoioljaa.Pl Go.Proofs.Ytgffficaoioljaa.PlA Go.Proofs.YtgffficaoioljaaW.PrintWords Go.Proofs.YtgffficaoioljaaW.PrintLast Go.Proofs.YtgffficaoioljaaW.PrintMore
set_option linter.unusedVariables false
theorem val_set (l : List Int) (K : Nat) (x : Int) (h : K < l.length) : val (l.set K x) = val l + 4294967296 ^ K * (x - rd l (K : Int)) := by
  have h1 := val_cut l K (by omega)
  have h2 := val_cut (l.set K x) K (by simp; omega)
  have e1 : (l.set K x).take K = l.take K := by rw [List.take_set, List.set_eq_of_length_le (by rw [List.length_take]; omega)]
  rw [e1, val_drop_rd (by simp; omega), rd_set_self h, drop_set_lt (by omega)] at h2
  rw [val_drop_rd h] at h1
  rw [h2, h1]
  grind
theorem limb_room (l : List Int) (hw : Wf l) (K j : Nat) (hK : K < l.length) (hj : j < 32) (Q : Int) (h : val l = Q * 2 ^ (32 * K + j + 1)) : rd l (K : Int) + 2 ^ j < 4294967296 := by
  have hx := rd_wf' hw K
  have e := val_div l hw K (by omega)
  rw [h, show 32 * K + j + 1 = 32 * K + (j + 1) from by omega, Int.pow_add, ← pow32, show Q * (4294967296 ^ K * 2 ^ (j + 1)) = 4294967296 ^ K * (Q * 2 ^ (j + 1)) from by grind, Int.mul_ediv_cancel_left _ (by have := pow_pos' K; omega), val_drop_rd hK] at e
  have hsp := pow_split (s := j + 1) (by omega)
  have hp := (pow_bd (s := j + 1) (by omega)).1
  have hp2 := (pow_bd (s := 32 - (j + 1)) (by omega)).1
  have hj1 : (2 : Int) ^ (j + 1) = 2 ^ j * 2 := Int.pow_succ _ _
  have hj0 := (pow_bd (s := j) (by omega)).1
  generalize rd l (K : Int) = x at *
  generalize val (l.drop (K + 1)) = D at *
  generalize (2 : Int) ^ (32 - (j + 1)) = T at *
  have e2 : x = 2 ^ (j + 1) * (Q - T * D) := by rw [← hsp] at e; grind
  have hy : Q - T * D < T := by
    rcases Int.lt_or_le (Q - T * D) T with h1 | h1
    · exact h1
    · have : 2 ^ (j + 1) * T ≤ 2 ^ (j + 1) * (Q - T * D) := Int.mul_le_mul_of_nonneg_left h1 (by omega)
      omega
  have h3 : 2 ^ (j + 1) * (Q - T * D) ≤ 2 ^ (j + 1) * (T - 1) := Int.mul_le_mul_of_nonneg_left (by omega) (by omega)
  have h4 : 2 ^ (j + 1) * (T - 1) = 4294967296 - 2 ^ (j + 1) := by rw [Int.mul_sub, hsp, Int.mul_one]
  omega
end Go.Proofs.Ytgffficaoioljaa.PlN
end
section
namespace Go.Proofs.Ytgffficaoioljaa.PlN
open Go.RowKit Go.Proofs.Ytgffficaoioljaa.P Go.Proofs.Ytgffficaoioljaa.Pl Go.Proofs.Ytgffficaoioljaa.PlA Go.Proofs.YtgffficaoioljaaW.PrintWords Go.Proofs.YtgffficaoioljaaW.PrintLast Go.Proofs.YtgffficaoioljaaW.PrintMore
set_option linter.unusedVariables false
theorem divbit {H B e : Int} (hB : 0 < B) (hH : 0 ≤ H) (he : 0 ≤ e ∧ e ≤ 1) :
    (B ≤ 2 * (H % B) + e → (2 * H + e) / B = 2 * (H / B) + 1 ∧ (2 * H + e) % B = 2 * (H % B) + e - B) ∧ (¬ B ≤ 2 * (H % B) + e → (2 * H + e) / B = 2 * (H / B) ∧ (2 * H + e) % B = 2 * (H % B) + e) := by
  have h1 := Int.emod_nonneg H (show B ≠ 0 by omega)
  have h2 := Int.emod_lt_of_pos H hB
  have h3 := Int.emod_def H B
  have h4 := Int.emod_def (2 * H + e) B
  generalize H / B = q at *
  generalize H % B = r at *
  constructor
  · intro h
    have e1 : 2 * H + e = (2 * r + e - B) + B * (2 * q + 1) := by grind
    have e2 : (2 * H + e) / B = 2 * q + 1 := by
      rw [e1, Int.add_mul_ediv_left _ _ (by omega), Int.ediv_eq_zero_of_lt (by omega) (by omega), Int.zero_add]
    refine ⟨e2, ?_⟩
    rw [h4, e2]
    grind
  · intro h
    have e1 : 2 * H + e = (2 * r + e) + B * (2 * q) := by grind
    have e2 : (2 * H + e) / B = 2 * q := by
      rw [e1, Int.add_mul_ediv_left _ _ (by omega), Int.ediv_eq_zero_of_lt (by omega) (by omega), Int.zero_add]
    refine ⟨e2, ?_⟩
    rw [h4, e2]
    grind
theorem half_pow (A : Int) (n : Nat) (hA : 0 ≤ A) : A / 2 ^ n = 2 * (A / 2 ^ (n + 1)) + A / 2 ^ n % 2 := by
  have : A / 2 ^ (n + 1) = A / 2 ^ n / 2 := by rw [Int.pow_succ, Int.ediv_ediv_of_nonneg (Int.le_of_lt (Int.pow_pos (by decide)))]
  rw [this]
  omega
theorem shl1 {j : Nat} (hj : j < 32) : shl .u32 1 (j : Int) = 2 ^ j := by
  have hp := pow_bd (s := j) (by omega)
  have hsp := pow_split (s := j) (by omega)
  have h2 : (2 : Int) ^ (32 - j) = 2 * 2 ^ (31 - j) := by rw [show 32 - j = 31 - j + 1 from by omega, Int.pow_succ, Int.mul_comm]
  have h3 := (pow_bd (s := 31 - j) (by omega)).1
  have h4 : (2 : Int) ^ j * 2 ≤ 4294967296 := by
    rw [← hsp, h2]
    exact Int.mul_le_mul_of_nonneg_left (by omega) (by omega)
  unfold shl
  rw [Int.toNat_natCast, show min j IntKind.u32.bits = j from Nat.min_eq_left (by simp [IntKind.bits]; omega), Int.one_mul]
  have e : ∀ x : Int, IntKind.u32.wrap x = x % 4294967296 := fun x => by simp [IntKind.wrap, IntKind.bits, IntKind.signed]
  rw [e]
  exact Int.emod_eq_of_lt (by omega) (by omega)
theorem rdiv_upd (k : Nat) (a b quo t : List Int) (n : Nat) (hn : n ≤ 4000000000000000) (hK : n / 32 < quo.length) (hr : Hd (0 ≤ rd quo ((n / 32 : Nat) : Int) ∧ rd quo ((n / 32 : Nat) : Int) + 2 ^ (n % 32) < 4294967296)) :
    (if 0 ≤ (wrap64 (Int.tdiv (n : Int) 32)) then (if (wrap64 (Int.tdiv (n : Int) 32)) < (quo.length : Int) then (if 0 ≤ (IntKind.u64.wrap (Int.tmod (n : Int) 32)) then (sibylref01_Divide.l0 k a b (quo.set ((wrap64 (Int.tdiv (n : Int) 32)) : Int).toNat (((rd quo (wrap64 (Int.tdiv (n : Int) 32))) + (shl .u32 1 (IntKind.u64.wrap (Int.tmod (n : Int) 32)))) % 4294967296)) t (wrap64 ((n : Int) - 1))) else (none)) else (none)) else (none)) =
      sibylref01_Divide.l0 k a b (quo.set (n / 32) (rd quo ((n / 32 : Nat) : Int) + 2 ^ (n % 32))) t ((n : Int) - 1) := by
  have e0 : wrap64 (Int.tdiv (n : Int) 32) = ((n / 32 : Nat) : Int) := by rw [tdiv_nn (by omega), w64 (by omega) (by omega)]; omega
  have e1 : IntKind.u64.wrap (Int.tmod (n : Int) 32) = ((n % 32 : Nat) : Int) := by rw [tmod_nn (by omega), u64 (by omega) (by omega)]; omega
  have e2 : wrap64 ((n : Int) - 1) = (n : Int) - 1 := w64 (by omega) (by omega)
  have hr' := hr.out
  have hp := (pow_bd (s := n % 32) (by omega)).1
  have c1 : (0 : Int) ≤ ((n / 32 : Nat) : Int) := by omega
  have c2 : ((n / 32 : Nat) : Int) < (quo.length : Int) := by omega
  have c3 : (0 : Int) ≤ ((n % 32 : Nat) : Int) := by omega
  rw [e0, e1, e2, shl1 (by omega), Int.toNat_natCast, if_pos c1, if_pos c2, if_pos c3, Int.emod_eq_of_lt (by omega) hr'.2]
theorem sgn_ge {x y : Int} : sgn x y ≥ 0 ↔ y ≤ x := by
  unfold sgn
  split
  · simp; omega
  · split
    · simp; omega
    · simp; omega
theorem rdiv_l0 (a b : List Int) (ha : Wf a) (hb : Wf b) (hbl : b.length ≤ 35184372087808) (hb0 : 0 < val b) : ∀ (N : Nat) (quo rest : List Int), N ≤ 4000000000000000 → N ≤ 32 * quo.length → quo.length ≤ 35184372088831 → Wf quo → Is rest (val a / 2 ^ N % val b) → Hd (val quo = val a / 2 ^ N / val b * 2 ^ N) →
    ∃ q r, Ev (fun k => sibylref01_Divide.l0 k a b quo rest ((N : Int) - 1)) (q, r) ∧ Is q (val a / val b) ∧ Is r (val a % val b)
  | 0, quo, rest, hN, hNq, hql, hw, hr, hv => by
    have h := hv.out
    rw [Int.pow_zero, Int.ediv_one, Int.mul_one] at h
    rw [Int.pow_zero, Int.ediv_one] at hr
    refine ⟨trim quo, rest, ?_, Is.of hw h, hr⟩
    refine Ev.step (f := fun k => (sibylref01_Trim.f k quo).bind fun t => some (t, rest)) (fun k => ?_) (Ev.bind (rtrim' quo (by omega)) (Ev.now _))
    simp only [sibylref01_Divide.l0]
    rw [if_neg (by omega)]
  | N + 1, quo, rest, hN, hNq, hql, hw, hr, hv => by
    have hA := val_nonneg ha
    have hrl : rest.length ≤ b.length := hr.len (Int.lt_trans (Int.emod_lt_of_pos _ hb0) (val_lt hb))
    have hpow : (0 : Int) < 2 ^ (N + 1) := Int.pow_pos (by decide)
    have hH : 0 ≤ val a / 2 ^ (N + 1) := Int.ediv_nonneg hA (by omega)
    have hhalf := half_pow (val a) N hA
    obtain ⟨t0, ht0, hT0⟩ := rshl rest 1 hr.wf (by omega)
    rw [hr.val, Int.pow_one] at hT0
    have hb1 := rbit a ha N (by omega)
    have he : 0 ≤ val a / 2 ^ N % 2 ∧ val a / 2 ^ N % 2 ≤ 1 := by omega
    have hdb := divbit hb0 hH he
    rw [← hhalf] at hdb
    have hR0 := Int.emod_nonneg (val a / 2 ^ (N + 1)) (show val b ≠ 0 by omega)
    have hR1 := Int.emod_lt_of_pos (val a / 2 ^ (N + 1)) hb0
    obtain ⟨t, hT, hgo⟩ : ∃ t, Is t (2 * (val a / 2 ^ (N + 1) % val b) + val a / 2 ^ N % 2) ∧ ∀ R, Ev (fun k => sibylref01_Divide.j1 k a b quo t (N : Int)) R → Ev (fun k => sibylref01_Divide.l0 k a b quo rest (N : Int)) R := by
      by_cases c : val a / 2 ^ N % 2 = 1
      · rw [decide_eq_true c] at hb1
        have ht0l : t0.length ≤ b.length + 1 := hT0.len (by have := val_lt hb; rw [pow_succ']; omega)
        obtain ⟨t, ht, hT⟩ := plus t0 [1] hT0.wf (Wf.one (by decide) (by decide)) (by omega) (by simp)
        refine ⟨t, ?_, fun R h => ?_⟩
        · rw [hT0.val, val_one] at hT
          rw [c, Int.mul_comm 2]
          exact hT
        · refine Ev.step (f := fun k => (sibylref01_Shl.f k rest 1).bind fun t516 => (some true).bind fun t519 => if t519 = true then (sibylref01_Plus.f k t516 [1]).bind fun t523 => sibylref01_Divide.j1 k a b quo t523 (N : Int) else sibylref01_Divide.j1 k a b quo t516 (N : Int)) (fun k => ?_) (Ev.bind ht0 ?_)
          · simp only [sibylref01_Divide.l0]
            rw [if_pos (by omega), hb1]
          · simp only [Option.bind_some]
            exact Ev.congr (fun k => if_pos trivial) (Ev.bind ht h)
      · rw [decide_eq_false c] at hb1
        refine ⟨t0, ?_, fun R h => ?_⟩
        · rw [show val a / 2 ^ N % 2 = 0 from by omega, Int.add_zero, Int.mul_comm 2]
          exact hT0
        · refine Ev.step (f := fun k => (sibylref01_Shl.f k rest 1).bind fun t516 => (some false).bind fun t519 => if t519 = true then (sibylref01_Plus.f k t516 [1]).bind fun t523 => sibylref01_Divide.j1 k a b quo t523 (N : Int) else sibylref01_Divide.j1 k a b quo t516 (N : Int)) (fun k => ?_) (Ev.bind ht0 ?_)
          · simp only [sibylref01_Divide.l0]
            rw [if_pos (by omega), hb1]
          · simp only [Option.bind_some]
            exact Ev.congr (fun k => if_neg (by decide)) h
    rw [show ((N + 1 : Nat) : Int) - 1 = (N : Int) from by omega]
    have htl : t.length ≤ b.length + 1 := hT.len (by have := val_lt hb; rw [pow_succ']; omega)
    have hcmp := rcmp t b hT.wf hb (by omega) (by omega)
    rw [hT.val] at hcmp
    by_cases c : val b ≤ 2 * (val a / 2 ^ (N + 1) % val b) + val a / 2 ^ N % 2
    · obtain ⟨e1, e2⟩ := hdb.1 c
      obtain ⟨u, hu, hU⟩ := minus t b hT.wf hb (by omega) (by omega) (by rw [hT.val]; exact c)
      rw [hT.val, ← e2] at hU
      have hroom := limb_room quo hw (N / 32) (N % 32) (by omega) (by omega) (val a / 2 ^ (N + 1) / val b) (by rw [hv.out, show 32 * (N / 32) + N % 32 + 1 = N + 1 from by omega])
      have hx := rd_wf' hw (N / 32)
      have hp := (pow_bd (s := N % 32) (by omega)).1
      obtain ⟨q, r, h1, h2, h3⟩ := rdiv_l0 a b ha hb hbl hb0 N (quo.set (N / 32) (rd quo ((N / 32 : Nat) : Int) + 2 ^ (N % 32))) u (by omega) (by simp; omega) (by simp; omega) (hw.set _ (by omega) hroom) hU
        ⟨by
          rw [val_set _ _ _ (by omega), hv.out, e1, pow32, Int.pow_succ]
          have : (2 : Int) ^ (32 * (N / 32)) * 2 ^ (N % 32) = 2 ^ N := by rw [← Int.pow_add, show 32 * (N / 32) + N % 32 = N from by omega]
          rw [show rd quo ((N / 32 : Nat) : Int) + 2 ^ (N % 32) - rd quo ((N / 32 : Nat) : Int) = 2 ^ (N % 32) from by omega, this]
          grind⟩
      refine ⟨q, r, hgo _ ?_, h2, h3⟩
      refine Ev.step (f := fun k => (sibylref01_Cmp.f k t b).bind fun t526 => if t526 ≥ 0 then (sibylref01_Minus.f k t b).bind fun t527 => sibylref01_Divide.l0 k a b (quo.set (N / 32) (rd quo ((N / 32 : Nat) : Int) + 2 ^ (N % 32))) t527 ((N : Int) - 1) else sibylref01_Divide.l0 k a b quo t (wrap64 ((N : Int) - 1))) (fun k => ?_) (Ev.bind hcmp (Ev.congr (fun k => if_pos (sgn_ge.2 c)) (Ev.bind hu h1)))
      simp only [sibylref01_Divide.j1]
      congr 1
      funext t526
      congr 1
      congr 1
      funext t527
      exact rdiv_upd k a b quo t527 N (by omega) (by omega) ⟨hx.1, hroom⟩
    · obtain ⟨e1, e2⟩ := hdb.2 c
      rw [← e2] at hT
      obtain ⟨q, r, h1, h2, h3⟩ := rdiv_l0 a b ha hb hbl hb0 N quo t (by omega) (by omega) hql hw hT
        ⟨by rw [hv.out, e1, Int.pow_succ]; grind⟩
      refine ⟨q, r, hgo _ ?_, h2, h3⟩
      refine Ev.step (f := fun k => (sibylref01_Cmp.f k t b).bind fun t526 => if t526 ≥ 0 then (sibylref01_Minus.f k t b).bind fun t527 => (if 0 ≤ (wrap64 (Int.tdiv (N : Int) 32)) then (if (wrap64 (Int.tdiv (N : Int) 32)) < (quo.length : Int) then (if 0 ≤ (IntKind.u64.wrap (Int.tmod (N : Int) 32)) then (sibylref01_Divide.l0 k a b (quo.set ((wrap64 (Int.tdiv (N : Int) 32)) : Int).toNat (((rd quo (wrap64 (Int.tdiv (N : Int) 32))) + (shl .u32 1 (IntKind.u64.wrap (Int.tmod (N : Int) 32)))) % 4294967296)) t527 (wrap64 ((N : Int) - 1))) else (none)) else (none)) else (none)) else sibylref01_Divide.l0 k a b quo t ((N : Int) - 1)) (fun k => ?_) (Ev.bind hcmp (Ev.congr (fun k => if_neg (fun hn => c (sgn_ge.1 hn))) h1))
      simp only [sibylref01_Divide.j1]
      rw [show wrap64 ((N : Int) - 1) = (N : Int) - 1 from w64 (by omega) (by omega)]
end Go.Proofs.Ytgffficaoioljaa.PlN
end
section
namespace Go.Proofs.Ytgffficaoioljaa.PlN
open Go.RowKit Go.Proofs.Ytgffficaoioljaa.P Go.Proofs.Ytgffficaoioljaa.Pl Go.Proofs.Ytgffficaoioljaa.PlA Go.Proofs.YtgffficaoioljaaW.PrintWords Go.Proofs.YtgffficaoioljaaW.PrintLast Go.Proofs.YtgffficaoioljaaW.PrintMore
set_option linter.unusedVariables false
theorem bits_lt {l : List Int} (hw : Wf l) (h : trim l = l) : val l < 2 ^ (bitsOf l).toNat := by
  unfold bitsOf
  by_cases hl : l.length = 0
  · rw [if_pos hl, List.eq_nil_of_length_eq_zero hl]
    simp [val]
  · rw [if_neg hl]
    obtain ⟨m, hm⟩ : ∃ m, l.length = m + 1 := ⟨l.length - 1, by omega⟩
    have ht := top_nonzero hw h hl
    have htw := top_wf hw
    rw [show (l.length - 1 : Nat) = m from by omega] at ht htw ⊢
    obtain ⟨n, hn⟩ := Int.eq_ofNat_of_zero_le (show 0 ≤ rd l (m : Int) by omega)
    have hb := (Lib.bitLenAux_bounds 64 n (by omega) (by omega)).2.2
    have eV : val l = val (l.take m) + 4294967296 ^ m * rd l (m : Int) := by rw [← val_take_succ' l, List.take_of_length_le (by omega)]
    have hX := take_lt' hw m (by omega)
    rw [hn, Int.toNat_natCast] at *
    have e : (32 * ((l.length : Int) - 1) + (Lib.bitLen n : Int)).toNat = 32 * m + Lib.bitLen n := by omega
    rw [e, Int.pow_add, ← pow32, eV]
    have h2 : ((n : Int) + 1) ≤ 2 ^ Lib.bitLen n := by
      have : ((n + 1 : Nat) : Int) ≤ ((2 ^ Lib.bitLen n : Nat) : Int) := Int.ofNat_le.2 hb
      simpa using this
    have h3 : 4294967296 ^ m * ((n : Int) + 1) ≤ 4294967296 ^ m * 2 ^ Lib.bitLen n := Int.mul_le_mul_of_nonneg_left h2 (Int.le_of_lt (pow_pos' m))
    rw [Int.mul_add, Int.mul_one] at h3
    omega
theorem rdivide (a b : List Int) (ha : Wf a) (hb : Wf b) (hl : a.length ≤ 35184372087808) (hbl : b.length ≤ 35184372087808) (hb0 : 0 < val b) : ∃ q r, Ev (fun k => sibylref01_Divide.f k a b) (q, r) ∧ Is q (val a / val b) ∧ Is r (val a % val b) := by
  have ia := Is.of ha rfl
  have la := trim_len a
  have h0 := bitsOf_nonneg (trim a)
  have hbd : bitsOf (trim a) ≤ 32 * (trim a).length := by
    unfold bitsOf
    by_cases h : (trim a).length = 0
    · rw [if_pos h]; omega
    · rw [if_neg h]
      have := bitLen_bd (top_wf ia.wf)
      omega
  have hlt := bits_lt ia.wf ia.nm
  rw [ia.val] at hlt
  obtain ⟨N, hN⟩ := Int.eq_ofNat_of_zero_le h0
  rw [hN, Int.toNat_natCast] at hlt
  have hz : val a / 2 ^ N = 0 := Int.ediv_eq_zero_of_lt (val_nonneg ha) hlt
  obtain ⟨q, r, h1, h2, h3⟩ := rdiv_l0 a b ha hb hbl hb0 N (List.replicate (N / 32 + 1) 0) [] (by omega) (by simp; omega) (by simp; omega) (Wf.zeros _) (by rw [hz, Int.zero_emod]; exact Is.nil) ⟨by rw [val_zeros, hz, Int.zero_ediv, Int.zero_mul]⟩
  refine ⟨q, r, ?_, h2, h3⟩
  unfold sibylref01_Divide.f
  have hB := rbits a ha (by omega)
  rw [hN] at hB
  refine Ev.bind hB ?_
  have e : wrap64 (wrap64 (Int.tdiv (N : Int) 32) + 1) = ((N / 32 + 1 : Nat) : Int) := by rw [tdiv_nn (by omega), w64 (x := (N : Int) / 32) (by omega) (by omega), w64 (by omega) (by omega)]; omega
  have e2 : wrap64 ((N : Int) - 1) = (N : Int) - 1 := w64 (by omega) (by omega)
  rw [e, e2, Int.toNat_natCast]
  exact Ev.congr (fun k => if_pos (by omega)) (Ev.congr (fun k => if_pos (by omega)) h1)
end Go.Proofs.Ytgffficaoioljaa.PlN
end
