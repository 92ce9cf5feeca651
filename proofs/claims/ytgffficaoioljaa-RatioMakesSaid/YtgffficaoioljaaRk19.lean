import Derived.Test.YtgffficaoioljaaRk16
import Derived.Test.YtgffficaoioljaaRk14
import Derived.Test.YtgffficaoioljaaRk11
import Derived.Test.YtgffficaoioljaaRk12
import Derived.Lib.ItoaNum
section
namespace Go.Proofs.Ytgffficaoioljaa.PlN
open Go.RowKit Go.Proofs.Ytgffficaoioljaa.P Go.Proofs.Ytgffficaoioljaa.Pl Go.Proofs.Ytgffficaoioljaa.PlA Go.Proofs.YtgffficaoioljaaW.PrintWords Go.Proofs.YtgffficaoioljaaW.PrintLast Go.Proofs.YtgffficaoioljaaW.PrintMore
set_option linter.unusedVariables false
def bitsOf (l : List Int) : Int := if l.length = 0 then 0 else 32 * ((l.length : Int) - 1) + (Lib.bitLen (rd l ((l.length - 1 : Nat) : Int)).toNat : Int)
theorem bitLen_zero : Lib.bitLen 0 = 0 := by decide +kernel
theorem top_nonzero {l : List Int} (hw : Wf l) (h : trim l = l) (hl : l.length ≠ 0) : 1 ≤ rd l ((l.length - 1 : Nat) : Int) := by
 obtain ⟨m, x, rfl⟩ := snoc_of_ne (l := l) (by intro e; rw [e] at hl; simp at hl)
 have := last_pos h hw
 rw [rd_of (by simp)]
 simpa using this
theorem bitLen_bd {x : Int} (h : 0 ≤ x ∧ x < 4294967296) : Lib.bitLen x.toNat ≤ 32 := Lib.bitLen_le x.toNat 32 (by omega) (by omega)
theorem top_wf {l : List Int} (hw : Wf l) : 0 ≤ rd l ((l.length - 1 : Nat) : Int) ∧ rd l ((l.length - 1 : Nat) : Int) < 4294967296 := rd_wf' hw _
theorem rbits_l0_step (k : Nat) (x n : Int) (hx : 0 < x ∧ x < 4294967296) (hn : 0 ≤ n ∧ n < 9000000000000000000) : r1_Bits.l0 (k + 1) n x = r1_Bits.l0 k (n + 1) (x / 2) := by
 simp only [r1_Bits.l0]
 rw [if_pos (by omega), w64 (by omega) (by omega), Int.tdiv_eq_ediv_of_nonneg (by omega), show x / 2 % 4294967296 = x / 2 from by omega]
theorem rbits_l0 : ∀ (f : Nat) (x n : Int), 0 ≤ x → x < 4294967296 → x < 2 ^ f → 0 ≤ n → n + f < 9000000000000000000 → f ≤ 32 → Ev (fun k => r1_Bits.l0 k n x) (n + (Lib.bitLen x.toNat : Int))
 | 0, x, n, h0, h1, h2, h3, h4, h5 => by
  have : x = 0 := by simp at h2; omega
  subst this
  refine Ev.step (f := fun _ => some n) (fun k => ?_) ?_
  ·simp only [r1_Bits.l0]
   rw [if_neg (by omega)]
  ·rw [Int.toNat_zero, bitLen_zero]; simpa using Ev.now n
 | f + 1, x, n, h0, h1, h2, h3, h4, h5 => by
  rcases Int.lt_or_le 0 x with h | h
  ·have ih := rbits_l0 f (x / 2) (n + 1) (by omega) (by omega) (by rw [Int.pow_succ] at h2; omega) (by omega) (by omega) (by omega)
   have e := Lib.bitLen_half x.toNat (by omega) (by omega)
   rw [show x.toNat / 2 = (x / 2).toNat from by omega] at e
   rw [e, show n + ((1 + Lib.bitLen (x / 2).toNat : Nat) : Int) = n + 1 + (Lib.bitLen (x / 2).toNat : Int) from by omega]
   exact Ev.step (fun k => rbits_l0_step k x n ⟨h, h1⟩ (by omega)) ih
  ·have : x = 0 := by omega
   subst this
   refine Ev.step (f := fun _ => some n) (fun k => ?_) ?_
   ·simp only [r1_Bits.l0]
    rw [if_neg (by omega)]
   ·rw [Int.toNat_zero, bitLen_zero]; simpa using Ev.now n
theorem rbits (l : List Int) (hw : Wf l) (hl : l.length ≤ 35184372088832) : Ev (fun k => r1_Bits.f k l) (bitsOf (trim l)) := by
 have ia := Is.of hw rfl
 have la := trim_len l
 unfold r1_Bits.f
 refine Ev.bind (rtrim' l (by omega)) ?_
 by_cases h : (trim l).length = 0
 ·refine Ev.congr (fun k => if_pos (by omega)) ?_
  unfold bitsOf
  rw [if_pos h]
  exact Ev.now _
 ·refine Ev.congr (fun k => if_neg (by omega)) ?_
  have e1 : wrap64 (((trim l).length : Int) - 1) = (((trim l).length - 1 : Nat) : Int) := by rw [w64 (by omega) (by omega)]; omega
  have ht := top_wf ia.wf
  rw [e1]
  refine Ev.congr (fun k => if_pos (by omega)) (Ev.congr (fun k => if_pos (by omega)) ?_)
  have := rbits_l0 32 (rd (trim l) (((trim l).length - 1 : Nat) : Int)) (32 * (((trim l).length : Int) - 1)) ht.1 ht.2 (by omega) (by omega) (by omega) (by omega)
  rw [w64 (x := 32 * _) (by omega) (by omega), show (((trim l).length - 1 : Nat) : Int) = ((trim l).length : Int) - 1 from by omega]
  unfold bitsOf
  rw [if_neg h]
  rwa [show (((trim l).length - 1 : Nat) : Int) = ((trim l).length : Int) - 1 from by omega] at this ⊢
theorem bitsOf_nonneg (l : List Int) : 0 ≤ bitsOf l := by
 unfold bitsOf
 split <;> omega
theorem take_lt' {l : List Int} (hw : Wf l) (m : Nat) (h : m ≤ l.length) : 0 ≤ val (l.take m) ∧ val (l.take m) < 4294967296 ^ m := by
 have h1 := val_lt (hw.take m)
 rw [List.length_take, Nat.min_eq_left h] at h1
 exact ⟨val_nonneg (hw.take m), h1⟩
theorem div_pow (v : Int) (K j : Nat) : v / 2 ^ (32 * K + j) = v / 4294967296 ^ K / 2 ^ j := by
 rw [Int.pow_add, ← pow32, Int.ediv_ediv_of_nonneg (Int.le_of_lt (pow_pos' K))]
theorem val_div (l : List Int) (hw : Wf l) (K : Nat) (hK : K ≤ l.length) : val l / 4294967296 ^ K = val (l.drop K) := by
 have h1 := val_cut l K hK
 have h2 := take_lt' hw K hK
 rw [h1, Int.add_mul_ediv_left _ _ (by have := pow_pos' K; omega), Int.ediv_eq_zero_of_lt h2.1 h2.2, Int.zero_add]
theorem bit_at (l : List Int) (hw : Wf l) (K j : Nat) (hK : K < l.length) (hj : j < 32) : val l / 2 ^ (32 * K + j) % 2 = rd l (K : Int) / 2 ^ j % 2 := by
 have hp := pow_bd (s := j) (by omega)
 rw [div_pow, val_div l hw K (by omega), val_drop_rd hK]
 have hsp := pow_split (s := j) (by omega)
 have e2 : (2 : Int) ^ (32 - j) = 2 * 2 ^ (31 - j) := by rw [show 32 - j = 31 - j + 1 from by omega, Int.pow_succ, Int.mul_comm]
 generalize rd l (K : Int) = x
 generalize val (l.drop (K + 1)) = D
 have e : (x + 4294967296 * D) / 2 ^ j = x / 2 ^ j + 2 * (2 ^ (31 - j) * D) := by
  rw [← hsp, Int.mul_assoc, Int.add_mul_ediv_left _ _ (by omega), e2, Int.mul_assoc]
 rw [e]
 generalize (2 : Int) ^ (31 - j) * D = y
 omega
theorem bit_none (l : List Int) (hw : Wf l) (n : Nat) (h : l.length ≤ n / 32) : val l / 2 ^ n % 2 = 0 := by
 have h1 := val_lt hw
 have h2 := pow_le h
 have e : (n : Nat) = 32 * (n / 32) + n % 32 := by omega
 rw [e, div_pow, Int.ediv_eq_zero_of_lt (val_nonneg hw) (by omega), Int.zero_ediv]
 rfl
theorem rbit (l : List Int) (hw : Wf l) (n : Nat) (hn : n ≤ 4000000000000000) : r1_Bit.f l (n : Int) = some (decide (val l / 2 ^ n % 2 = 1)) := by
 have e0 : wrap64 (Int.tdiv (n : Int) 32) = ((n / 32 : Nat) : Int) := by rw [tdiv_nn (by omega), w64 (by omega) (by omega)]; omega
 have e1 : IntKind.u64.wrap (Int.tmod (n : Int) 32) = ((n % 32 : Nat) : Int) := by rw [tmod_nn (by omega), u64 (by omega) (by omega)]; omega
 unfold r1_Bit.f
 rw [e0, e1, if_neg (by omega)]
 by_cases h : l.length ≤ n / 32
 ·rw [if_pos (by omega), bit_none l hw n h]
  rfl
 ·have hx := rd_wf' hw (n / 32)
  have hp := pow_bd (s := n % 32) (by omega)
  have hsh : shr .u32 (rd l ((n / 32 : Nat) : Int)) ((n % 32 : Nat) : Int) = rd l ((n / 32 : Nat) : Int) / 2 ^ (n % 32) := by
   unfold shr
   rw [Int.toNat_natCast, show min (n % 32) IntKind.u32.bits = n % 32 from Nat.min_eq_left (by simp [IntKind.bits]; omega)]
  have hb := bit_at l hw (n / 32) (n % 32) (by omega) (by omega)
  rw [show 32 * (n / 32) + n % 32 = n from by omega] at hb
  rw [if_neg (by omega), if_pos (by omega), if_pos (by omega), if_pos (by omega), hsh, tmod_nn (Int.ediv_nonneg hx.1 (by omega)), hb]
  generalize rd l ((n / 32 : Nat) : Int) / 2 ^ (n % 32) % 2 = b
  by_cases c : b = 1
  ·rw [decide_eq_true c, beq_iff_eq.mpr c]
  ·rw [decide_eq_false c, beq_eq_false_iff_ne.mpr c]
theorem rshr_step (k : Nat) (l out : List Int) (n z : Int) (s i : Nat) (hs : s < 32) (hl : Wf l) (hi : i < l.length) (hlen : l.length ≤ 35184372088832) (hn : Hd (IntKind.u64.wrap (Int.tmod n 32) = (s : Int))) (ho : out.length < 35184372088832)
  (hz : Hd ((rd l ((i + 1 : Nat) : Int) * 4294967296 + rd l (i : Int)) / 2 ^ s % 4294967296 = z)) : r1_Shr.l0 (k + 1) l n out (i : Int) = r1_Shr.l0 k l n (out ++ [z]) ((i + 1 : Nat) : Int) := by
 have hx := rd_wf' hl i
 have hy := rd_wf' hl (i + 1)
 have hp := (pow_bd (s := s) (by omega)).1
 simp only [r1_Shr.l0]
 rw [hn.out, winc (by omega), if_pos (by omega), if_pos (by omega)]
 by_cases h : i + 1 < l.length
 ·have hnn : 0 ≤ (rd l ((i + 1 : Nat) : Int) * 4294967296 + rd l (i : Int)) / 2 ^ s := Int.ediv_nonneg (by omega) (by omega)
  rw [if_pos (by omega), if_pos (by omega), if_pos (by omega), if_pos ho, u64 (x := rd l (i : Int)) (by omega) (by omega), u64 (x := rd l ((i + 1 : Nat) : Int)) (by omega) (by omega), u64 (x := rd l ((i + 1 : Nat) : Int) * 4294967296) (by omega) (by omega), Int.add_comm (rd l (i : Int)), u64 (x := rd l ((i + 1 : Nat) : Int) * 4294967296 + rd l (i : Int)) (by omega) (by omega), shr_eq _ hs, tmod_nn hnn, Int.emod_emod, hz.out]
 ·have e : rd l ((i + 1 : Nat) : Int) = 0 := rd_big (by omega)
  have hz2 := hz.out
  rw [e, Int.zero_mul, Int.zero_add] at hz2
  rw [if_neg (by omega), if_pos (by omega), if_pos ho, u64 (x := rd l (i : Int)) (by omega) (by omega), shr_eq _ hs, tmod_nn (Int.ediv_nonneg hx.1 (by omega)), Int.emod_emod, hz2]
theorem rshr_end (k : Nat) (l out : List Int) (n : Int) (i : Nat) (h : l.length ≤ i) : r1_Shr.l0 (k + 1) l n out (i : Int) = (r1_Trim.f k out).bind fun t => some t := by
 simp only [r1_Shr.l0]
 rw [if_neg (by omega)]
theorem rshr_l0 (l : List Int) (n : Int) (K s : Nat) (hs : s < 32) (hl : Wf l) (hlen : l.length ≤ 35184372088832) (hK : K ≤ l.length) (hn : Hd (IntKind.u64.wrap (Int.tmod n 32) = (s : Int))) : ∀ (d m : Nat) (out : List Int), d + K + m = l.length → out.length = m → Wf out →
  Hd (2 ^ s * val out + rd l (K : Int) % 2 ^ s = val ((l.drop K).take m) + 4294967296 ^ m * (rd l ((K + m : Nat) : Int) % 2 ^ s)) → ∃ r, Ev (fun k => r1_Shr.l0 k l n out ((K + m : Nat) : Int)) r ∧ Is r (val (l.drop K) / 2 ^ s)
 | 0, m, out, hi, ho, hw, hv => by
  have h := hv.out
  have hp := pow_bd (s := s) (by omega)
  have hz : rd l ((K + m : Nat) : Int) = 0 := rd_big (by omega)
  rw [hz, List.take_of_length_le (by simp; omega), Int.zero_emod, Int.mul_zero, Int.add_zero] at h
  refine ⟨trim out, Ev.step (fun k => rshr_end k l out n (K + m) (by omega)) (Ev.bind (rtrim' out (by omega)) (Ev.now _)), Is.of hw ?_⟩
  have h3 := Int.emod_nonneg (rd l (K : Int)) (show (2 : Int) ^ s ≠ 0 by omega)
  have h4 := Int.emod_lt_of_pos (rd l (K : Int)) (show (0 : Int) < 2 ^ s by omega)
  rw [← h, Int.add_comm, Int.add_mul_ediv_left _ _ (by omega), Int.ediv_eq_zero_of_lt h3 h4, Int.zero_add]
 | d + 1, m, out, hi, ho, hw, hv => by
  obtain ⟨z, ez, hz, hs2⟩ := shrstep hs (rd_wf' hl (K + m)) (rd_wf' hl (K + m + 1))
  have hv2 : Hd (2 ^ s * val (out ++ [z]) + rd l (K : Int) % 2 ^ s = val ((l.drop K).take (m + 1)) + 4294967296 ^ (m + 1) * (rd l ((K + (m + 1) : Nat) : Int) % 2 ^ s)) := ⟨by
   have h1 := hv.out
   rw [val_snoc, ho, val_take_succ', rd_drop, pow_succ', ← Nat.add_assoc]
   have h2 := hs2.out
   generalize rd l (K : Int) % 2 ^ s = r0 at *
   generalize rd l ((K + m + 1 : Nat) : Int) % 2 ^ s = r2 at *
   generalize rd l ((K + m : Nat) : Int) % 2 ^ s = r1 at *
   generalize rd l ((K + m : Nat) : Int) = x at *
   generalize (2 : Int) ^ s = S at *
   generalize (4294967296 : Int) ^ m = P at *
   clear ez hn
   grind⟩
  obtain ⟨r, hr, hI⟩ := rshr_l0 l n K s hs hl hlen hK hn d (m + 1) _ (by omega) (by simp [ho]) (hw.append (Wf.one hz.1 hz.2)) hv2
  exact ⟨r, Ev.step (fun k => rshr_step k l out n z s (K + m) hs hl (by omega) hlen hn (by omega) ez) hr, hI⟩
theorem rshr (l : List Int) (n : Nat) (hl : Wf l) (hlen : l.length ≤ 35184372088832) (hn : n ≤ 4000000000000000) : ∃ r, Ev (fun k => r1_Shr.f k l (n : Int)) r ∧ Is r (val l / 2 ^ n) := by
 have e0 : wrap64 (Int.tdiv (n : Int) 32) = ((n / 32 : Nat) : Int) := by rw [tdiv_nn (by omega), w64 (by omega) (by omega)]; omega
 have e1 : IntKind.u64.wrap (Int.tmod (n : Int) 32) = ((n % 32 : Nat) : Int) := by rw [tmod_nn (by omega), u64 (by omega) (by omega)]; omega
 have e : (n : Nat) = 32 * (n / 32) + n % 32 := by omega
 have ev := div_pow (val l) (n / 32) (n % 32)
 rw [← e] at ev
 unfold r1_Shr.f
 rw [e0]
 by_cases h : l.length ≤ n / 32
 ·refine ⟨trim [], Ev.step (fun k => rshr_end k l [] n (n / 32) h) (Ev.bind (rtrim' [] (by simp)) (Ev.now _)), ?_⟩
  have h1 := val_lt hl
  have h2 := pow_le h
  rw [ev, Int.ediv_eq_zero_of_lt (val_nonneg hl) (by omega), Int.zero_ediv]
  exact Is.nil
 ·obtain ⟨r, hr, hI⟩ := rshr_l0 l (n : Int) (n / 32) (n % 32) (by omega) hl hlen (by omega) ⟨e1⟩ (l.length - n / 32) 0 [] (by omega) rfl Wf.nil ⟨by simp [val]⟩
  rw [← val_div l hl (n / 32) (by omega), ← ev] at hI
  exact ⟨r, hr, hI⟩
theorem gcd_half {m n : Nat} (hm : m % 2 = 0) (hn : n % 2 = 1) : Nat.gcd (m / 2) n = Nat.gcd m n := by
 have e : m = 2 * (m / 2) := by omega
 conv => rhs; rw [e]
 have hc : Nat.Coprime 2 n := by
  unfold Nat.Coprime
  rw [Nat.gcd_rec, hn]
  decide
 exact (Nat.Coprime.gcd_mul_left_cancel _ hc).symm
theorem bit0 {l : List Int} {m : Nat} (h : Is l (m : Int)) : r1_Bit.f l 0 = some (decide (m % 2 = 1)) := by
 have := rbit l h.wf 0 (by omega)
 rw [h.val, Int.pow_zero, Int.ediv_one] at this
 rw [show ((0 : Nat) : Int) = 0 from rfl] at this
 rw [this]
 congr 1
 by_cases c : m % 2 = 1
 ·rw [decide_eq_true c, decide_eq_true (show (m : Int) % 2 = 1 by omega)]
 ·rw [decide_eq_false c, decide_eq_false (show ¬ (m : Int) % 2 = 1 by omega)]
theorem halved {l : List Int} {m : Nat} (h : Is l (m : Int)) (hl : l.length ≤ 35184372088800) : ∃ r, Ev (fun k => r1_Shr.f k l 1) r ∧ Is r ((m / 2 : Nat) : Int) ∧ r.length ≤ l.length := by
 obtain ⟨r, hr, hI⟩ := rshr l 1 h.wf (by omega) (by omega)
 rw [h.val, Int.pow_one] at hI
 have hI2 : Is r ((m / 2 : Nat) : Int) := by
  rw [show ((m / 2 : Nat) : Int) = (m : Int) / 2 by omega]; exact hI
 exact ⟨r, hr, hI2, hI2.len (Int.lt_of_le_of_lt (by omega) h.lt)⟩
theorem common_l1_pos (k : Nat) (a b : List Int) (t : Int) (ha : a ≠ []) : r1_Common.l1 (k + 1) a b t = r1_Common.j3 k a b t (decide (0 < b.length)) := by
 have hb : 0 < a.length := List.length_pos_iff.2 ha
 simp only [r1_Common.l1]
 rw [if_pos (by omega)]
theorem common_l1_nil (k : Nat) (b : List Int) (t : Int) : r1_Common.l1 (k + 1) [] b t = r1_Common.j3 k [] b t false := by
 simp only [r1_Common.l1]
 rw [if_neg (by simp)]
theorem common_j3_end (k : Nat) (a b : List Int) (t : Int) : r1_Common.j3 (k + 1) a b t false = (r1_Plus.f k a b).bind fun s => (r1_Shl.f k s t).bind fun r => some r := by
 simp only [r1_Common.j3]
 rw [if_neg (by decide)]
theorem common_j3_even (k : Nat) (a b : List Int) (t : Int) (h : r1_Bit.f a 0 = some false) : r1_Common.j3 (k + 1) a b t true = (r1_Shr.f k a 1).bind fun s => r1_Common.l1 k s b t := by
 simp only [r1_Common.j3]
 rw [if_pos trivial, h]
 rfl
theorem common_j3_even2 (k : Nat) (a b : List Int) (t : Int) (h : r1_Bit.f a 0 = some true) (h2 : r1_Bit.f b 0 = some false) : r1_Common.j3 (k + 1) a b t true = (r1_Shr.f k b 1).bind fun s => r1_Common.l1 k a s t := by
 simp only [r1_Common.j3]
 rw [if_pos trivial, h, h2]
 rfl
theorem common_j3_odd (k : Nat) (a b : List Int) (t : Int) (h : r1_Bit.f a 0 = some true) (h2 : r1_Bit.f b 0 = some true) : r1_Common.j3 (k + 1) a b t true = (r1_Cmp.f k a b).bind fun c => if c ≥ 0 then (r1_Minus.f k a b).bind fun s => r1_Common.l1 k s b t else (r1_Minus.f k b a).bind fun s => r1_Common.l1 k a s t := by
 simp only [r1_Common.j3]
 rw [if_pos trivial, h, h2]
 rfl
theorem common_end (a b : List Int) (m n T : Nat) (ha : Is a (m : Int)) (hb : Is b (n : Int)) (hl : a.length ≤ 35184372088800) (hlb : b.length ≤ 35184372088800) (hz : m = 0 ∨ n = 0) (hT : T / 32 + (a.length + b.length) ≤ 35184372088810) :
  ∃ r, Ev (fun k => r1_Common.j3 k a b (T : Int) false) r ∧ Is r ((Nat.gcd m n * 2 ^ T : Nat) : Int) := by
 obtain ⟨s, hs, hI⟩ := plus a b ha.wf hb.wf (by omega) (by omega)
 rw [ha.val, hb.val] at hI
 have hg : (m : Int) + n = ((Nat.gcd m n : Nat) : Int) := by
  rcases hz with rfl | rfl
  ·rw [Nat.gcd_zero_left]; omega
  ·rw [Nat.gcd_zero_right]; omega
 have hls : s.length ≤ a.length + b.length := by
  rcases hz with rfl | rfl
  ·have := hI.len (n := b.length) (by have := hb.lt; omega)
   omega
  ·have := hI.len (n := a.length) (by have := ha.lt; omega)
   omega
 rw [hg] at hI
 obtain ⟨r, hr, hI2⟩ := rshl s T hI.wf (by omega)
 rw [hI.val] at hI2
 refine ⟨r, Ev.step (fun k => common_j3_end k a b T) (Ev.bind hs (Ev.bind hr (Ev.now _))), ?_⟩
 rw [Int.natCast_mul, Int.natCast_pow]
 exact hI2
theorem common_l1 (T : Nat) : ∀ (d m n : Nat) (a b : List Int), m + n ≤ d → Is a (m : Int) → Is b (n : Int) → (m % 2 = 1 ∨ n % 2 = 1) → a.length + b.length ≤ 35184372088800 + 35184372088800 → a.length ≤ 35184372088800 → b.length ≤ 35184372088800 →
  (∀ c : List Int, Is c ((Nat.gcd m n : Nat) : Int) → T / 32 + c.length ≤ 35184372088810) →
  ∃ r, Ev (fun k => r1_Common.l1 k a b (T : Int)) r ∧ Is r ((Nat.gcd m n * 2 ^ T : Nat) : Int) := by
 intro d
 induction d with
 | zero => intro m n a b h ha hb ho; omega
 | succ d ih =>
  intro m n a b hd ha hb ho hsum hl hlb hT
  by_cases e : a = []
  ·have hm : m = 0 := by have := ha.zero_iff.1 e; omega
   subst e
   have hTn := hT b (by rw [hm, Nat.gcd_zero_left]; exact hb)
   obtain ⟨r, hr, hI⟩ := common_end [] b m n T ha hb hl hlb (.inl hm) (by simp; omega)
   exact ⟨r, Ev.step (fun k => common_l1_nil k b T) hr, hI⟩
  ·have hm : m ≠ 0 := fun h => e (ha.zero_iff.2 (by omega))
   by_cases e2 : b = []
   ·have hn : n = 0 := by have := hb.zero_iff.1 e2; omega
    subst e2
    have hTn := hT a (by rw [hn, Nat.gcd_zero_right]; exact ha)
    obtain ⟨r, hr, hI⟩ := common_end a [] m n T ha hb hl hlb (.inr hn) (by simp; omega)
    exact ⟨r, Ev.step (fun k => common_l1_pos k a [] T e) hr, hI⟩
   ·have hn : n ≠ 0 := fun h => e2 (hb.zero_iff.2 (by omega))
    have hbl : 0 < b.length := List.length_pos_iff.2 e2
    suffices h : ∃ r, Ev (fun k => r1_Common.j3 k a b (T : Int) true) r ∧ Is r ((Nat.gcd m n * 2 ^ T : Nat) : Int) by
     obtain ⟨r, hr, hI⟩ := h
     exact ⟨r, Ev.step (fun k => by rw [common_l1_pos k a b T e, decide_eq_true hbl]) hr, hI⟩
    have b1 := bit0 ha
    have b2 := bit0 hb
    by_cases c1 : m % 2 = 1
    ·rw [decide_eq_true c1] at b1
     by_cases c2 : n % 2 = 1
     ·rw [decide_eq_true c2] at b2
      have hc := rcmp a b ha.wf hb.wf (by omega) (by omega)
      rw [ha.val, hb.val] at hc
      by_cases c3 : n ≤ m
      ·obtain ⟨s, hs, hI⟩ := minus a b ha.wf hb.wf (by omega) (by omega) (by rw [ha.val, hb.val]; omega)
       rw [ha.val, hb.val, show (m : Int) - n = ((m - n : Nat) : Int) by omega] at hI
       have hls : s.length ≤ a.length := hI.len (by have := ha.lt; omega)
       have eg : Nat.gcd (m - n) n = Nat.gcd m n := Nat.gcd_sub_self_left c3
       obtain ⟨r, hr, hI2⟩ := ih (m - n) n s b (by omega) hI hb (by omega) (by omega) (by omega) hlb (by rw [eg]; exact hT)
       rw [eg] at hI2
       have hs0 : ¬ sgn (m : Int) n < 0 := fun h => by have := sgn_neg.1 h; omega
       exact ⟨r, Ev.step (fun k => common_j3_odd k a b T b1 b2) (Ev.bind hc (Ev.congr (fun k => if_pos (by omega)) (Ev.bind hs hr))), hI2⟩
      ·obtain ⟨s, hs, hI⟩ := minus b a hb.wf ha.wf (by omega) (by omega) (by rw [ha.val, hb.val]; omega)
       rw [ha.val, hb.val, show (n : Int) - m = ((n - m : Nat) : Int) by omega] at hI
       have hls : s.length ≤ b.length := hI.len (by have := hb.lt; omega)
       have eg : Nat.gcd m (n - m) = Nat.gcd m n := Nat.gcd_sub_self_right (by omega)
       obtain ⟨r, hr, hI2⟩ := ih m (n - m) a s (by omega) ha hI (by omega) (by omega) hl (by omega) (by rw [eg]; exact hT)
       rw [eg] at hI2
       have hs0 : sgn (m : Int) n < 0 := sgn_neg.2 (by omega)
       exact ⟨r, Ev.step (fun k => common_j3_odd k a b T b1 b2) (Ev.bind hc (Ev.congr (fun k => if_neg (by omega)) (Ev.bind hs hr))), hI2⟩
     ·rw [decide_eq_false c2] at b2
      obtain ⟨s, hs, hI, hls⟩ := halved hb hlb
      have eg : Nat.gcd m (n / 2) = Nat.gcd m n := by rw [Nat.gcd_comm m, gcd_half (by omega) c1, Nat.gcd_comm]
      obtain ⟨r, hr, hI2⟩ := ih m (n / 2) a s (by omega) ha hI (by omega) (by omega) hl (by omega) (by rw [eg]; exact hT)
      rw [eg] at hI2
      exact ⟨r, Ev.step (fun k => common_j3_even2 k a b T b1 b2) (Ev.bind hs hr), hI2⟩
    ·rw [decide_eq_false c1] at b1
     obtain ⟨s, hs, hI, hls⟩ := halved ha hl
     have eg : Nat.gcd (m / 2) n = Nat.gcd m n := gcd_half (by omega) (by omega)
     obtain ⟨r, hr, hI2⟩ := ih (m / 2) n s b (by omega) hI hb (by omega) (by omega) (by omega) hlb (by rw [eg]; exact hT)
     rw [eg] at hI2
     exact ⟨r, Ev.step (fun k => common_j3_even k a b T b1) (Ev.bind hs hr), hI2⟩
theorem bitn {l : List Int} {m : Nat} (h : Is l (m : Int)) (j : Nat) (hj : j ≤ 4000000000000000) : r1_Bit.f l (j : Int) = some (decide (m / 2 ^ j % 2 = 1)) := by
 rw [rbit l h.wf j hj, h.val]
 have e : (m : Int) / 2 ^ j % 2 = ((m / 2 ^ j % 2 : Nat) : Int) := by
  rw [Int.natCast_emod, Int.natCast_ediv, Int.natCast_pow]; rfl
 rw [e]
 congr 1
 by_cases c : m / 2 ^ j % 2 = 1
 ·rw [decide_eq_true c, decide_eq_true (show ((m / 2 ^ j % 2 : Nat) : Int) = 1 by omega)]
 ·rw [decide_eq_false c, decide_eq_false (show ¬ ((m / 2 ^ j % 2 : Nat) : Int) = 1 by omega)]
theorem common_j1 (m n T : Nat) (a b : List Int) (hT : T ≤ 4000000000000000) (ha : Is a (m : Int)) (hb : Is b (n : Int)) (hl : a.length ≤ 35184372088800) (hlb : b.length ≤ 35184372088800) (hm : m ≠ 0)
  (dm : 2 ^ T ∣ m) (dn : 2 ^ T ∣ n) (ho : m / 2 ^ T % 2 = 1 ∨ n / 2 ^ T % 2 = 1) : ∃ r, Ev (fun k => r1_Common.j1 k a b (T : Int)) r ∧ Is r ((Nat.gcd m n : Nat) : Int) := by
 obtain ⟨x, hx, ix⟩ := rshr a T ha.wf (by omega) hT
 obtain ⟨y, hy, iy⟩ := rshr b T hb.wf (by omega) hT
 have ex : (m : Int) / 2 ^ T = ((m / 2 ^ T : Nat) : Int) := by rw [Int.natCast_ediv, Int.natCast_pow]; rfl
 have ey : (n : Int) / 2 ^ T = ((n / 2 ^ T : Nat) : Int) := by rw [Int.natCast_ediv, Int.natCast_pow]; rfl
 rw [ha.val, ex] at ix
 rw [hb.val, ey] at iy
 have hp : 0 < 2 ^ T := Nat.two_pow_pos T
 have em : m / 2 ^ T * 2 ^ T = m := Nat.div_mul_cancel dm
 have en : n / 2 ^ T * 2 ^ T = n := Nat.div_mul_cancel dn
 have eg : Nat.gcd (m / 2 ^ T) (n / 2 ^ T) * 2 ^ T = Nat.gcd m n := by rw [← Nat.gcd_mul_right, em, en]
 have lx : x.length ≤ a.length := by
  have h1 := ha.lt
  have h2 := Nat.div_le_self m (2 ^ T)
  exact ix.len (by omega)
 have ly : y.length ≤ b.length := by
  have h1 := hb.lt
  have h2 := Nat.div_le_self n (2 ^ T)
  exact iy.len (by omega)
 have hgm : Nat.gcd m n ≤ m := Nat.gcd_le_left n (by omega)
 have hg0 : 0 < Nat.gcd m n := Nat.gcd_pos_of_pos_left n (by omega)
 obtain ⟨r, hr, hI⟩ := common_l1 T (m / 2 ^ T + n / 2 ^ T) (m / 2 ^ T) (n / 2 ^ T) x y (Nat.le_refl _) ix iy ho (by omega) (by omega) (by omega) (fun c hc => by
  by_cases e : c = []
  ·exfalso
   have := hc.zero_iff.1 e
   rw [show Nat.gcd (m / 2 ^ T) (n / 2 ^ T) = 0 by omega, Nat.zero_mul] at eg
   omega
  have h1 := hc.ge e
  have h2 := ha.lt
  have h3 : (4294967296 : Int) ^ (T / 32) ≤ 2 ^ T := by
   rw [pow32]
   have := Nat.pow_le_pow_right (n := 2) (by decide) (show 32 * (T / 32) ≤ T by omega)
   have h4 : ((2 ^ (32 * (T / 32)) : Nat) : Int) ≤ ((2 ^ T : Nat) : Int) := Int.ofNat_le.2 this
   rw [Int.natCast_pow, Int.natCast_pow] at h4
   exact h4
  have h4 : (4294967296 : Int) ^ (T / 32 + (c.length - 1)) ≤ (m : Int) := by
   rw [Int.pow_add]
   have h5 := Int.mul_le_mul h3 h1 (Int.le_of_lt (pow_pos' _)) (by have := pow_pos' (T / 32); omega)
   have h6 : ((2 : Int) ^ T) * ((Nat.gcd (m / 2 ^ T) (n / 2 ^ T) : Nat) : Int) = ((Nat.gcd m n : Nat) : Int) := by
    rw [← eg, Int.natCast_mul, Int.natCast_pow, Int.mul_comm]; rfl
   rw [h6] at h5
   omega
  rcases Nat.lt_or_ge (T / 32 + (c.length - 1)) a.length with h7 | h7
  ·omega
  ·have h8 := pow_le h7
   omega)
 rw [eg] at hI
 exact ⟨r, Ev.step (fun k => rfl) (Ev.bind hx (Ev.bind hy hr)), hI⟩
theorem common_l0 (m n : Nat) (a b : List Int) (ha : Is a (m : Int)) (hb : Is b (n : Int)) (hl : a.length ≤ 35184372088800) (hlb : b.length ≤ 35184372088800) (hm : m ≠ 0) :
  ∀ (d T : Nat), d + T = 32 * a.length → 2 ^ T ∣ m → 2 ^ T ∣ n → ∃ r, Ev (fun k => r1_Common.l0 k a b (T : Int)) r ∧ Is r ((Nat.gcd m n : Nat) : Int)
 | 0, T, hT, dm, dn => by
  exfalso
  have h1 := ha.lt
  have h2 : 2 ^ T ≤ m := Nat.le_of_dvd (by omega) dm
  have h3 : (4294967296 : Int) ^ a.length = ((2 ^ T : Nat) : Int) := by rw [pow32, Int.natCast_pow, show 32 * a.length = T by omega]; rfl
  omega
 | d + 1, T, hT, dm, dn => by
  have b1 := bitn ha T (by omega)
  have b2 := bitn hb T (by omega)
  by_cases c1 : m / 2 ^ T % 2 = 1
  ·obtain ⟨r, hr, hI⟩ := common_j1 m n T a b (by omega) ha hb hl hlb hm dm dn (.inl c1)
   rw [decide_eq_true c1] at b1
   refine ⟨r, Ev.step (fun k => ?_) hr, hI⟩
   simp only [r1_Common.l0]
   rw [b1]
   rfl
  ·rw [decide_eq_false c1] at b1
   by_cases c2 : n / 2 ^ T % 2 = 1
   ·obtain ⟨r, hr, hI⟩ := common_j1 m n T a b (by omega) ha hb hl hlb hm dm dn (.inr c2)
    rw [decide_eq_true c2] at b2
    refine ⟨r, Ev.step (fun k => ?_) hr, hI⟩
    simp only [r1_Common.l0]
    rw [b1, b2]
    rfl
   ·rw [decide_eq_false c2] at b2
    have up : ∀ v : Nat, 2 ^ T ∣ v → ¬ v / 2 ^ T % 2 = 1 → 2 ^ (T + 1) ∣ v := fun v hv h => by
     have e : v / 2 ^ T * 2 ^ T = v := Nat.div_mul_cancel hv
     refine ⟨v / 2 ^ T / 2, ?_⟩
     have e2 : v / 2 ^ T = 2 * (v / 2 ^ T / 2) := by omega
     generalize v / 2 ^ T / 2 = w at *
     rw [← e, e2, Nat.pow_succ]
     grind
    obtain ⟨r, hr, hI⟩ := common_l0 m n a b ha hb hl hlb hm d (T + 1) (by omega) (up m dm c1) (up n dn c2)
    refine ⟨r, Ev.step (fun k => ?_) hr, hI⟩
    simp only [r1_Common.l0]
    rw [b1, b2, show wrap64 ((T : Int) + 1) = ((T + 1 : Nat) : Int) by rw [w64 (by omega) (by omega)]; omega]
    rfl
theorem common (a b : List Int) (ha : Wf a) (hb : Wf b) (hl : a.length ≤ 35184372088800) (hlb : b.length ≤ 35184372088800) : ∃ r, Ev (fun k => r1_Common.f k a b) r ∧ Is r (Nat.gcd (val a).toNat (val b).toNat : Nat) := by
 have ia := Is.of ha rfl
 have ib := Is.of hb rfl
 have la := trim_len a
 have lb := trim_len b
 have na := val_nonneg ha
 have nb := val_nonneg hb
 have ia2 : Is (trim a) ((val a).toNat : Int) := by rw [Int.toNat_of_nonneg na]; exact ia
 have ib2 : Is (trim b) ((val b).toNat : Int) := by rw [Int.toNat_of_nonneg nb]; exact ib
 by_cases c1 : trim a = []
 ·have e : (val a).toNat = 0 := by have := ia2.zero_iff.1 c1; omega
  refine ⟨trim b, Ev.bind (rtrim' a (by omega)) (Ev.bind (rtrim' b (by omega)) (Ev.congr (fun k => if_pos (by rw [c1]; rfl)) (Ev.now _))), ?_⟩
  rw [e, Nat.gcd_zero_left]
  exact ib2
 ·have h1 : 0 < (trim a).length := List.length_pos_iff.2 c1
  have hm : (val a).toNat ≠ 0 := fun e => c1 (ia2.zero_iff.2 (by omega))
  by_cases c2 : trim b = []
  ·have e : (val b).toNat = 0 := by have := ib2.zero_iff.1 c2; omega
   refine ⟨trim a, Ev.bind (rtrim' a (by omega)) (Ev.bind (rtrim' b (by omega)) (Ev.congr (fun k => if_neg (by omega)) (Ev.congr (fun k => if_pos (by rw [c2]; rfl)) (Ev.now _)))), ?_⟩
   rw [e, Nat.gcd_zero_right]
   exact ia2
  ·have h2 : 0 < (trim b).length := List.length_pos_iff.2 c2
   obtain ⟨r, hr, hI⟩ := common_l0 (val a).toNat (val b).toNat (trim a) (trim b) ia2 ib2 (by omega) (by omega) hm (32 * (trim a).length) 0 (by omega) (by simp) (by simp)
   exact ⟨r, Ev.bind (rtrim' a (by omega)) (Ev.bind (rtrim' b (by omega)) (Ev.congr (fun k => if_neg (by omega)) (Ev.congr (fun k => if_neg (by omega)) hr))), hI⟩
theorem val_set (l : List Int) (K : Nat) (x : Int) (h : K < l.length) : val (l.set K x) = val l + 4294967296 ^ K * (x - rd l (K : Int)) := by
 have h1 := val_cut l K (by omega)
 have h2 := val_cut (l.set K x) K (by simp; omega)
 have e1 : (l.set K x).take K = l.take K := by rw [List.take_set, List.set_eq_of_length_le (by rw [List.length_take]; omega)]
 rw [e1, val_drop_rd (by simp; omega), rd_set_self h, drop_set_lt (by omega)] at h2
 rw [val_drop_rd h] at h1
 rw [h2, h1]
 grind
theorem limb_room (l : List Int) (hw : Wf l) (K j : Nat) (hK : K < l.length) (hj : j < 32) (Q : Int) (h : val l = Q * 2 ^ (32 * K + j + 1)) : rd l (K : Int) + 2 ^ j < 4294967296 := by
 have hx := rd_wf' hw K
 have e := val_div l hw K (by omega)
 rw [h, show 32 * K + j + 1 = 32 * K + (j + 1) from by omega, Int.pow_add, ← pow32, show Q * (4294967296 ^ K * 2 ^ (j + 1)) = 4294967296 ^ K * (Q * 2 ^ (j + 1)) from by grind, Int.mul_ediv_cancel_left _ (by have := pow_pos' K; omega), val_drop_rd hK] at e
 have hsp := pow_split (s := j + 1) (by omega)
 have hp := (pow_bd (s := j + 1) (by omega)).1
 have hp2 := (pow_bd (s := 32 - (j + 1)) (by omega)).1
 have hj1 : (2 : Int) ^ (j + 1) = 2 ^ j * 2 := Int.pow_succ _ _
 have hj0 := (pow_bd (s := j) (by omega)).1
 generalize rd l (K : Int) = x at *
 generalize val (l.drop (K + 1)) = D at *
 generalize (2 : Int) ^ (32 - (j + 1)) = T at *
 have e2 : x = 2 ^ (j + 1) * (Q - T * D) := by rw [← hsp] at e; grind
 have hy : Q - T * D < T := by
  rcases Int.lt_or_le (Q - T * D) T with h1 | h1
  ·exact h1
  ·have : 2 ^ (j + 1) * T ≤ 2 ^ (j + 1) * (Q - T * D) := Int.mul_le_mul_of_nonneg_left h1 (by omega)
   omega
 have h3 : 2 ^ (j + 1) * (Q - T * D) ≤ 2 ^ (j + 1) * (T - 1) := Int.mul_le_mul_of_nonneg_left (by omega) (by omega)
 have h4 : 2 ^ (j + 1) * (T - 1) = 4294967296 - 2 ^ (j + 1) := by rw [Int.mul_sub, hsp, Int.mul_one]
 omega
theorem divbit {H B e : Int} (hB : 0 < B) (hH : 0 ≤ H) (he : 0 ≤ e ∧ e ≤ 1) :
  (B ≤ 2 * (H % B) + e → (2 * H + e) / B = 2 * (H / B) + 1 ∧ (2 * H + e) % B = 2 * (H % B) + e - B) ∧ (¬ B ≤ 2 * (H % B) + e → (2 * H + e) / B = 2 * (H / B) ∧ (2 * H + e) % B = 2 * (H % B) + e) := by
 have h1 := Int.emod_nonneg H (show B ≠ 0 by omega)
 have h2 := Int.emod_lt_of_pos H hB
 have h3 := Int.emod_def H B
 have h4 := Int.emod_def (2 * H + e) B
 generalize H / B = q at *
 generalize H % B = r at *
 constructor
 ·intro h
  have e1 : 2 * H + e = (2 * r + e - B) + B * (2 * q + 1) := by grind
  have e2 : (2 * H + e) / B = 2 * q + 1 := by
   rw [e1, Int.add_mul_ediv_left _ _ (by omega), Int.ediv_eq_zero_of_lt (by omega) (by omega), Int.zero_add]
  refine ⟨e2, ?_⟩
  rw [h4, e2]
  grind
 ·intro h
  have e1 : 2 * H + e = (2 * r + e) + B * (2 * q) := by grind
  have e2 : (2 * H + e) / B = 2 * q := by
   rw [e1, Int.add_mul_ediv_left _ _ (by omega), Int.ediv_eq_zero_of_lt (by omega) (by omega), Int.zero_add]
  refine ⟨e2, ?_⟩
  rw [h4, e2]
  grind
theorem half_pow (A : Int) (n : Nat) (hA : 0 ≤ A) : A / 2 ^ n = 2 * (A / 2 ^ (n + 1)) + A / 2 ^ n % 2 := by
 have : A / 2 ^ (n + 1) = A / 2 ^ n / 2 := by rw [Int.pow_succ, Int.ediv_ediv_of_nonneg (Int.le_of_lt (Int.pow_pos (by decide)))]
 rw [this]
 omega
theorem shl1 {j : Nat} (hj : j < 32) : shl .u32 1 (j : Int) = 2 ^ j := by
 have hp := pow_bd (s := j) (by omega)
 have hsp := pow_split (s := j) (by omega)
 have h2 : (2 : Int) ^ (32 - j) = 2 * 2 ^ (31 - j) := by rw [show 32 - j = 31 - j + 1 from by omega, Int.pow_succ, Int.mul_comm]
 have h3 := (pow_bd (s := 31 - j) (by omega)).1
 have h4 : (2 : Int) ^ j * 2 ≤ 4294967296 := by
  rw [← hsp, h2]
  exact Int.mul_le_mul_of_nonneg_left (by omega) (by omega)
 unfold shl
 rw [Int.toNat_natCast, show min j IntKind.u32.bits = j from Nat.min_eq_left (by simp [IntKind.bits]; omega), Int.one_mul]
 have e : ∀ x : Int, IntKind.u32.wrap x = x % 4294967296 := fun x => by simp [IntKind.wrap, IntKind.bits, IntKind.signed]
 rw [e]
 exact Int.emod_eq_of_lt (by omega) (by omega)
theorem rdiv_upd (k : Nat) (a b quo t : List Int) (n : Nat) (hn : n ≤ 4000000000000000) (hK : n / 32 < quo.length) (hr : Hd (0 ≤ rd quo ((n / 32 : Nat) : Int) ∧ rd quo ((n / 32 : Nat) : Int) + 2 ^ (n % 32) < 4294967296)) :
  (if 0 ≤ (wrap64 (Int.tdiv (n : Int) 32)) then (if (wrap64 (Int.tdiv (n : Int) 32)) < (quo.length : Int) then (if 0 ≤ (IntKind.u64.wrap (Int.tmod (n : Int) 32)) then (r1_Divide.l0 k a b (quo.set ((wrap64 (Int.tdiv (n : Int) 32)) : Int).toNat (((rd quo (wrap64 (Int.tdiv (n : Int) 32))) + (shl .u32 1 (IntKind.u64.wrap (Int.tmod (n : Int) 32)))) % 4294967296)) t (wrap64 ((n : Int) - 1))) else (none)) else (none)) else (none)) =
   r1_Divide.l0 k a b (quo.set (n / 32) (rd quo ((n / 32 : Nat) : Int) + 2 ^ (n % 32))) t ((n : Int) - 1) := by
 have e0 : wrap64 (Int.tdiv (n : Int) 32) = ((n / 32 : Nat) : Int) := by rw [tdiv_nn (by omega), w64 (by omega) (by omega)]; omega
 have e1 : IntKind.u64.wrap (Int.tmod (n : Int) 32) = ((n % 32 : Nat) : Int) := by rw [tmod_nn (by omega), u64 (by omega) (by omega)]; omega
 have e2 : wrap64 ((n : Int) - 1) = (n : Int) - 1 := w64 (by omega) (by omega)
 have hr' := hr.out
 have hp := (pow_bd (s := n % 32) (by omega)).1
 have c1 : (0 : Int) ≤ ((n / 32 : Nat) : Int) := by omega
 have c2 : ((n / 32 : Nat) : Int) < (quo.length : Int) := by omega
 have c3 : (0 : Int) ≤ ((n % 32 : Nat) : Int) := by omega
 rw [e0, e1, e2, shl1 (by omega), Int.toNat_natCast, if_pos c1, if_pos c2, if_pos c3, Int.emod_eq_of_lt (by omega) hr'.2]
theorem sgn_ge {x y : Int} : sgn x y ≥ 0 ↔ y ≤ x := by
 unfold sgn
 split
 ·simp; omega
 ·split
  ·simp; omega
  ·simp; omega
theorem rdiv_l0 (a b : List Int) (ha : Wf a) (hb : Wf b) (hbl : b.length ≤ 35184372087808) (hb0 : 0 < val b) : ∀ (N : Nat) (quo rest : List Int), N ≤ 4000000000000000 → N ≤ 32 * quo.length → quo.length ≤ 35184372088831 → Wf quo → Is rest (val a / 2 ^ N % val b) → Hd (val quo = val a / 2 ^ N / val b * 2 ^ N) →
  ∃ q r, Ev (fun k => r1_Divide.l0 k a b quo rest ((N : Int) - 1)) (q, r) ∧ Is q (val a / val b) ∧ Is r (val a % val b)
 | 0, quo, rest, hN, hNq, hql, hw, hr, hv => by
  have h := hv.out
  rw [Int.pow_zero, Int.ediv_one, Int.mul_one] at h
  rw [Int.pow_zero, Int.ediv_one] at hr
  refine ⟨trim quo, rest, ?_, Is.of hw h, hr⟩
  refine Ev.step (f := fun k => (r1_Trim.f k quo).bind fun t => some (t, rest)) (fun k => ?_) (Ev.bind (rtrim' quo (by omega)) (Ev.now _))
  simp only [r1_Divide.l0]
  rw [if_neg (by omega)]
 | N + 1, quo, rest, hN, hNq, hql, hw, hr, hv => by
  have hA := val_nonneg ha
  have hrl : rest.length ≤ b.length := hr.len (Int.lt_trans (Int.emod_lt_of_pos _ hb0) (val_lt hb))
  have hpow : (0 : Int) < 2 ^ (N + 1) := Int.pow_pos (by decide)
  have hH : 0 ≤ val a / 2 ^ (N + 1) := Int.ediv_nonneg hA (by omega)
  have hhalf := half_pow (val a) N hA
  obtain ⟨t0, ht0, hT0⟩ := rshl rest 1 hr.wf (by omega)
  rw [hr.val, Int.pow_one] at hT0
  have hb1 := rbit a ha N (by omega)
  have he : 0 ≤ val a / 2 ^ N % 2 ∧ val a / 2 ^ N % 2 ≤ 1 := by omega
  have hdb := divbit hb0 hH he
  rw [← hhalf] at hdb
  have hR0 := Int.emod_nonneg (val a / 2 ^ (N + 1)) (show val b ≠ 0 by omega)
  have hR1 := Int.emod_lt_of_pos (val a / 2 ^ (N + 1)) hb0
  obtain ⟨t, hT, hgo⟩ : ∃ t, Is t (2 * (val a / 2 ^ (N + 1) % val b) + val a / 2 ^ N % 2) ∧ ∀ R, Ev (fun k => r1_Divide.j1 k a b quo t (N : Int)) R → Ev (fun k => r1_Divide.l0 k a b quo rest (N : Int)) R := by
   by_cases c : val a / 2 ^ N % 2 = 1
   ·rw [decide_eq_true c] at hb1
    have ht0l : t0.length ≤ b.length + 1 := hT0.len (by have := val_lt hb; rw [pow_succ']; omega)
    obtain ⟨t, ht, hT⟩ := plus t0 [1] hT0.wf (Wf.one (by decide) (by decide)) (by omega) (by simp)
    refine ⟨t, ?_, fun R h => ?_⟩
    ·rw [hT0.val, val_one] at hT
     rw [c, Int.mul_comm 2]
     exact hT
    ·refine Ev.step (f := fun k => (r1_Shl.f k rest 1).bind fun t516 => (some true).bind fun t519 => if t519 = true then (r1_Plus.f k t516 [1]).bind fun t523 => r1_Divide.j1 k a b quo t523 (N : Int) else r1_Divide.j1 k a b quo t516 (N : Int)) (fun k => ?_) (Ev.bind ht0 ?_)
     ·simp only [r1_Divide.l0]
      rw [if_pos (by omega), hb1]
     ·simp only [Option.bind_some]
      exact Ev.congr (fun k => if_pos trivial) (Ev.bind ht h)
   ·rw [decide_eq_false c] at hb1
    refine ⟨t0, ?_, fun R h => ?_⟩
    ·rw [show val a / 2 ^ N % 2 = 0 from by omega, Int.add_zero, Int.mul_comm 2]
     exact hT0
    ·refine Ev.step (f := fun k => (r1_Shl.f k rest 1).bind fun t516 => (some false).bind fun t519 => if t519 = true then (r1_Plus.f k t516 [1]).bind fun t523 => r1_Divide.j1 k a b quo t523 (N : Int) else r1_Divide.j1 k a b quo t516 (N : Int)) (fun k => ?_) (Ev.bind ht0 ?_)
     ·simp only [r1_Divide.l0]
      rw [if_pos (by omega), hb1]
     ·simp only [Option.bind_some]
      exact Ev.congr (fun k => if_neg (by decide)) h
  rw [show ((N + 1 : Nat) : Int) - 1 = (N : Int) from by omega]
  have htl : t.length ≤ b.length + 1 := hT.len (by have := val_lt hb; rw [pow_succ']; omega)
  have hcmp := rcmp t b hT.wf hb (by omega) (by omega)
  rw [hT.val] at hcmp
  by_cases c : val b ≤ 2 * (val a / 2 ^ (N + 1) % val b) + val a / 2 ^ N % 2
  ·obtain ⟨e1, e2⟩ := hdb.1 c
   obtain ⟨u, hu, hU⟩ := minus t b hT.wf hb (by omega) (by omega) (by rw [hT.val]; exact c)
   rw [hT.val, ← e2] at hU
   have hroom := limb_room quo hw (N / 32) (N % 32) (by omega) (by omega) (val a / 2 ^ (N + 1) / val b) (by rw [hv.out, show 32 * (N / 32) + N % 32 + 1 = N + 1 from by omega])
   have hx := rd_wf' hw (N / 32)
   have hp := (pow_bd (s := N % 32) (by omega)).1
   obtain ⟨q, r, h1, h2, h3⟩ := rdiv_l0 a b ha hb hbl hb0 N (quo.set (N / 32) (rd quo ((N / 32 : Nat) : Int) + 2 ^ (N % 32))) u (by omega) (by simp; omega) (by simp; omega) (hw.set _ (by omega) hroom) hU
    ⟨by
     rw [val_set _ _ _ (by omega), hv.out, e1, pow32, Int.pow_succ]
     have : (2 : Int) ^ (32 * (N / 32)) * 2 ^ (N % 32) = 2 ^ N := by rw [← Int.pow_add, show 32 * (N / 32) + N % 32 = N from by omega]
     rw [show rd quo ((N / 32 : Nat) : Int) + 2 ^ (N % 32) - rd quo ((N / 32 : Nat) : Int) = 2 ^ (N % 32) from by omega, this]
     grind⟩
   refine ⟨q, r, hgo _ ?_, h2, h3⟩
   refine Ev.step (f := fun k => (r1_Cmp.f k t b).bind fun t526 => if t526 ≥ 0 then (r1_Minus.f k t b).bind fun t527 => r1_Divide.l0 k a b (quo.set (N / 32) (rd quo ((N / 32 : Nat) : Int) + 2 ^ (N % 32))) t527 ((N : Int) - 1) else r1_Divide.l0 k a b quo t (wrap64 ((N : Int) - 1))) (fun k => ?_) (Ev.bind hcmp (Ev.congr (fun k => if_pos (sgn_ge.2 c)) (Ev.bind hu h1)))
   simp only [r1_Divide.j1]
   congr 1
   funext t526
   congr 1
   congr 1
   funext t527
   exact rdiv_upd k a b quo t527 N (by omega) (by omega) ⟨hx.1, hroom⟩
  ·obtain ⟨e1, e2⟩ := hdb.2 c
   rw [← e2] at hT
   obtain ⟨q, r, h1, h2, h3⟩ := rdiv_l0 a b ha hb hbl hb0 N quo t (by omega) (by omega) hql hw hT
    ⟨by rw [hv.out, e1, Int.pow_succ]; grind⟩
   refine ⟨q, r, hgo _ ?_, h2, h3⟩
   refine Ev.step (f := fun k => (r1_Cmp.f k t b).bind fun t526 => if t526 ≥ 0 then (r1_Minus.f k t b).bind fun t527 => (if 0 ≤ (wrap64 (Int.tdiv (N : Int) 32)) then (if (wrap64 (Int.tdiv (N : Int) 32)) < (quo.length : Int) then (if 0 ≤ (IntKind.u64.wrap (Int.tmod (N : Int) 32)) then (r1_Divide.l0 k a b (quo.set ((wrap64 (Int.tdiv (N : Int) 32)) : Int).toNat (((rd quo (wrap64 (Int.tdiv (N : Int) 32))) + (shl .u32 1 (IntKind.u64.wrap (Int.tmod (N : Int) 32)))) % 4294967296)) t527 (wrap64 ((N : Int) - 1))) else (none)) else (none)) else (none)) else r1_Divide.l0 k a b quo t ((N : Int) - 1)) (fun k => ?_) (Ev.bind hcmp (Ev.congr (fun k => if_neg (fun hn => c (sgn_ge.1 hn))) h1))
   simp only [r1_Divide.j1]
   rw [show wrap64 ((N : Int) - 1) = (N : Int) - 1 from w64 (by omega) (by omega)]
theorem bits_lt {l : List Int} (hw : Wf l) (h : trim l = l) : val l < 2 ^ (bitsOf l).toNat := by
 unfold bitsOf
 by_cases hl : l.length = 0
 ·rw [if_pos hl, List.eq_nil_of_length_eq_zero hl]
  simp [val]
 ·rw [if_neg hl]
  obtain ⟨m, hm⟩ : ∃ m, l.length = m + 1 := ⟨l.length - 1, by omega⟩
  have ht := top_nonzero hw h hl
  have htw := top_wf hw
  rw [show (l.length - 1 : Nat) = m from by omega] at ht htw ⊢
  obtain ⟨n, hn⟩ := Int.eq_ofNat_of_zero_le (show 0 ≤ rd l (m : Int) by omega)
  have hb := (Lib.bitLenAux_bounds 64 n (by omega) (by omega)).2.2
  have eV : val l = val (l.take m) + 4294967296 ^ m * rd l (m : Int) := by rw [← val_take_succ' l, List.take_of_length_le (by omega)]
  have hX := take_lt' hw m (by omega)
  rw [hn, Int.toNat_natCast] at *
  have e : (32 * ((l.length : Int) - 1) + (Lib.bitLen n : Int)).toNat = 32 * m + Lib.bitLen n := by omega
  rw [e, Int.pow_add, ← pow32, eV]
  have h2 : ((n : Int) + 1) ≤ 2 ^ Lib.bitLen n := by
   have : ((n + 1 : Nat) : Int) ≤ ((2 ^ Lib.bitLen n : Nat) : Int) := Int.ofNat_le.2 hb
   simpa using this
  have h3 : 4294967296 ^ m * ((n : Int) + 1) ≤ 4294967296 ^ m * 2 ^ Lib.bitLen n := Int.mul_le_mul_of_nonneg_left h2 (Int.le_of_lt (pow_pos' m))
  rw [Int.mul_add, Int.mul_one] at h3
  omega
theorem rdivide (a b : List Int) (ha : Wf a) (hb : Wf b) (hl : a.length ≤ 35184372087808) (hbl : b.length ≤ 35184372087808) (hb0 : 0 < val b) : ∃ q r, Ev (fun k => r1_Divide.f k a b) (q, r) ∧ Is q (val a / val b) ∧ Is r (val a % val b) := by
 have ia := Is.of ha rfl
 have la := trim_len a
 have h0 := bitsOf_nonneg (trim a)
 have hbd : bitsOf (trim a) ≤ 32 * (trim a).length := by
  unfold bitsOf
  by_cases h : (trim a).length = 0
  ·rw [if_pos h]; omega
  ·rw [if_neg h]
   have := bitLen_bd (top_wf ia.wf)
   omega
 have hlt := bits_lt ia.wf ia.nm
 rw [ia.val] at hlt
 obtain ⟨N, hN⟩ := Int.eq_ofNat_of_zero_le h0
 rw [hN, Int.toNat_natCast] at hlt
 have hz : val a / 2 ^ N = 0 := Int.ediv_eq_zero_of_lt (val_nonneg ha) hlt
 obtain ⟨q, r, h1, h2, h3⟩ := rdiv_l0 a b ha hb hbl hb0 N (List.replicate (N / 32 + 1) 0) [] (by omega) (by simp; omega) (by simp; omega) (Wf.zeros _) (by rw [hz, Int.zero_emod]; exact Is.nil) ⟨by rw [val_zeros, hz, Int.zero_ediv, Int.zero_mul]⟩
 refine ⟨q, r, ?_, h2, h3⟩
 unfold r1_Divide.f
 have hB := rbits a ha (by omega)
 rw [hN] at hB
 refine Ev.bind hB ?_
 have e : wrap64 (wrap64 (Int.tdiv (N : Int) 32) + 1) = ((N / 32 + 1 : Nat) : Int) := by rw [tdiv_nn (by omega), w64 (x := (N : Int) / 32) (by omega) (by omega), w64 (by omega) (by omega)]; omega
 have e2 : wrap64 ((N : Int) - 1) = (N : Int) - 1 := w64 (by omega) (by omega)
 rw [e, e2, Int.toNat_natCast]
 exact Ev.congr (fun k => if_pos (by omega)) (Ev.congr (fun k => if_pos (by omega)) h1)
end Go.Proofs.Ytgffficaoioljaa.PlN
end
