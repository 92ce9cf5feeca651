import Derived.Test.YtgffficaoioljaaCc14
import Derived.Test.YtgffficaoioljaaCc12
import Derived.Test.YtgffficaoioljaaCc11
import Derived.Lib.ItoaNum
section
namespace Go.Proofs.Ytgffficaoioljaa.PlN
open Go.RowKit Go.Proofs.Ytgffficaoioljaa.P Go.Proofs.Ytgffficaoioljaa.Pl Go.Proofs.Ytgffficaoioljaa.PlA Go.Proofs.YtgffficaoioljaaW.PrintWords Go.Proofs.YtgffficaoioljaaW.PrintLast Go.Proofs.YtgffficaoioljaaW.PrintMore
set_option linter.unusedVariables false
def bitsOf (l : List Int) : Int := if l.length = 0 then 0 else 32 * ((l.length : Int) - 1) + (Lib.bitLen (rd l ((l.length - 1 : Nat) : Int)).toNat : Int)
theorem bitLen_zero : Lib.bitLen 0 = 0 := by decide +kernel
theorem bitLen_bd {x : Int} (h : 0 ≤ x ∧ x < 4294967296) : Lib.bitLen x.toNat ≤ 32 := Lib.bitLen_le x.toNat 32 (by omega) (by omega)
theorem len32 {x : Int} (h : 0 ≤ x ∧ x < 4294967296) : bits_Len32.f x = some (Lib.bitLen x.toNat : Int) := by
  unfold bits_Len32.f
  rw [if_pos (by omega)]
theorem top_wf {l : List Int} (hw : Wf l) : 0 ≤ rd l ((l.length - 1 : Nat) : Int) ∧ rd l ((l.length - 1 : Nat) : Int) < 4294967296 := rd_wf' hw _
theorem natsBits (l : List Int) (hw : Wf l) (hl : l.length ≤ 70368744177664) : Ev (fun k => nats_Bits.f k l) (bitsOf (trim l)) := by
  have ia := Is.of hw rfl
  have la := trim_len l
  unfold nats_Bits.f
  refine Ev.bind (cut l (by omega)) ?_
  by_cases h : (trim l).length = 0
  · refine Ev.congr (fun k => if_pos (by omega)) ?_
    unfold bitsOf
    rw [if_pos h]
    exact Ev.now _
  · refine Ev.congr (fun k => if_neg (by omega)) ?_
    have e1 : wrap64 (((trim l).length : Int) - 1) = (((trim l).length - 1 : Nat) : Int) := by rw [w64 (by omega) (by omega)]; omega
    have ht := top_wf ia.wf
    have hb := bitLen_bd ht
    rw [e1]
    refine Ev.congr (fun k => if_pos (by omega)) (Ev.congr (fun k => if_pos (by omega)) ?_)
    refine Ev.congr (fun k => ?_) (Ev.now _)
    rw [len32 ht, Option.bind_some, w64 (x := 32 * _) (by omega) (by omega), w64 (by omega) (by omega)]
    unfold bitsOf
    rw [if_neg h, show (((trim l).length - 1 : Nat) : Int) = ((trim l).length : Int) - 1 from by omega]
theorem rbits_l0_step (k : Nat) (x n : Int) (hx : 0 < x ∧ x < 4294967296) (hn : 0 ≤ n ∧ n < 9000000000000000000) : sibylref01_Bits.l0 (k + 1) n x = sibylref01_Bits.l0 k (n + 1) (x / 2) := by
  simp only [sibylref01_Bits.l0]
  rw [if_pos (by omega), w64 (by omega) (by omega), Int.tdiv_eq_ediv_of_nonneg (by omega), show x / 2 % 4294967296 = x / 2 from by omega]
theorem rbits_l0 : ∀ (f : Nat) (x n : Int), 0 ≤ x → x < 4294967296 → x < 2 ^ f → 0 ≤ n → n + f < 9000000000000000000 → f ≤ 32 → Ev (fun k => sibylref01_Bits.l0 k n x) (n + (Lib.bitLen x.toNat : Int))
  | 0, x, n, h0, h1, h2, h3, h4, h5 => by
    have : x = 0 := by simp at h2; omega
    subst this
    refine Ev.step (f := fun _ => some n) (fun k => ?_) ?_
    · simp only [sibylref01_Bits.l0]
      rw [if_neg (by omega)]
    · rw [Int.toNat_zero, bitLen_zero]; simpa using Ev.now n
  | f + 1, x, n, h0, h1, h2, h3, h4, h5 => by
    rcases Int.lt_or_le 0 x with h | h
    · have ih := rbits_l0 f (x / 2) (n + 1) (by omega) (by omega) (by rw [Int.pow_succ] at h2; omega) (by omega) (by omega) (by omega)
      have e := Lib.bitLen_half x.toNat (by omega) (by omega)
      rw [show x.toNat / 2 = (x / 2).toNat from by omega] at e
      rw [e, show n + ((1 + Lib.bitLen (x / 2).toNat : Nat) : Int) = n + 1 + (Lib.bitLen (x / 2).toNat : Int) from by omega]
      exact Ev.step (fun k => rbits_l0_step k x n ⟨h, h1⟩ (by omega)) ih
    · have : x = 0 := by omega
      subst this
      refine Ev.step (f := fun _ => some n) (fun k => ?_) ?_
      · simp only [sibylref01_Bits.l0]
        rw [if_neg (by omega)]
      · rw [Int.toNat_zero, bitLen_zero]; simpa using Ev.now n
theorem rbits (l : List Int) (hw : Wf l) (hl : l.length ≤ 35184372088832) : Ev (fun k => sibylref01_Bits.f k l) (bitsOf (trim l)) := by
  have ia := Is.of hw rfl
  have la := trim_len l
  unfold sibylref01_Bits.f
  refine Ev.bind (rtrim' l (by omega)) ?_
  by_cases h : (trim l).length = 0
  · refine Ev.congr (fun k => if_pos (by omega)) ?_
    unfold bitsOf
    rw [if_pos h]
    exact Ev.now _
  · refine Ev.congr (fun k => if_neg (by omega)) ?_
    have e1 : wrap64 (((trim l).length : Int) - 1) = (((trim l).length - 1 : Nat) : Int) := by rw [w64 (by omega) (by omega)]; omega
    have ht := top_wf ia.wf
    rw [e1]
    refine Ev.congr (fun k => if_pos (by omega)) (Ev.congr (fun k => if_pos (by omega)) ?_)
    have := rbits_l0 32 (rd (trim l) (((trim l).length - 1 : Nat) : Int)) (32 * (((trim l).length : Int) - 1)) ht.1 ht.2 (by omega) (by omega) (by omega) (by omega)
    rw [w64 (x := 32 * _) (by omega) (by omega), show (((trim l).length - 1 : Nat) : Int) = ((trim l).length : Int) - 1 from by omega]
    unfold bitsOf
    rw [if_neg h]
    rwa [show (((trim l).length - 1 : Nat) : Int) = ((trim l).length : Int) - 1 from by omega] at this ⊢
theorem limbBits (l : List Int) (hw : Wf l) (hl : l.length ≤ 70368744177664) : Ev (fun k => limb_Bits.f k l) (bitsOf (trim l)) := Ev.bind (natsBits l hw hl) (Ev.now _)
end Go.Proofs.Ytgffficaoioljaa.PlN
end
