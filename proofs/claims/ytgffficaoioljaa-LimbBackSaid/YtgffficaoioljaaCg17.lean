import Derived.Test.YtgffficaoioljaaCg14
import Derived.Test.YtgffficaoioljaaCg12
import Derived.Test.YtgffficaoioljaaCg11
import Derived.Lib.ItoaNum
section
namespace Go.Proofs.Ytgffficaoioljaa.PlN
open Go.RowKit Go.Proofs.Ytgffficaoioljaa.P Go.Proofs.Ytgffficaoioljaa.Pl Go.Proofs.Ytgffficaoioljaa.PlA Go.Proofs.YtgffficaoioljaaW.PrintWords Go.Proofs.YtgffficaoioljaaW.PrintLast Go.Proofs.YtgffficaoioljaaW.PrintMore
set_option linter.unusedVariables false
def bitsOf (l : List Int) : Int := if l.length = 0 then 0 else 32 * ((l.length : Int) - 1) + (Lib.bitLen (rd l ((l.length - 1 : Nat) : Int)).toNat : Int)
theorem top_nonzero {l : List Int} (hw : Wf l) (h : trim l = l) (hl : l.length ≠ 0) : 1 ≤ rd l ((l.length - 1 : Nat) : Int) := by
  obtain ⟨m, x, rfl⟩ := snoc_of_ne (l := l) (by intro e; rw [e] at hl; simp at hl)
  have := last_pos h hw
  rw [rd_of (by simp)]
  simpa using this
theorem bitLen_bd {x : Int} (h : 0 ≤ x ∧ x < 4294967296) : Lib.bitLen x.toNat ≤ 32 := Lib.bitLen_le x.toNat 32 (by omega) (by omega)
theorem bitLen_pos {x : Int} (h : 1 ≤ x ∧ x < 4294967296) : 1 ≤ Lib.bitLen x.toNat := (Lib.bitLenAux_bounds 64 x.toNat (by omega) (by omega)).1
theorem len32 {x : Int} (h : 0 ≤ x ∧ x < 4294967296) : bits_Len32.f x = some (Lib.bitLen x.toNat : Int) := by
  unfold bits_Len32.f
  rw [if_pos (by omega)]
theorem top_wf {l : List Int} (hw : Wf l) : 0 ≤ rd l ((l.length - 1 : Nat) : Int) ∧ rd l ((l.length - 1 : Nat) : Int) < 4294967296 := rd_wf' hw _
theorem natsBits (l : List Int) (hw : Wf l) (hl : l.length ≤ 70368744177664) : Ev (fun k => nats_Bits.f k l) (bitsOf (trim l)) := by
  have ia := Is.of hw rfl
  have la := trim_len l
  unfold nats_Bits.f
  refine Ev.bind (cut l (by omega)) ?_
  by_cases h : (trim l).length = 0
  · refine Ev.congr (fun k => if_pos (by omega)) ?_
    unfold bitsOf
    rw [if_pos h]
    exact Ev.now _
  · refine Ev.congr (fun k => if_neg (by omega)) ?_
    have e1 : wrap64 (((trim l).length : Int) - 1) = (((trim l).length - 1 : Nat) : Int) := by rw [w64 (by omega) (by omega)]; omega
    have ht := top_wf ia.wf
    have hb := bitLen_bd ht
    rw [e1]
    refine Ev.congr (fun k => if_pos (by omega)) (Ev.congr (fun k => if_pos (by omega)) ?_)
    refine Ev.congr (fun k => ?_) (Ev.now _)
    rw [len32 ht, Option.bind_some, w64 (x := 32 * _) (by omega) (by omega), w64 (by omega) (by omega)]
    unfold bitsOf
    rw [if_neg h, show (((trim l).length - 1 : Nat) : Int) = ((trim l).length : Int) - 1 from by omega]
theorem limbBits (l : List Int) (hw : Wf l) (hl : l.length ≤ 70368744177664) : Ev (fun k => limb_Bits.f k l) (bitsOf (trim l)) := Ev.bind (natsBits l hw hl) (Ev.now _)
theorem bitsOf_zero {l : List Int} (hw : Wf l) (h : trim l = l) : bitsOf l = 0 ↔ l = [] := by
  unfold bitsOf
  by_cases hl : l.length = 0
  · rw [if_pos hl]
    simp [List.eq_nil_of_length_eq_zero hl]
  · rw [if_neg hl]
    have h1 := bitLen_pos ⟨top_nonzero hw h hl, (top_wf hw).2⟩
    constructor
    · intro e; omega
    · intro e; rw [e] at hl; simp at hl
theorem bitsOf_big {l : List Int} (hw : Wf l) (h : trim l = l) : 512 < bitsOf l ↔ 16 < l.length := by
  unfold bitsOf
  by_cases hl : l.length = 0
  · rw [if_pos hl]; omega
  · rw [if_neg hl]
    have h1 := bitLen_pos ⟨top_nonzero hw h hl, (top_wf hw).2⟩
    have h2 := bitLen_bd (top_wf hw)
    omega
end Go.Proofs.Ytgffficaoioljaa.PlN
end
