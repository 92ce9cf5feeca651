import Derived.Test.YtiamjfckgmnijaaGreatDoorFbFp3
set_option linter.all false
section
namespace Go.Ab
open Go Go.Proofs
set_option maxRecDepth 100000
set_option maxHeartbeats 4000000
theorem eq_zero {x : Nat} (h : rg x ≤ 9218868437227405312) : (Ieee.double.order x 0 == some .eq) = decide (rg x = 0) := by
  rw [key_cmp h (by decide), show key 0 = 0 by decide]
  have hk : key x = 0 ↔ rg x = 0 := by unfold key; split <;> omega
  by_cases h0 : rg x = 0
  · rw [decide_eq_true h0, hk.2 h0]; rfl
  · rw [decide_eq_false h0]
    rcases Int.lt_trichotomy (key x) 0 with h1 | h1 | h1
    · rw [cmp_lt h1]; rfl
    · exact (h0 (hk.1 h1)).elim
    · rw [cmp_gt h1]; rfl
theorem dcall_by0p {P : Program} {B : Nat} {ops : Array Oper} {K : List Ent → S → Prop} {rest : List Oper} {L : List Ent} {rd : List Loc} {s : S} {d : Option Tmp} {f : FuncId} {h0 : Nat → AV} {raw ws : List AV} {v : AV} (h : Spec P f ws v) (hK : AOps P B ops K rest (L ++ [(rd, wr d [])]) (put s d v)) : DCall P B ops K rest L rd s d f h0 raw (some (ws, [])) :=
  dcall_by h hK
theorem cv_fu (w : Nat) : pureRun Tryz.prog (convert 30 22 (.float .f64 w)) = pureRun Tryz.prog (Conv.floatToInt .f64 w .u64) := by kernel_rfl
theorem to_int {m : Nat} : (Ieee.Datum.number false m 0).toInt .zero = some (m : Int) := by
  simp [Ieee.Datum.toInt, Ieee.Datum.integral, Ieee.Toward.cut, Ieee.signed]
theorem f2u {w m : Nat} (hr : Ieee.double.read w = .number false m 0) (hm : m < 18446744073709551616) : pureRun Tryz.prog (convert 30 22 (.float .f64 w)) = some (.int .u64 m) := by
  rw [cv_fu]
  unfold Conv.floatToInt
  rw [show FloatKind.f64.decode w = Ieee.double.read w from rfl, hr, to_int]
  have h1 : IntKind.u64.min ≤ (m : Int) := by show (0 : Int) ≤ m; omega
  have h2 : (m : Int) ≤ IntKind.u64.max := by show (m : Int) ≤ 18446744073709551615; omega
  simp only [h1, h2, and_self, if_true]
  rfl
theorem acv_fu {B : Nat} {d : Option Tmp} {h : Nat → AV} {w m : Nat} (hr : Ieee.double.read w = .number false m 0) (hm : m < 18446744073709551616) : aconv Tryz.prog B d h 30 22 (f64 w) = some (u64 m, []) := by
  have e : aconv Tryz.prog B d h 30 22 (f64 w) = (pureRun Tryz.prog (convert 30 22 (.float .f64 w))).map fun v => (AV.sc v, []) := by kernel_rfl
  rw [e, f2u hr hm]
  rfl
theorem s_Parts0 (x y1 k z : Nat) (e0 : Int) (hx : x < 18446744073709551616) (h0 : 0 < rg x) (h1 : rg x < 9218868437227405312) (hn : Spec Tryz.prog 101 [f64 (rg x)] (.tup [f64 y1, .sc (.int .i64 e0)])) (g2 : y1 < 9218868437227405312) (he : -52 ≤ e0 ∧ e0 ≤ 0)
    (hM : (2 * k + 1) * 2 ^ z = 4503599627370496 + y1 % 4503599627370496) :
    Spec Tryz.prog 21 [f64 x] (.tup [.sc (.bool (sgx x)), u64 (2 * k + 1), .sc (.int .i64 (e0 + ((y1 / 4503599627370496 : Nat) : Int) - 1022 - 53 + z)), .sc (.int .i64 0)]) := by
  refine spec_of_awp mixed Tryz.func21 rfl Tryz.call21 (by kernel_rfl) (by simp) rfl ?_
  have cC := s_Class x hx
  have hc : 2 < (clsL x).1 := by
    unfold clsL
    rw [if_neg (by omega), if_neg (by omega)]
    split
    · exact (by decide : (2 : Int) < 3)
    · exact (by decide : (2 : Int) < 4)
  generalize clsL x = c at *
  obtain ⟨c1, c2⟩ := c
  have hf : y1 % 4503599627370496 < 4503599627370496 := Nat.mod_lt _ (by decide)
  have cF := s_Frexp0 (rg x) y1 e0 h0 h1 hn g2 he
  have cL := s_Ldexp (4602678819172646912 + y1 % 4503599627370496) _ 53 (s_ldexpB (4602678819172646912 + y1 % 4503599627370496) 1075 53 (by omega) (by omega) (by omega) (by decide) (by decide))
  rw [show 1075 * 4503599627370496 + (4602678819172646912 + y1 % 4503599627370496) % 4503599627370496 = 4841369599423283200 + y1 % 4503599627370496 by omega] at cL
  have hE : y1 / 4503599627370496 < 2047 := by omega
  have cT := s_tz k z _ hM (by omega)
  generalize y1 % 4503599627370496 = f at *
  generalize y1 / 4503599627370496 = E at *
  refine T (call_by cC ?_)
  refine T ?_
  rw [pr_eq, Option.map_some, eq_zero (by omega), decide_eq_false (by omega)]
  refine T (call_by (s_Abs x hx) ?_)
  refine T (call_by cF ?_)
  refine T (call_by cL ?_)
  refine T ?_
  have hr : Ieee.double.read (4841369599423283200 + f) = .number false (4503599627370496 + f) 0 := by
    have h := read_pos (x := 4841369599423283200 + f) (by omega) (by omega)
    rw [show (4841369599423283200 + f) % 4503599627370496 = f by omega, show (4841369599423283200 + f) / 4503599627370496 = 1075 by omega] at h
    exact h
  rw [acv_fu hr (by omega)]
  refine T (call_by cT ?_)
  refine T (dcall_by0p (s_Signbit x hx) ?_)
  have hz : z < 53 := by
    have : 2 ^ z < 2 ^ 53 := Nat.lt_of_le_of_lt (Nat.le_mul_of_pos_left (2 ^ z) (show 0 < 2 * k + 1 by omega)) (by rw [hM]; omega)
    exact (Nat.pow_lt_pow_iff_right (by decide)).1 this
  have hs : ((4503599627370496 + f : Nat) : Int).fdiv (2 ^ z) = ((2 * k + 1 : Nat) : Int) := by
    have e : ((2 : Int) ^ z) = ((2 ^ z : Nat) : Int) := by rw [Int.natCast_pow]; rfl
    rw [← hM, e, Int.fdiv_eq_ediv_of_nonneg _ (Int.natCast_nonneg _), ← Int.natCast_ediv, Nat.mul_div_cancel _ (Nat.two_pow_pos z)]
  refine T (r_ret ?_)
  rw [Tryz.results21]
  refine R ?_
  rw [hs]
  exact Wk.refl _
end Go.Ab
end
