import Derived.Test.YtgffficaoioljaaRj11
import Derived.Test.YtgffficaoioljaaRj12
section
namespace Go.Proofs.Ytgffficaoioljaa.P
open Go.RowKit Go.Proofs.YtgffficaoioljaaW.PrintWords Go.Proofs.YtgffficaoioljaaW.PrintLast Go.Proofs.YtgffficaoioljaaW.PrintMore
attribute [local go_sem] max2_int min2_int max_two min_two max_three min_three max_four min_four
set_option linter.unusedVariables false
set_option linter.unusedSimpArgs false
set_option maxHeartbeats 8000000
set_option maxRecDepth 100000
mutual
def r2_Cut.j0 : Nat → ByteArray → Bool → Bool → Option (Bool × ByteArray × ByteArray × Bool)
 | 0, _, _, _ => none
 | k + 1, x0, x6, x23 => if x23 = true then (if 0 < (x0.size : Int) then (if 1 ≤ (x0.size : Int) then (r2_Cut.j1 k (x0.extract 1 x0.size) ((bt x0 0) == 45)) else (none)) else (none)) else (r2_Cut.j1 k x0 x6)
def r2_Cut.j1 : Nat → ByteArray → Bool → Option (Bool × ByteArray × ByteArray × Bool)
 | 0, _, _ => none
 | k + 1, x0, x6 => r2_Cut.l0 k x0 x6 x0 (⟨#[49]⟩ : ByteArray) 0
def r2_Cut.j3 : Nat → Bool → ByteArray → ByteArray → Option (Bool × ByteArray × ByteArray × Bool)
 | 0, _, _, _ => none
 | k + 1, x6, x7, x8 => (r1_Digits.f k x7).bind fun t1341 => (if t1341 = true then ((r1_Digits.f k x8).bind fun t1342 => (r2_Cut.j4 k x6 x7 x8 (!t1342))) else (r2_Cut.j4 k x6 x7 x8 true))
def r2_Cut.j4 : Nat → Bool → ByteArray → ByteArray → Bool → Option (Bool × ByteArray × ByteArray × Bool)
 | 0, _, _, _, _ => none
 | k + 1, x6, x7, x8, x54 => if x54 = true then (some (false, (⟨#[]⟩ : ByteArray), (⟨#[]⟩ : ByteArray), false)) else (r2_Cut.l1 k x6 x7 x8 0)
def r2_Cut.l1 : Nat → Bool → ByteArray → ByteArray → Int → Option (Bool × ByteArray × ByteArray × Bool)
 | 0, _, _, _, _ => none
 | k + 1, x6, x7, x8, x10 => if x10 < (x8.size : Int) then (if 0 ≤ x10 then (if (bt x8 x10) = 48 then (r2_Cut.l1 k x6 x7 x8 (wrap64 (x10 + 1))) else (some (x6, x7, x8, true))) else (none)) else (some (false, (⟨#[]⟩ : ByteArray), (⟨#[]⟩ : ByteArray), false))
def r2_Cut.l0 : Nat → ByteArray → Bool → ByteArray → ByteArray → Int → Option (Bool × ByteArray × ByteArray × Bool)
 | 0, _, _, _, _, _ => none
 | k + 1, x0, x6, x7, x8, x9 => if x9 < (x0.size : Int) then (if 0 ≤ x9 then (if (bt x0 x9) = 47 then (if x9 ≤ (x0.size : Int) then (if 0 ≤ (wrap64 (x9 + 1)) then (if (wrap64 (x9 + 1)) ≤ (x0.size : Int) then (r2_Cut.j3 k x6 (x0.extract 0 (x9 : Int).toNat) (x0.extract ((wrap64 (x9 + 1)) : Int).toNat x0.size)) else (none)) else (none)) else (none)) else (r2_Cut.l0 k x0 x6 x7 x8 (wrap64 (x9 + 1)))) else (none)) else (r2_Cut.j3 k x6 x7 x8)
end
def r2_Cut.f (k : Nat) (a0 : ByteArray) : Option (Bool × ByteArray × ByteArray × Bool) := if (a0.size : Int) > 0 then (if 0 < (a0.size : Int) then (if (bt a0 0) = 43 then (r2_Cut.j0 k a0 false true) else (r2_Cut.j0 k a0 false ((bt a0 0) == 45))) else (none)) else (r2_Cut.j0 k a0 false false)
theorem r2_Cut.calls (k : Nat) (a0 : ByteArray) (r1 : Bool) (r2 : ByteArray) (r3 : ByteArray) (r4 : Bool) (w : World) (h : r2_Cut.f k a0 = some (r1, r2, r3, r4)) :
  Calls Try.prog 101 #[.string a0] w fun e w' => e = .returned (.tuple #[.bool r1, .string r2, .string r3, .bool r4]) ∧ Drawn0 w w' := by
 unfold r2_Cut.f at h
 have H := h
 clear h
 have HC2 := Yt.mk H
 clear H
 go_enter Try.func101, Try.ntmps101
 go_upto_region 2 with (fail)
 repeat (go_quiet (fail); go_upto_region 2 with (fail))
 go_cut [23] (fun v23 wc => ∃ (kq : Nat) (x23_1 : Bool), v23 = .bool x23_1 ∧ Yt (r2_Cut.j0 kq a0 false x23_1 = some (r1, r2, r3, r4)) ∧ Yt (kq ≤ k) ∧ Drawn0 w wc)
 case first =>
  have H := HC2.out
  clear HC2
  by_cases c3 : (a0.size : Int) > 0
  rotate_left
  ·rw [if_neg c3] at H
   have c3b0 : decide (0 < (a0.size : Int)) = false := decide_eq_false c3
   have c3b1 : decide (0 < a0.size) = false := decide_eq_false (by omega)
   clear c3
   (first | rw [c3b0] | rw [c3b1] | (simp only [Yi, Yj]; rw [c3b0]) | skip)
   have H' := Yt.mk H
   clear H
   go_wp2
   repeat (go_quiet (fail); try go_wp2)
   go_meet
   case rel => exact ⟨_, (false), Qa5, H', ⟨by first | omega | exact Nat.le_refl _⟩, Qa10⟩
  rw [if_pos c3] at H
  have c3b0 : decide (0 < (a0.size : Int)) = true := decide_eq_true c3
  have c3b1 : decide (0 < a0.size) = true := decide_eq_true (by omega)
  clear c3
  (first | rw [c3b0] | rw [c3b1] | (simp only [Yi, Yj]; rw [c3b0]) | skip)
  by_cases c4 : 0 < (a0.size : Int)
  rotate_left
  ·rw [if_neg c4] at H
   exact absurd H (by simp)
  rw [if_pos c4] at H
  have c4b0 : decide (0 < (a0.size : Int)) = true := decide_eq_true c4
  have c4b1 : decide (0 < a0.size) = true := decide_eq_true (by omega)
  clear c4
  by_cases c6 : (bt a0 0) = 43
  ·rw [if_pos c6] at H
   have c6b0 : ((bt a0 0) == 43) = true := beq_iff_eq.mpr c6
   have c6b1 : ((bt a0 0) != 43) = false := bne_eq_false_iff_eq.mpr c6
   clear c6
   have H' := Yt.mk H
   clear H
   have p5 : 0 ≤ (0 : Int) := (by omega)
   have q5 : 0 < a0.size := (by have : (0 : Int) < (a0.size : Int) := Qd; omega)
   have hx5 : ∀ h : 0 < a0.size, ((a0[0]'h).toNat : Int) = bt a0 0 := bt_at a0 0
   clear p5
   have qi5 : (0 < (a0.size : Int)) = True := eq_true (Qd)
   replace q5 := eq_true q5
   go_wp2
   repeat (go_quiet (fail); try go_wp2)
   go_meet
   case rel => exact ⟨_, (true), Qa5, H', ⟨by first | omega | exact Nat.le_refl _⟩, Qa10⟩
  rw [if_neg c6] at H
  have c6b0 : ((bt a0 0) == 43) = false := beq_eq_false_iff_ne.mpr c6
  have c6b1 : ((bt a0 0) != 43) = true := bne_iff_ne.mpr c6
  have H' := Yt.mk H
  clear H
  have p5 : 0 ≤ (0 : Int) := (by omega)
  have q5 : 0 < a0.size := (by have : (0 : Int) < (a0.size : Int) := Qd; omega)
  have hx5 : ∀ h : 0 < a0.size, ((a0[0]'h).toNat : Int) = bt a0 0 := bt_at a0 0
  clear p5
  have qi5 : (0 < (a0.size : Int)) = True := eq_true (Qd)
  replace q5 := eq_true q5
  have p7 : 0 ≤ (0 : Int) := (by omega)
  have q7 : 0 < a0.size := (by have : (0 : Int) < (a0.size : Int) := Qd; omega)
  have hx7 : ∀ h : 0 < a0.size, ((a0[0]'h).toNat : Int) = bt a0 0 := bt_at a0 0
  clear p7
  have qi7 : (0 < (a0.size : Int)) = True := eq_true (Qd)
  replace q7 := eq_true q7
  go_wp2
  repeat (go_quiet (fail); try go_wp2)
  go_meet
  case rel => exact ⟨_, (((bt a0 0) == 45)), Qa5, H', ⟨by first | omega | exact Nat.le_refl _⟩, Qa10⟩
 case rest =>
  clear HC2
  try clear c1; try clear p2; try clear c3; try clear c3b0; try clear c3b1; try clear c4; try clear c4b0; try clear c4b1; try clear p5; try clear q5; try clear hx5; try clear qi5; try clear c6; try clear c6b0; try clear c6b1; try clear p7; try clear q7; try clear hx7; try clear qi7; try clear p5; try clear p7; try clear q5; try clear q7
  obtain ⟨kq, x23_1, rfl, HA, HJ1, ⟨mc1, rfl⟩⟩ := hcut
  cases kq with
  | zero => exact absurd HA.out (by simp [r2_Cut.j0])
  | succ kj1 =>
   have H := HA.out
   clear HA
   simp only [r2_Cut.j0] at H
   have HC8 := Yt.mk H
   clear H
   go_upto_if 23 with (fail)
   repeat (go_quiet (fail); go_upto_if 23 with (fail))
   go_cut [0, 6] (fun v0 v6 wc => ∃ (kq : Nat) (x0_7 : ByteArray) (x6_7 : Bool), v0 = .string x0_7 ∧ v6 = .bool x6_7 ∧ Yt (r2_Cut.j1 kq x0_7 x6_7 = some (r1, r2, r3, r4)) ∧ Yt (kq ≤ kj1) ∧ Drawn0 w wc)
   case first =>
    have H := HC8.out
    clear HC8
    by_cases c9 : x23_1 = true
    rotate_left
    ·replace c9 := Bool.eq_false_iff.mpr c9
     subst c9
     rw [if_neg (show ¬ (false = true) by decide)] at H
     have H' := Yt.mk H
     clear H
     go_wp2
     repeat (go_quiet (fail); try go_wp2)
     go_meet
     case rel => exact ⟨_, (a0), (false), Qa5, Qa5, H', ⟨by have := HJ1.out; first | omega | exact Nat.le_refl _⟩, Qa10⟩
    subst c9
    rw [if_pos rfl] at H
    by_cases c10 : 0 < (a0.size : Int)
    rotate_left
    ·rw [if_neg c10] at H
     exact absurd H (by simp)
    rw [if_pos c10] at H
    have c10b0 : decide (0 < (a0.size : Int)) = true := decide_eq_true c10
    have c10b1 : decide (0 < a0.size) = true := decide_eq_true (by omega)
    clear c10
    (first | rw [c10b0] | rw [c10b1] | (simp only [Yi, Yj]; rw [c10b0]) | skip)
    by_cases c12 : 1 ≤ (a0.size : Int)
    rotate_left
    ·rw [if_neg c12] at H
     exact absurd H (by simp)
    rw [if_pos c12] at H
    have c12b0 := eq_true c12
    have c12b1 : decide (1 ≤ (a0.size : Int)) = true := decide_eq_true c12
    clear c12
    have H' := Yt.mk H
    clear H
    have p11 : 0 ≤ (0 : Int) := (by omega)
    have q11 : 0 < a0.size := (by have : (0 : Int) < (a0.size : Int) := Qd; omega)
    have hx11 : ∀ h : 0 < a0.size, ((a0[0]'h).toNat : Int) = bt a0 0 := bt_at a0 0
    clear p11
    have qi11 : (0 < (a0.size : Int)) = True := eq_true (Qd)
    replace q11 := eq_true q11
    go_wp2
    repeat (go_quiet (fail); try go_wp2)
    go_meet
    case rel => exact ⟨_, (a0.extract 1 a0.size), (((bt a0 0) == 45)), Qa5, Qa5, H', ⟨by have := HJ1.out; first | omega | exact Nat.le_refl _⟩, Qa10⟩
   case rest =>
    clear HC8
    try clear c1; try clear p1; try clear q1; try clear hx1; try clear qi1; try clear p2; try clear c3; try clear c3b0; try clear c3b1; try clear c4; try clear c4b0; try clear c4b1; try clear p5; try clear q5; try clear hx5; try clear qi5; try clear c6; try clear c6b0; try clear c6b1; try clear p7; try clear q7; try clear hx7; try clear qi7; try clear c9; try clear c10; try clear c10b0; try clear c10b1; try clear p11; try clear q11; try clear hx11; try clear qi11; try clear c12; try clear c12b0; try clear c12b1; try clear p11; try clear p2; try clear p5; try clear p7; try clear q11; try clear q5; try clear q7
    obtain ⟨kq, x0_7, x6_7, rfl, rfl, HA, HJ7, ⟨mc7, rfl⟩⟩ := hcut
    cases kq with
    | zero => exact absurd HA.out (by simp [r2_Cut.j1])
    | succ kj7 =>
     have H := HA.out
     clear HA
     simp only [r2_Cut.j1] at H
     have HC13 := Yt.mk H
     clear H
     go_upto_block 0 with (fail)
     repeat (go_quiet (fail); go_upto_block 0 with (fail))
     go_cut [7, 8] (fun v7 v8 wc => ∃ (kq : Nat) (x7_12 : ByteArray) (x8_12 : ByteArray), v7 = .string x7_12 ∧ v8 = .string x8_12 ∧ Yt (r2_Cut.j3 kq x6_7 x7_12 x8_12 = some (r1, r2, r3, r4)) ∧ Yt (kq ≤ kj7) ∧ Drawn0 w wc)
     case first =>
      have H := HC13.out
      clear HC13
      have H' := Yt.mk H
      clear H
      go_wp2
      repeat (go_quiet (fail); try go_wp2)
      go_loopg [7, 8, 9] kj7 (fun kq v7 v8 v9 w' => ∃ (x7_3 : ByteArray) (x8_3 : ByteArray) (x9_3 : Int), v7 = .string x7_3 ∧ v8 = .string x8_3 ∧ v9 = .int .i64 x9_3 ∧ Yt (r2_Cut.l0 kq x0_7 x6_7 x7_3 x8_3 x9_3 = some (r1, r2, r3, r4)) ∧ Yt (kq ≤ kj7) ∧ Drawn0 w w')
      case atStart => exact ⟨(x0_7), ((⟨#[49]⟩ : ByteArray)), (0), Qa5, Qa5, Qa5, H', ⟨Nat.le_refl _⟩, Qa10⟩
      case round =>
       clear H'
       try clear c1; try clear p1; try clear q1; try clear hx1; try clear qi1; try clear p2; try clear c3; try clear c3b0; try clear c3b1; try clear c4; try clear c4b0; try clear c4b1; try clear p5; try clear q5; try clear hx5; try clear qi5; try clear c6; try clear c6b0; try clear c6b1; try clear c7; try clear p7; try clear q7; try clear hx7; try clear qi7; try clear c9; try clear c10; try clear c10b0; try clear c10b1; try clear p11; try clear q11; try clear hx11; try clear qi11; try clear c12; try clear c12b0; try clear c12b1; try clear p1; try clear p11; try clear p2; try clear p5; try clear p7; try clear q1; try clear q11; try clear q5; try clear q7
       obtain ⟨x7_3, x8_3, x9_3, rfl, rfl, rfl, HA, HK3, ⟨m3, rfl⟩⟩ := hrel
       cases gk with
       | zero => exact absurd HA.out (by simp [r2_Cut.l0])
       | succ k3 =>
        have H := HA.out
        clear HA
        simp only [r2_Cut.l0] at H
        by_cases c14 : x9_3 < (x0_7.size : Int)
        rotate_left
        ·rw [if_neg c14] at H
         have c14b0 : decide (x9_3 < (x0_7.size : Int)) = false := decide_eq_false c14
         clear c14
         (first | rw [c14b0] | rw [c14b1] | (simp only [Yi, Yj]; rw [c14b0]) | skip)
         have H' := Yt.mk H
         clear H
         go_wp2
         repeat (go_quiet (fail); try go_wp2)
         go_meet
         case rel => exact ⟨_, (x7_3), (x8_3), Qa5, Qa5, H', ⟨by have := HJ1.out; have := HJ7.out; have := HK3.out; first | omega | exact Nat.le_refl _⟩, Qa10⟩
        rw [if_pos c14] at H
        have c14b0 : decide (x9_3 < (x0_7.size : Int)) = true := decide_eq_true c14
        clear c14
        (first | rw [c14b0] | rw [c14b1] | (simp only [Yi, Yj]; rw [c14b0]) | skip)
        by_cases c15 : 0 ≤ x9_3
        rotate_left
        ·rw [if_neg c15] at H
         exact absurd H (by simp)
        rw [if_pos c15] at H
        have c15b0 : decide (0 ≤ x9_3) = true := decide_eq_true c15
        clear c15
        by_cases c17 : (bt x0_7 x9_3) = 47
        rotate_left
        ·rw [if_neg c17] at H
         have c17b0 : ((bt x0_7 x9_3) == 47) = false := beq_eq_false_iff_ne.mpr c17
         have c17b1 : ((bt x0_7 x9_3) != 47) = true := bne_iff_ne.mpr c17
         have H' := Yt.mk H
         clear H
         have p16 : 0 ≤ (x9_3 : Int) := Qd
         have q16 : x9_3 < (x0_7.size : Int) := Qd
         have hx16 := bt_at x0_7 x9_3
         replace p16 := eq_true p16
         replace q16 := eq_true q16
         go_wp2
         repeat (go_quiet (fail); try go_wp2)
         go_roundg k3
         case measure => have := HJ1.out; have := HJ7.out; have := HK3.out; omega
         case rel => exact ⟨(x7_3), (x8_3), (wrap64 (x9_3 + 1)), Qa5, Qa5, Qa5, H', ⟨by have := HJ1.out; have := HJ7.out; have := HK3.out; omega⟩, Qa10⟩
        rw [if_pos c17] at H
        have c17b0 : ((bt x0_7 x9_3) == 47) = true := beq_iff_eq.mpr c17
        have c17b1 : ((bt x0_7 x9_3) != 47) = false := bne_eq_false_iff_eq.mpr c17
        clear c17
        have c18b0 := eq_true (Qd : 0 ≤ x9_3)
        by_cases c19 : x9_3 ≤ (x0_7.size : Int)
        rotate_left
        ·rw [if_neg c19] at H
         exact absurd H (by simp)
        rw [if_pos c19] at H
        have c19b0 := eq_true c19
        have c19b1 : decide (x9_3 ≤ (x0_7.size : Int)) = true := decide_eq_true c19
        clear c19
        obtain ⟨ji20, hji20⟩ : ∃ j_ : Int, (wrap64 (x9_3 + 1)) = j_ := ⟨_, rfl⟩
        replace H : (if 0 ≤ (ji20) then (if (ji20) ≤ (x0_7.size : Int) then (r2_Cut.j3 k3 x6_7 (x0_7.extract 0 (x9_3 : Int).toNat) (x0_7.extract ((ji20) : Int).toNat x0_7.size)) else (none)) else (none)) = some (r1, r2, r3, r4) := by first | (rw [hji20] at H; exact H) | (simp only [hji20] at H ⊢; exact H)
        have hji20w : (IntKind.i64.wrap (x9_3 + 1)) = ji20 := (Yi _).trans hji20
        by_cases c21 : 0 ≤ (ji20)
        rotate_left
        ·rw [if_neg c21] at H
         exact absurd H (by simp)
        rw [if_pos c21] at H
        have c21b0 := eq_true c21
        have c21b1 : decide (0 ≤ (ji20)) = true := decide_eq_true c21
        clear c21
        by_cases c22 : (ji20) ≤ (x0_7.size : Int)
        rotate_left
        ·rw [if_neg c22] at H
         exact absurd H (by simp)
        rw [if_pos c22] at H
        have c22b0 := eq_true c22
        have c22b1 : decide ((ji20) ≤ (x0_7.size : Int)) = true := decide_eq_true c22
        clear c22
        have H' := Yt.mk H
        clear H
        have p16 : 0 ≤ (x9_3 : Int) := Qd
        have q16 : x9_3 < (x0_7.size : Int) := Qd
        have hx16 := bt_at x0_7 x9_3
        replace p16 := eq_true p16
        replace q16 := eq_true q16
        go_wp2
        repeat (go_quiet (fail); try go_wp2)
        go_meet
        case rel => exact ⟨_, (x0_7.extract 0 (x9_3 : Int).toNat), (x0_7.extract ((ji20) : Int).toNat x0_7.size), Qa5, (by first | rfl | (simp; done) | (simp only [← hji20] <;> (first | rfl | simp)) | (simp [*]; done)), H', ⟨by have := HJ1.out; have := HJ7.out; have := HK3.out; first | omega | exact Nat.le_refl _⟩, Qa10⟩
     case rest =>
      clear HC13
      try clear c1; try clear p1; try clear q1; try clear hx1; try clear qi1; try clear c2; try clear p2; try clear c3; try clear c3b0; try clear c3b1; try clear c4; try clear c4b0; try clear c4b1; try clear p5; try clear q5; try clear hx5; try clear qi5; try clear c6; try clear c6b0; try clear c6b1; try clear p6; try clear c7; try clear p7; try clear q7; try clear hx7; try clear qi7; try clear c9; try clear c10; try clear c10b0; try clear c10b1; try clear p11; try clear q11; try clear hx11; try clear qi11; try clear c12; try clear c12b0; try clear c12b1; try clear c14; try clear c14b0; try clear c14b1; try clear c15; try clear c15b0; try clear p16; try clear q16; try clear hx16; try clear c17; try clear c17b0; try clear c17b1; try clear c18; try clear c18b0; try clear c19; try clear c19b0; try clear c19b1; try clear c21; try clear c21b0; try clear c21b1; try clear c22; try clear c22b0; try clear c22b1; try clear p1; try clear p11; try clear p16; try clear p2; try clear p5; try clear p7; try clear q1; try clear q11; try clear q16; try clear q5; try clear q7
      obtain ⟨kq, x7_12, x8_12, rfl, rfl, HA, HJ12, ⟨mc12, rfl⟩⟩ := hcut
      cases kq with
      | zero => exact absurd HA.out (by simp [r2_Cut.j3])
      | succ kj12 =>
       have H := HA.out
       clear HA
       simp only [r2_Cut.j3] at H
       have HC23 := Yt.mk H
       clear H
       go_upto_region 11 with (fail)
       repeat (go_quiet (fail); go_upto_region 11 with (fail))
       go_cut [54] (fun v54 wc => ∃ (kq : Nat) (x54_22 : Bool), v54 = .bool x54_22 ∧ Yt (r2_Cut.j4 kq x6_7 x7_12 x8_12 x54_22 = some (r1, r2, r3, r4)) ∧ Yt (kq ≤ kj12) ∧ Drawn0 w wc)
       case first =>
        have H := HC23.out
        clear HC23
        replace H := Option.bind_eq_some_iff.mp H
        obtain ⟨t1341, A240, H⟩ := H
        try dsimp only at H
        have A24 := Yt.mk A240
        clear A240
        by_cases c25 : t1341 = true
        rotate_left
        ·replace c25 := Bool.eq_false_iff.mpr c25
         subst c25
         rw [if_neg (show ¬ (false = true) by decide)] at H
         have H' := Yt.mk H
         clear H
         go_wp2_with (first | (go_at_call 88; (with_reducible refine (r1_Digits.calls kj12 x7_12 false _ A24.out).mono ?_); rintro e w' ⟨rfl, ⟨nd, rfl⟩⟩; (try first | exact ⟨rfl, _, World.drewN_drewN _ _ _⟩ | exact ⟨rfl, _, Eq.trans (World.drewN_drewN _ _ _) (congrArg (World.drewN _) (Nat.add_assoc _ _ _))⟩)))
         repeat (go_quiet (first | (go_at_call 88; (with_reducible refine (r1_Digits.calls kj12 x7_12 false _ A24.out).mono ?_); rintro e w' ⟨rfl, ⟨nd, rfl⟩⟩; (try first | exact ⟨rfl, _, World.drewN_drewN _ _ _⟩ | exact ⟨rfl, _, Eq.trans (World.drewN_drewN _ _ _) (congrArg (World.drewN _) (Nat.add_assoc _ _ _))⟩); clear A24)); try go_wp2_with (first | (go_at_call 88; (with_reducible refine (r1_Digits.calls kj12 x7_12 false _ A24.out).mono ?_); rintro e w' ⟨rfl, ⟨nd, rfl⟩⟩; (try first | exact ⟨rfl, _, World.drewN_drewN _ _ _⟩ | exact ⟨rfl, _, Eq.trans (World.drewN_drewN _ _ _) (congrArg (World.drewN _) (Nat.add_assoc _ _ _))⟩); clear A24)))
         go_meet
         case rel => exact ⟨_, (true), Qa5, H', ⟨by have := HJ1.out; have := HJ7.out; have := HJ12.out; first | omega | exact Nat.le_refl _⟩, Qa10⟩
        subst c25
        rw [if_pos rfl] at H
        replace H := Option.bind_eq_some_iff.mp H
        obtain ⟨t1342, A260, H⟩ := H
        try dsimp only at H
        have A26 := Yt.mk A260
        clear A260
        have H' := Yt.mk H
        clear H
        go_wp2_with (first | (go_at_call 88; (with_reducible refine (r1_Digits.calls kj12 x7_12 true _ A24.out).mono ?_); rintro e w' ⟨rfl, ⟨nd, rfl⟩⟩; (try first | exact ⟨rfl, _, World.drewN_drewN _ _ _⟩ | exact ⟨rfl, _, Eq.trans (World.drewN_drewN _ _ _) (congrArg (World.drewN _) (Nat.add_assoc _ _ _))⟩); clear A24) | (go_at_call 88; (with_reducible refine (r1_Digits.calls kj12 x8_12 t1342 _ A26.out).mono ?_); rintro e w' ⟨rfl, ⟨nd, rfl⟩⟩; (try first | exact ⟨rfl, _, World.drewN_drewN _ _ _⟩ | exact ⟨rfl, _, Eq.trans (World.drewN_drewN _ _ _) (congrArg (World.drewN _) (Nat.add_assoc _ _ _))⟩); clear A26))
        repeat (go_quiet (first | (go_at_call 88; (with_reducible refine (r1_Digits.calls kj12 x7_12 true _ A24.out).mono ?_); rintro e w' ⟨rfl, ⟨nd, rfl⟩⟩; (try first | exact ⟨rfl, _, World.drewN_drewN _ _ _⟩ | exact ⟨rfl, _, Eq.trans (World.drewN_drewN _ _ _) (congrArg (World.drewN _) (Nat.add_assoc _ _ _))⟩); clear A24) | (go_at_call 88; (with_reducible refine (r1_Digits.calls kj12 x8_12 t1342 _ A26.out).mono ?_); rintro e w' ⟨rfl, ⟨nd, rfl⟩⟩; (try first | exact ⟨rfl, _, World.drewN_drewN _ _ _⟩ | exact ⟨rfl, _, Eq.trans (World.drewN_drewN _ _ _) (congrArg (World.drewN _) (Nat.add_assoc _ _ _))⟩); clear A26)); try go_wp2_with (first | (go_at_call 88; (with_reducible refine (r1_Digits.calls kj12 x7_12 true _ A24.out).mono ?_); rintro e w' ⟨rfl, ⟨nd, rfl⟩⟩; (try first | exact ⟨rfl, _, World.drewN_drewN _ _ _⟩ | exact ⟨rfl, _, Eq.trans (World.drewN_drewN _ _ _) (congrArg (World.drewN _) (Nat.add_assoc _ _ _))⟩); clear A24) | (go_at_call 88; (with_reducible refine (r1_Digits.calls kj12 x8_12 t1342 _ A26.out).mono ?_); rintro e w' ⟨rfl, ⟨nd, rfl⟩⟩; (try first | exact ⟨rfl, _, World.drewN_drewN _ _ _⟩ | exact ⟨rfl, _, Eq.trans (World.drewN_drewN _ _ _) (congrArg (World.drewN _) (Nat.add_assoc _ _ _))⟩); clear A26)))
        go_meet
        case rel => exact ⟨_, (!t1342), Qa5, H', ⟨by have := HJ1.out; have := HJ7.out; have := HJ12.out; first | omega | exact Nat.le_refl _⟩, Qa10⟩
       case rest =>
        clear HC23
        try clear c1; try clear p1; try clear q1; try clear hx1; try clear qi1; try clear c2; try clear p2; try clear c3; try clear c3b0; try clear c3b1; try clear c4; try clear c4b0; try clear c4b1; try clear p5; try clear q5; try clear hx5; try clear qi5; try clear c6; try clear c6b0; try clear c6b1; try clear p6; try clear c7; try clear p7; try clear q7; try clear hx7; try clear qi7; try clear c9; try clear c10; try clear c10b0; try clear c10b1; try clear p11; try clear q11; try clear hx11; try clear qi11; try clear c12; try clear c12b0; try clear c12b1; try clear c14; try clear c14b0; try clear c14b1; try clear c15; try clear c15b0; try clear p16; try clear q16; try clear hx16; try clear c17; try clear c17b0; try clear c17b1; try clear c18; try clear c18b0; try clear c19; try clear c19b0; try clear c19b1; try clear c21; try clear c21b0; try clear c21b1; try clear c22; try clear c22b0; try clear c22b1; try clear c25; try clear p1; try clear p11; try clear p16; try clear p2; try clear p5; try clear p6; try clear p7; try clear q1; try clear q11; try clear q16; try clear q5; try clear q7
        obtain ⟨kq, x54_22, rfl, HA, HJ22, ⟨mc22, rfl⟩⟩ := hcut
        cases kq with
        | zero => exact absurd HA.out (by simp [r2_Cut.j4])
        | succ kj22 =>
         have H := HA.out
         clear HA
         simp only [r2_Cut.j4] at H
         by_cases c27 : x54_22 = true
         ·subst c27
          rw [if_pos rfl] at H
          simp only [Option.some.injEq, Prod.mk.injEq] at H
          obtain ⟨rfl, rfl, rfl, rfl⟩ := H
          go_wp2
          repeat (go_quiet (fail); try go_wp2)
          refine bodyPost_ret (results_list (rs := [.tmp 2, .tmp 3, .tmp 4, .tmp 5]) rfl (by simp) (.tmp (.tmp (.tmp (.tmp .nil))))) rfl ?_
          exact ⟨by first | rfl | (simp; done) | (simp [*]; done), Qa10⟩
         replace c27 := Bool.eq_false_iff.mpr c27
         subst c27
         rw [if_neg (show ¬ (false = true) by decide)] at H
         have H' := Yt.mk H
         clear H
         go_wp2
         repeat (go_quiet (fail); try go_wp2)
         go_loopg [10] kj22 (fun kq v10 w' => ∃ (x10_5 : Int), v10 = .int .i64 x10_5 ∧ Yt (r2_Cut.l1 kq x6_7 x7_12 x8_12 x10_5 = some (r1, r2, r3, r4)) ∧ Yt (kq ≤ kj22) ∧ Drawn0 w w')
         case atStart => exact ⟨(0), Qa5, H', ⟨Nat.le_refl _⟩, Qa10⟩
         case round =>
          clear H'
          try clear c1; try clear p1; try clear q1; try clear hx1; try clear qi1; try clear c2; try clear p2; try clear c3; try clear c3b0; try clear c3b1; try clear c4; try clear c4b0; try clear c4b1; try clear p5; try clear q5; try clear hx5; try clear qi5; try clear c6; try clear c6b0; try clear c6b1; try clear p6; try clear c7; try clear p7; try clear q7; try clear hx7; try clear qi7; try clear c9; try clear c10; try clear c10b0; try clear c10b1; try clear p11; try clear q11; try clear hx11; try clear qi11; try clear c12; try clear c12b0; try clear c12b1; try clear c14; try clear c14b0; try clear c14b1; try clear c15; try clear c15b0; try clear p16; try clear q16; try clear hx16; try clear c17; try clear c17b0; try clear c17b1; try clear c18; try clear c18b0; try clear c19; try clear c19b0; try clear c19b1; try clear c21; try clear c21b0; try clear c21b1; try clear c22; try clear c22b0; try clear c22b1; try clear c25; try clear c27; try clear p1; try clear p11; try clear p16; try clear p2; try clear p5; try clear p6; try clear p7; try clear q1; try clear q11; try clear q16; try clear q5; try clear q7
          obtain ⟨x10_5, rfl, HA, HK5, ⟨m5, rfl⟩⟩ := hrel
          cases gk with
          | zero => exact absurd HA.out (by simp [r2_Cut.l1])
          | succ k5 =>
           have H := HA.out
           clear HA
           simp only [r2_Cut.l1] at H
           by_cases c28 : x10_5 < (x8_12.size : Int)
           rotate_left
           ·rw [if_neg c28] at H
            have c28b0 : decide (x10_5 < (x8_12.size : Int)) = false := decide_eq_false c28
            clear c28
            simp only [Option.some.injEq, Prod.mk.injEq] at H
            obtain ⟨rfl, rfl, rfl, rfl⟩ := H
            go_wp2
            repeat (go_quiet (fail); try go_wp2)
            refine bodyPost_ret (results_list (rs := [.tmp 2, .tmp 3, .tmp 4, .tmp 5]) rfl (by simp) (.tmp (.tmp (.tmp (.tmp .nil))))) rfl ?_
            exact ⟨by first | rfl | (simp; done) | (simp [*]; done), Qa10⟩
           rw [if_pos c28] at H
           have c28b0 : decide (x10_5 < (x8_12.size : Int)) = true := decide_eq_true c28
           clear c28
           by_cases c29 : 0 ≤ x10_5
           rotate_left
           ·rw [if_neg c29] at H
            exact absurd H (by simp)
           rw [if_pos c29] at H
           have c29b0 : decide (0 ≤ x10_5) = true := decide_eq_true c29
           clear c29
           by_cases c31 : (bt x8_12 x10_5) = 48
           rotate_left
           ·rw [if_neg c31] at H
            have c31b0 : ((bt x8_12 x10_5) == 48) = false := beq_eq_false_iff_ne.mpr c31
            have c31b1 : ((bt x8_12 x10_5) != 48) = true := bne_iff_ne.mpr c31
            simp only [Option.some.injEq, Prod.mk.injEq] at H
            obtain ⟨rfl, rfl, rfl, rfl⟩ := H
            have p30 : 0 ≤ (x10_5 : Int) := Qd
            have q30 : x10_5 < (x8_12.size : Int) := Qd
            have hx30 := bt_at x8_12 x10_5
            replace p30 := eq_true p30
            replace q30 := eq_true q30
            go_wp2
            repeat (go_quiet (fail); try go_wp2)
            refine bodyPost_ret (results_list (rs := [.tmp 2, .tmp 3, .tmp 4, .tmp 5]) rfl (by simp) (.tmp (.tmp (.tmp (.tmp .nil))))) rfl ?_
            exact ⟨by first | rfl | (simp; done) | (simp [*]; done), Qa10⟩
           rw [if_pos c31] at H
           have c31b0 : ((bt x8_12 x10_5) == 48) = true := beq_iff_eq.mpr c31
           have c31b1 : ((bt x8_12 x10_5) != 48) = false := bne_eq_false_iff_eq.mpr c31
           clear c31
           have H' := Yt.mk H
           clear H
           have p30 : 0 ≤ (x10_5 : Int) := Qd
           have q30 : x10_5 < (x8_12.size : Int) := Qd
           have hx30 := bt_at x8_12 x10_5
           replace p30 := eq_true p30
           replace q30 := eq_true q30
           go_wp2
           repeat (go_quiet (fail); try go_wp2)
           go_roundg k5
           case measure => have := HJ1.out; have := HJ7.out; have := HJ12.out; have := HJ22.out; have := HK5.out; omega
           case rel => exact ⟨(wrap64 (x10_5 + 1)), Qa5, H', ⟨by have := HJ1.out; have := HJ7.out; have := HJ12.out; have := HJ22.out; have := HK5.out; omega⟩, Qa10⟩
mutual
def r1_Times.l0 : Nat → List Int → List Int → List Int → Int → Option (List Int)
 | 0, _, _, _, _ => none
 | k + 1, x5, x6, x7, x8 => if x8 < (x5.length : Int) then (r1_Times.l1 k x5 x6 x7 x8 0 0) else ((r1_Trim.f k x7).bind fun t418 => (some t418))
def r1_Times.l1 : Nat → List Int → List Int → List Int → Int → Int → Int → Option (List Int)
 | 0, _, _, _, _, _, _ => none
 | k + 1, x5, x6, x7, x8, x9, x10 => if x10 < (x6.length : Int) then (if 0 ≤ (wrap64 (x8 + x10)) then (if (wrap64 (x8 + x10)) < (x7.length : Int) then (if 0 ≤ x8 then (if x8 < (x5.length : Int) then (if 0 ≤ x10 then (r1_Times.l1 k x5 x6 (x7.set ((wrap64 (x8 + x10)) : Int).toNat ((Int.tmod (IntKind.u64.wrap (x9 + (IntKind.u64.wrap ((IntKind.u64.wrap (rd x7 (wrap64 (x8 + x10)))) + (IntKind.u64.wrap ((IntKind.u64.wrap (rd x5 x8)) * (IntKind.u64.wrap (rd x6 x10)))))))) 4294967296) % 4294967296)) x8 (IntKind.u64.wrap (Int.tdiv (IntKind.u64.wrap (x9 + (IntKind.u64.wrap ((IntKind.u64.wrap (rd x7 (wrap64 (x8 + x10)))) + (IntKind.u64.wrap ((IntKind.u64.wrap (rd x5 x8)) * (IntKind.u64.wrap (rd x6 x10)))))))) 4294967296)) (wrap64 (x10 + 1))) else (none)) else (none)) else (none)) else (none)) else (none)) else (if 0 ≤ (wrap64 (x8 + (x6.length : Int))) then (if (wrap64 (x8 + (x6.length : Int))) < (x7.length : Int) then (r1_Times.l0 k x5 x6 (x7.set ((wrap64 (x8 + (x6.length : Int))) : Int).toNat ((x9) % 4294967296)) (wrap64 (x8 + 1))) else (none)) else (none))
end
def r1_Times.f (k : Nat) (l0 : List Int) (l1 : List Int) : Option (List Int) := (r1_Trim.f k l0).bind fun t409 => ((r1_Trim.f k l1).bind fun t412 => (if 0 ≤ (wrap64 ((wrap64 ((t409.length : Int) + (t412.length : Int))) + 1)) then (if (wrap64 ((wrap64 ((t409.length : Int) + (t412.length : Int))) + 1) : Int).toNat ≤ 70368744177664 then (r1_Times.l0 k t409 t412 (List.replicate (wrap64 ((wrap64 ((t409.length : Int) + (t412.length : Int))) + 1) : Int).toNat 0) 0) else (none)) else (none)))
theorem r1_Times.calls (k : Nat) (A0 : Option Addr) (c0 : Nat) (l0 : List Int) (A1 : Option Addr) (c1 : Nat) (l1 : List Int) (r : List Int) (w : World) (hr0 : Kd.C (Kd.int .u32) w A0 l0.length l0) (hc0 : l0.length ≤ c0) (hr1 : Kd.C (Kd.int .u32) w A1 l1.length l1) (hc1 : l1.length ≤ c1) (h : r1_Times.f k l0 l1 = some r) :
  Calls Try.prog 24 #[.slice A0 l0.length c0, .slice A1 l1.length c1] w fun e w' => ∃ v0_ : Value, e = .returned (v0_) ∧ Kd.R (Kd.int .u32) 47 w' w.heap.size (fun _ => True) v0_ r ∧ Below w.heap.size w w' := by
 have HR0 := Yt.mk hr0
 have HC0 := Yt.mk hc0
 clear hr0 hc0
 have HR1 := Yt.mk hr1
 have HC1 := Yt.mk hc1
 clear hr1 hc1
 have HB := Yt.mk (Below.refl w.heap.size w)
 unfold r1_Times.f at h
 have H := h
 clear h
 replace H := Option.bind_eq_some_iff.mp H
 obtain ⟨t409, A30, H⟩ := H
 try dsimp only at H
 have A3 := Yt.mk A30
 clear A30
 replace H := Option.bind_eq_some_iff.mp H
 obtain ⟨t412, A40, H⟩ := H
 try dsimp only at H
 have A4 := Yt.mk A40
 clear A40
 obtain ⟨ji5, hji5⟩ : ∃ j_ : Int, (wrap64 ((wrap64 ((t409.length : Int) + (t412.length : Int))) + 1)) = j_ := ⟨_, rfl⟩
 replace H : (if 0 ≤ (ji5) then (if (ji5 : Int).toNat ≤ 70368744177664 then (r1_Times.l0 k t409 t412 (List.replicate (ji5 : Int).toNat 0) 0) else (none)) else (none)) = some r := by first | (rw [hji5] at H; exact H) | (simp only [hji5] at H ⊢; exact H)
 (try rw [hji5] at A3)
 (try rw [hji5] at A4)
 have hji5w : (IntKind.i64.wrap ((wrap64 ((t409.length : Int) + (t412.length : Int))) + 1)) = ji5 := (Yi _).trans hji5
 by_cases c6 : 0 ≤ (ji5)
 rotate_left
 ·rw [if_neg c6] at H
  exact absurd H (by simp)
 rw [if_pos c6] at H
 have c6b0 := eq_true c6
 have c6b1 : decide (0 ≤ (ji5)) = true := decide_eq_true c6
 clear c6
 by_cases c7 : (ji5 : Int).toNat ≤ 70368744177664
 rotate_left
 ·rw [if_neg c7] at H
  exact absurd H (by simp)
 rw [if_pos c7] at H
 have c7b0 := eq_true c7
 have c7b1 : decide ((ji5 : Int).toNat ≤ 70368744177664) = true := decide_eq_true c7
 clear c7
 obtain ⟨y415, hy415⟩ : ∃ y_ : List Int, y_ = (List.replicate (ji5 : Int).toNat 0) := ⟨_, rfl⟩
 replace H : (r1_Times.l0 k t409 t412 y415 0) = some r := Qh hy415 H
 have Ny415 := Yt.mk hy415
 clear hy415
 have H' := Yt.mk H
 clear H
 go_enter Try.func24, Try.ntmps24
 go_wp2_with (first | (go_at_call 46; (with_reducible refine (r1_Trim.calls k _ _ l0 t409 _ ?side1 ?side2 A3.out).mono ?_); (case side1 => exact Qe9 HR0.out); (case side2 => exact HC0.out); rintro e w8 ⟨v410, rfl, ho0, hb⟩; have HO411 := Yt.mk (Kd.Yb ho0 (Zk (Qa0))); replace HB := Yt.mk (Zm (Qa0) hb); (try clear hb); (try clear ho0); clear A3) | (go_at_call 46; (with_reducible refine (r1_Trim.calls k _ _ l1 t412 _ ?side1 ?side2 A4.out).mono ?_); (case side1 => exact Qe9 (Kd.Ys HR1.out HB.out)); (case side2 => exact HC1.out); rintro e w9 ⟨v413, rfl, ho0, hb⟩; have HO414 := Yt.mk (Kd.Yb (Kd.Ya ho0 (Kd.R_lt (Qr1 HO411.out))) (Zk (Qa0))); replace HO411 := Yt.mk (Kd.Yf (Qr1 HO411.out) (Kd.Zw ho0) hb); replace HB := Yt.mk (Zm (Qa0) hb); (try clear hb); (try clear ho0); obtain ⟨Ao10, co10, eo10⟩ := Kd.Zx HO411.out; subst eo10; obtain ⟨Ao11, co11, eo11⟩ := Kd.Zx HO414.out; subst eo11; clear A4) | ((with_reducible refine Yk (N := 21) rfl ?_); refine Kd.R_make (Kd.int .u32) _ 47 rfl (N := 21) rfl 22 _ _ rfl ji5 rfl rfl Try.underlying22 (.int .u32 0) 4 info47 rfl (by decide) (by omega) 0 (ok := fun _ => True) (okp := fun _ => True) rfl (fun _ hk => hk) trivial (Qd) (Nat.le_trans (Nat.mul_le_mul_right _ (Qd : ji5.toNat ≤ 70368744177664)) (by omega)) (Below.refl _ _) (Nat.le_refl _) ?_; intro v416 w12 ho13 hb hg_ hnew_; clear hg_ hnew_; (first | rw [← Ny415.out] at ho13 | (simp only [Int.reduceToNat] at ho13; rw [← Ny415.out] at ho13)); have HO417 := Yt.mk (Kd.Yb (Kd.Ya (Kd.Ya ho13 (Kd.R_lt (Qr1 HO411.out))) (Kd.R_lt (Qr1 HO414.out))) (Zk (Qa0))); replace HO411 := Yt.mk (Kd.Yf (Qr1 HO411.out) (Kd.Zw ho13) hb); replace HO414 := Yt.mk (Kd.Yf (Qr1 HO414.out) (Kd.Zw ho13) hb); replace HB := Yt.mk (Zm (Qa0) hb); clear hb ho13))
 repeat (go_quiet (first | (go_at_call 46; (with_reducible refine (r1_Trim.calls k _ _ l0 t409 _ ?side1 ?side2 A3.out).mono ?_); (case side1 => exact Qe9 HR0.out); (case side2 => exact HC0.out); rintro e w8 ⟨v410, rfl, ho0, hb⟩; have HO411 := Yt.mk (Kd.Yb ho0 (Zk (Qa0))); replace HB := Yt.mk (Zm (Qa0) hb); (try clear hb); (try clear ho0); clear A3) | (go_at_call 46; (with_reducible refine (r1_Trim.calls k _ _ l1 t412 _ ?side1 ?side2 A4.out).mono ?_); (case side1 => exact Qe9 (Kd.Ys HR1.out HB.out)); (case side2 => exact HC1.out); rintro e w9 ⟨v413, rfl, ho0, hb⟩; have HO414 := Yt.mk (Kd.Yb (Kd.Ya ho0 (Kd.R_lt (Qr1 HO411.out))) (Zk (Qa0))); replace HO411 := Yt.mk (Kd.Yf (Qr1 HO411.out) (Kd.Zw ho0) hb); replace HB := Yt.mk (Zm (Qa0) hb); (try clear hb); (try clear ho0); obtain ⟨Ao10, co10, eo10⟩ := Kd.Zx HO411.out; subst eo10; obtain ⟨Ao11, co11, eo11⟩ := Kd.Zx HO414.out; subst eo11; clear A4) | ((with_reducible refine Yk (N := 21) rfl ?_); refine Kd.R_make (Kd.int .u32) _ 47 rfl (N := 21) rfl 22 _ _ rfl ji5 rfl rfl Try.underlying22 (.int .u32 0) 4 info47 rfl (by decide) (by omega) 0 (ok := fun _ => True) (okp := fun _ => True) rfl (fun _ hk => hk) trivial (Qd) (Nat.le_trans (Nat.mul_le_mul_right _ (Qd : ji5.toNat ≤ 70368744177664)) (by omega)) (Below.refl _ _) (Nat.le_refl _) ?_; intro v416 w12 ho13 hb hg_ hnew_; clear hg_ hnew_; (first | rw [← Ny415.out] at ho13 | (simp only [Int.reduceToNat] at ho13; rw [← Ny415.out] at ho13)); have HO417 := Yt.mk (Kd.Yb (Kd.Ya (Kd.Ya ho13 (Kd.R_lt (Qr1 HO411.out))) (Kd.R_lt (Qr1 HO414.out))) (Zk (Qa0))); replace HO411 := Yt.mk (Kd.Yf (Qr1 HO411.out) (Kd.Zw ho13) hb); replace HO414 := Yt.mk (Kd.Yf (Qr1 HO414.out) (Kd.Zw ho13) hb); replace HB := Yt.mk (Zm (Qa0) hb); clear hb ho13)); try go_wp2_with (first | (go_at_call 46; (with_reducible refine (r1_Trim.calls k _ _ l0 t409 _ ?side1 ?side2 A3.out).mono ?_); (case side1 => exact Qe9 HR0.out); (case side2 => exact HC0.out); rintro e w8 ⟨v410, rfl, ho0, hb⟩; have HO411 := Yt.mk (Kd.Yb ho0 (Zk (Qa0))); replace HB := Yt.mk (Zm (Qa0) hb); (try clear hb); (try clear ho0); clear A3) | (go_at_call 46; (with_reducible refine (r1_Trim.calls k _ _ l1 t412 _ ?side1 ?side2 A4.out).mono ?_); (case side1 => exact Qe9 (Kd.Ys HR1.out HB.out)); (case side2 => exact HC1.out); rintro e w9 ⟨v413, rfl, ho0, hb⟩; have HO414 := Yt.mk (Kd.Yb (Kd.Ya ho0 (Kd.R_lt (Qr1 HO411.out))) (Zk (Qa0))); replace HO411 := Yt.mk (Kd.Yf (Qr1 HO411.out) (Kd.Zw ho0) hb); replace HB := Yt.mk (Zm (Qa0) hb); (try clear hb); (try clear ho0); obtain ⟨Ao10, co10, eo10⟩ := Kd.Zx HO411.out; subst eo10; obtain ⟨Ao11, co11, eo11⟩ := Kd.Zx HO414.out; subst eo11; clear A4) | ((with_reducible refine Yk (N := 21) rfl ?_); refine Kd.R_make (Kd.int .u32) _ 47 rfl (N := 21) rfl 22 _ _ rfl ji5 rfl rfl Try.underlying22 (.int .u32 0) 4 info47 rfl (by decide) (by omega) 0 (ok := fun _ => True) (okp := fun _ => True) rfl (fun _ hk => hk) trivial (Qd) (Nat.le_trans (Nat.mul_le_mul_right _ (Qd : ji5.toNat ≤ 70368744177664)) (by omega)) (Below.refl _ _) (Nat.le_refl _) ?_; intro v416 w12 ho13 hb hg_ hnew_; clear hg_ hnew_; (first | rw [← Ny415.out] at ho13 | (simp only [Int.reduceToNat] at ho13; rw [← Ny415.out] at ho13)); have HO417 := Yt.mk (Kd.Yb (Kd.Ya (Kd.Ya ho13 (Kd.R_lt (Qr1 HO411.out))) (Kd.R_lt (Qr1 HO414.out))) (Zk (Qa0))); replace HO411 := Yt.mk (Kd.Yf (Qr1 HO411.out) (Kd.Zw ho13) hb); replace HO414 := Yt.mk (Kd.Yf (Qr1 HO414.out) (Kd.Zw ho13) hb); replace HB := Yt.mk (Zm (Qa0) hb); clear hb ho13)))
 go_loopg [8] k (fun kq v8 w' => ∃ (x7_1 : List Int) (x8_1 : Int), v8 = .int .i64 x8_1 ∧ Yt (r1_Times.l0 kq t409 t412 x7_1 x8_1 = some r) ∧ Yt (kq ≤ k) ∧ Yt (Kd.R (Kd.int .u32) 47 w' w.heap.size (fun k_ => some k_ ≠ ((.slice Ao11 t412.length co11) : Value).ownBlock ∧ some k_ ≠ (v416 : Value).ownBlock) (.slice Ao10 t409.length co10) t409) ∧ Yt (Kd.R (Kd.int .u32) 47 w' w.heap.size (fun k_ => some k_ ≠ ((.slice Ao10 t409.length co10) : Value).ownBlock ∧ some k_ ≠ (v416 : Value).ownBlock) (.slice Ao11 t412.length co11) t412) ∧ Yt (Kd.R (Kd.int .u32) 47 w' w.heap.size (fun k_ => some k_ ≠ ((.slice Ao10 t409.length co10) : Value).ownBlock ∧ some k_ ≠ ((.slice Ao11 t412.length co11) : Value).ownBlock) v416 x7_1) ∧ Yt (Below w.heap.size w w'))
 case atStart => exact ⟨(y415), (0), Qa5, H', ⟨Nat.le_refl _⟩, ⟨by (with_reducible repeat (first | apply Kd.Zf | apply Kd.Ze | apply Kd.Zj)); exact Kd.Zv HO411.out (fun _ hk => ⟨hk.1.2, hk.2⟩)⟩, ⟨by (with_reducible repeat (first | apply Kd.Zf | apply Kd.Ze | apply Kd.Zj)); exact Kd.Zv HO414.out (fun _ hk => ⟨hk.1.2, hk.2⟩)⟩, ⟨by (with_reducible repeat (first | apply Kd.Zf | apply Kd.Ze | apply Kd.Zj)); exact Kd.Zv HO417.out (fun _ hk => ⟨hk.1.2, hk.2⟩)⟩, ⟨Qa0⟩⟩
 case round =>
  clear H'
  try clear c1; try clear c2; try clear p2; try clear c6; try clear c6b0; try clear c6b1; try clear p6; try clear c7; try clear c7b0; try clear c7b1
  obtain ⟨x7_1, x8_1, rfl, HA, HK1, HO_5, HO_6, HO_7, HB⟩ := hrel
  cases gk with
  | zero => exact absurd HA.out (by simp [r1_Times.l0])
  | succ k1 =>
   have H := HA.out
   clear HA
   simp only [r1_Times.l0] at H
   by_cases c14 : x8_1 < (t409.length : Int)
   rotate_left
   ·rw [if_neg c14] at H
    have c14b0 : decide (x8_1 < (t409.length : Int)) = false := decide_eq_false c14
    clear c14
    replace H := Option.bind_eq_some_iff.mp H
    obtain ⟨t418, A320, H⟩ := H
    replace H : (some t418) = some r := H
    have A32 := Yt.mk A320
    clear A320
    obtain rfl := Option.some.inj H
    obtain ⟨Ao33, co33, eo33⟩ := Kd.Zx HO_7.out
    subst eo33
    go_wp2_with (first | (go_at_call 46; (with_reducible refine (r1_Trim.calls k1 _ _ x7_1 t418 _ ?side1 ?side2 A32.out).mono ?_); (case side1 => exact Qe9 (Kd.Zs HO_7.out).2.2); (case side2 => exact (Kd.Zs HO_7.out).2.1); rintro e w34 ⟨v419, rfl, ho0, hb⟩; have HO420 := Yt.mk (Kd.Yb (Kd.Ya (Kd.Ya (Kd.Ya ho0 (Kd.R_lt (Qr1 HO_5.out))) (Kd.R_lt (Qr1 HO_6.out))) (Kd.R_lt (Qr1 HO_7.out))) (Zk (Qa0))); replace HO_5 := Yt.mk (Kd.Yf (Qr1 HO_5.out) (Kd.Zw ho0) hb); replace HO_6 := Yt.mk (Kd.Yf (Qr1 HO_6.out) (Kd.Zw ho0) hb); replace HO_7 := Yt.mk (Kd.Yf (Qr1 HO_7.out) (Kd.Zw ho0) hb); replace HB := Yt.mk (Zm (Qa0) hb); (try clear hb); (try clear ho0)))
    repeat (go_quiet (first | (go_at_call 46; (with_reducible refine (r1_Trim.calls k1 _ _ x7_1 t418 _ ?side1 ?side2 A32.out).mono ?_); (case side1 => exact Qe9 (Kd.Zs HO_7.out).2.2); (case side2 => exact (Kd.Zs HO_7.out).2.1); rintro e w34 ⟨v419, rfl, ho0, hb⟩; have HO420 := Yt.mk (Kd.Yb (Kd.Ya (Kd.Ya (Kd.Ya ho0 (Kd.R_lt (Qr1 HO_5.out))) (Kd.R_lt (Qr1 HO_6.out))) (Kd.R_lt (Qr1 HO_7.out))) (Zk (Qa0))); replace HO_5 := Yt.mk (Kd.Yf (Qr1 HO_5.out) (Kd.Zw ho0) hb); replace HO_6 := Yt.mk (Kd.Yf (Qr1 HO_6.out) (Kd.Zw ho0) hb); replace HO_7 := Yt.mk (Kd.Yf (Qr1 HO_7.out) (Kd.Zw ho0) hb); replace HB := Yt.mk (Zm (Qa0) hb); (try clear hb); (try clear ho0); clear A32)); try go_wp2_with (first | (go_at_call 46; (with_reducible refine (r1_Trim.calls k1 _ _ x7_1 t418 _ ?side1 ?side2 A32.out).mono ?_); (case side1 => exact Qe9 (Kd.Zs HO_7.out).2.2); (case side2 => exact (Kd.Zs HO_7.out).2.1); rintro e w34 ⟨v419, rfl, ho0, hb⟩; have HO420 := Yt.mk (Kd.Yb (Kd.Ya (Kd.Ya (Kd.Ya ho0 (Kd.R_lt (Qr1 HO_5.out))) (Kd.R_lt (Qr1 HO_6.out))) (Kd.R_lt (Qr1 HO_7.out))) (Zk (Qa0))); replace HO_5 := Yt.mk (Kd.Yf (Qr1 HO_5.out) (Kd.Zw ho0) hb); replace HO_6 := Yt.mk (Kd.Yf (Qr1 HO_6.out) (Kd.Zw ho0) hb); replace HO_7 := Yt.mk (Kd.Yf (Qr1 HO_7.out) (Kd.Zw ho0) hb); replace HB := Yt.mk (Zm (Qa0) hb); (try clear hb); (try clear ho0); clear A32)))
    go_ret
    exact ⟨_, by first | rfl | (simp [Zp, Zo] <;> rfl) | (simp only [← hji5]; first | rfl | (simp [Zp, Zo] <;> rfl)) | (simp [*, Zp, Zo] <;> rfl), by (with_reducible repeat (first | apply Kd.Zf | apply Kd.Ze | apply Kd.Zj)); exact Kd.Zv HO420.out (fun _ hk => trivial), Qa0⟩
   rw [if_pos c14] at H
   have c14b0 : decide (x8_1 < (t409.length : Int)) = true := decide_eq_true c14
   clear c14
   have H' := Yt.mk H
   clear H
   go_wp2
   repeat (go_quiet (fail); try go_wp2)
   go_loopg [9, 10] k1 (fun kq v9 v10 w' => ∃ (x7_2 : List Int) (x9_2 : Int) (x10_2 : Int), v9 = .int .u64 x9_2 ∧ v10 = .int .i64 x10_2 ∧ Yt (r1_Times.l1 kq t409 t412 x7_2 x8_1 x9_2 x10_2 = some r) ∧ Yt (kq ≤ k1) ∧ Yt (Kd.R (Kd.int .u32) 47 w' w.heap.size (fun k_ => some k_ ≠ ((.slice Ao11 t412.length co11) : Value).ownBlock ∧ some k_ ≠ (v416 : Value).ownBlock) (.slice Ao10 t409.length co10) t409) ∧ Yt (Kd.R (Kd.int .u32) 47 w' w.heap.size (fun k_ => some k_ ≠ ((.slice Ao10 t409.length co10) : Value).ownBlock ∧ some k_ ≠ (v416 : Value).ownBlock) (.slice Ao11 t412.length co11) t412) ∧ Yt (Kd.R (Kd.int .u32) 47 w' w.heap.size (fun k_ => some k_ ≠ ((.slice Ao10 t409.length co10) : Value).ownBlock ∧ some k_ ≠ ((.slice Ao11 t412.length co11) : Value).ownBlock) v416 x7_2) ∧ Yt (Below w.heap.size w w'))
   case atStart => exact ⟨(x7_1), (0), (0), Qa5, Qa5, H', ⟨Nat.le_refl _⟩, ⟨Qr1 HO_5.out⟩, ⟨Qr1 HO_6.out⟩, ⟨Qr1 HO_7.out⟩, ⟨Qa0⟩⟩
   case round =>
    clear H'
    try clear c1; try clear c2; try clear p2; try clear c6; try clear c6b0; try clear c6b1; try clear p6; try clear c7; try clear c7b0; try clear c7b1; try clear c14; try clear c14b0; try clear p2; try clear p6
    obtain ⟨x7_2, x9_2, x10_2, rfl, rfl, HA, HK2, HO_5, HO_6, HO_7, HB⟩ := hrel
    cases gk with
    | zero => exact absurd HA.out (by simp [r1_Times.l1])
    | succ k2 =>
     have H := HA.out
     clear HA
     simp only [r1_Times.l1] at H
     by_cases c15 : x10_2 < (t412.length : Int)
     rotate_left
     ·rw [if_neg c15] at H
      have c15b0 : decide (x10_2 < (t412.length : Int)) = false := decide_eq_false c15
      clear c15
      obtain ⟨ji26, hji26⟩ : ∃ j_ : Int, (wrap64 (x8_1 + (t412.length : Int))) = j_ := ⟨_, rfl⟩
      replace H : (if 0 ≤ (ji26) then (if (ji26) < (x7_2.length : Int) then (r1_Times.l0 k2 t409 t412 (x7_2.set ((ji26) : Int).toNat ((x9_2) % 4294967296)) (wrap64 (x8_1 + 1))) else (none)) else (none)) = some r := by first | (rw [hji26] at H; exact H) | (simp only [hji26] at H ⊢; exact H)
      have hji26w : (IntKind.i64.wrap (x8_1 + (t412.length : Int))) = ji26 := (Yi _).trans hji26
      by_cases c27 : 0 ≤ (ji26)
      rotate_left
      ·rw [if_neg c27] at H
       exact absurd H (by simp)
      rw [if_pos c27] at H
      have c27b0 : decide (0 ≤ (ji26)) = true := decide_eq_true c27
      clear c27
      by_cases c28 : (ji26) < (x7_2.length : Int)
      rotate_left
      ·rw [if_neg c28] at H
       exact absurd H (by simp)
      rw [if_pos c28] at H
      have c28b0 : decide ((ji26) < (x7_2.length : Int)) = true := decide_eq_true c28
      clear c28
      obtain ⟨y425, hy425⟩ : ∃ y_ : List Int, y_ = (x7_2.set ((ji26) : Int).toNat ((x9_2) % 4294967296)) := ⟨_, rfl⟩
      replace H : (r1_Times.l0 k2 t409 t412 y425 (wrap64 (x8_1 + 1))) = some r := Qh hy425 H
      have Ny425 := Yt.mk hy425
      clear hy425
      have H' := Yt.mk H
      clear H
      have p29 : 0 ≤ ((ji26) : Int) := Qd
      have q29 : ((ji26) : Int) < ((x7_2.length : Int) : Int) := Qd
      obtain ⟨go29, co29, eo29, gb29, gl29, cl29, HG29⟩ := Kd.R_form HO_7.out (by omega)
      (first | cases eo29 | (injection eo29 with ea_ en_ ec_; (first | subst ea_ | (injection ea_ with ea_; subst ea_)); subst ec_; clear en_))
      have GB29 := Yt.mk gb29
      have GG29 := Yt.mk HG29
      clear gb29 gl29 HG29
      obtain ⟨hx29_0, hf29_0⟩ := Kd.R_celln 0 HO_7.out ((ji26) : Int) p29 q29
      replace p29 := eq_true p29
      replace q29 := eq_true q29
      obtain ⟨hy30_, hz30_⟩ := Kd.R_celln 0 HO_7.out ((ji26) : Int) (Qd) (Qd)
      have HP30 := Kd.R_putg HO_7.out ((ji26) : Int) ((x9_2) % 4294967296)
      go_wp2_with (first | ((with_reducible refine gate_store (t := 47) (p := 72) rfl ?_); (try (rw [drewN_self wr]; generalize hq_ : World.drewN wr _ = wr; have n0_ := Yt.mk (Kd.R_at hq_ HO_5.out); have n1_ := Yt.mk (Kd.R_at hq_ HO_6.out); have n2_ := Yt.mk (Kd.R_at hq_ HO_7.out); have n3_ := Yt.mk (below_at hq_ HB.out); clear hq_ HO_5 HO_6 HO_7 HB; have HO_5 := n0_; have HO_6 := n1_; have HO_7 := n2_; have HB := n3_; clear n0_ n1_ n2_ n3_; (try (obtain ⟨hy30_, hz30_⟩ := Kd.R_celln 0 HO_7.out ((ji26) : Int) (Qd) (Qd))); (try (have HP30 := Kd.R_putg HO_7.out ((ji26) : Int) ((x9_2) % 4294967296))))); refine store_event (t := 47) (p := 72) (v := ?vo_w31) (w1 := (wr.setCell ⟨go29, ((ji26) : Int).toNat, none⟩ (.int .u32 ((x9_2) % 4294967296)))) ?hg ?ho ?hn ?hr ?_; (case ho => rfl); (case hg => rfl); (case hn => rfl); (case hr => exact Qa8); intro w31 hw; have hg : wr.grownBy w31 (some go29) := (by rw [hw]; exact HP30.2); have hp_ : Kd.R (Kd.int .u32) 47 w31 w.heap.size (fun k_ => some k_ ≠ (.slice Ao10 t409.length co10 : Value).ownBlock ∧ some k_ ≠ (.slice Ao11 t412.length co11 : Value).ownBlock) (.slice (some ⟨go29, 0, none⟩) x7_2.length co29) y425 := (by rw [hw, Ny425.out]; exact HP30.1); clear HP30; replace HO_5 := Yt.mk (Kd.R_after (v := (.slice (some ⟨go29, 0, none⟩) x7_2.length co29)) (v1 := (.slice (some ⟨go29, 0, none⟩) x7_2.length co29)) (ok := (fun k_ => some k_ ≠ (.slice Ao11 t412.length co11 : Value).ownBlock)) (Qr1 HO_5.out) hg (.inl rfl)); replace HO_6 := Yt.mk (Kd.R_after (v := (.slice (some ⟨go29, 0, none⟩) x7_2.length co29)) (v1 := (.slice (some ⟨go29, 0, none⟩) x7_2.length co29)) (ok := (fun k_ => some k_ ≠ (.slice Ao10 t409.length co10 : Value).ownBlock)) (Qr1 HO_6.out) hg (.inl rfl)); replace HO_7 := Yt.mk (hp_); replace HB := Yt.mk ((by rw [hw]; exact Zd (HB.out) GB29.out : Below w.heap.size w w31)); clear hg hw hp_))
      repeat (go_quiet (first | ((with_reducible refine gate_store (t := 47) (p := 72) rfl ?_); (try (rw [drewN_self wr]; generalize hq_ : World.drewN wr _ = wr; have n0_ := Yt.mk (Kd.R_at hq_ HO_5.out); have n1_ := Yt.mk (Kd.R_at hq_ HO_6.out); have n2_ := Yt.mk (Kd.R_at hq_ HO_7.out); have n3_ := Yt.mk (below_at hq_ HB.out); clear hq_ HO_5 HO_6 HO_7 HB; have HO_5 := n0_; have HO_6 := n1_; have HO_7 := n2_; have HB := n3_; clear n0_ n1_ n2_ n3_; (try (obtain ⟨hy30_, hz30_⟩ := Kd.R_celln 0 HO_7.out ((ji26) : Int) (Qd) (Qd))); (try (have HP30 := Kd.R_putg HO_7.out ((ji26) : Int) ((x9_2) % 4294967296))))); refine store_event (t := 47) (p := 72) (v := ?vo_w31) (w1 := (wr.setCell ⟨go29, ((ji26) : Int).toNat, none⟩ (.int .u32 ((x9_2) % 4294967296)))) ?hg ?ho ?hn ?hr ?_; (case ho => rfl); (case hg => rfl); (case hn => rfl); (case hr => exact Qa8); intro w31 hw; have hg : wr.grownBy w31 (some go29) := (by rw [hw]; exact HP30.2); have hp_ : Kd.R (Kd.int .u32) 47 w31 w.heap.size (fun k_ => some k_ ≠ (.slice Ao10 t409.length co10 : Value).ownBlock ∧ some k_ ≠ (.slice Ao11 t412.length co11 : Value).ownBlock) (.slice (some ⟨go29, 0, none⟩) x7_2.length co29) y425 := (by rw [hw, Ny425.out]; exact HP30.1); clear HP30; replace HO_5 := Yt.mk (Kd.R_after (v := (.slice (some ⟨go29, 0, none⟩) x7_2.length co29)) (v1 := (.slice (some ⟨go29, 0, none⟩) x7_2.length co29)) (ok := (fun k_ => some k_ ≠ (.slice Ao11 t412.length co11 : Value).ownBlock)) (Qr1 HO_5.out) hg (.inl rfl)); replace HO_6 := Yt.mk (Kd.R_after (v := (.slice (some ⟨go29, 0, none⟩) x7_2.length co29)) (v1 := (.slice (some ⟨go29, 0, none⟩) x7_2.length co29)) (ok := (fun k_ => some k_ ≠ (.slice Ao10 t409.length co10 : Value).ownBlock)) (Qr1 HO_6.out) hg (.inl rfl)); replace HO_7 := Yt.mk (hp_); replace HB := Yt.mk ((by rw [hw]; exact Zd (HB.out) GB29.out : Below w.heap.size w w31)); clear hg hw hp_)); try go_wp2_with (first | ((with_reducible refine gate_store (t := 47) (p := 72) rfl ?_); (try (rw [drewN_self wr]; generalize hq_ : World.drewN wr _ = wr; have n0_ := Yt.mk (Kd.R_at hq_ HO_5.out); have n1_ := Yt.mk (Kd.R_at hq_ HO_6.out); have n2_ := Yt.mk (Kd.R_at hq_ HO_7.out); have n3_ := Yt.mk (below_at hq_ HB.out); clear hq_ HO_5 HO_6 HO_7 HB; have HO_5 := n0_; have HO_6 := n1_; have HO_7 := n2_; have HB := n3_; clear n0_ n1_ n2_ n3_; (try (obtain ⟨hy30_, hz30_⟩ := Kd.R_celln 0 HO_7.out ((ji26) : Int) (Qd) (Qd))); (try (have HP30 := Kd.R_putg HO_7.out ((ji26) : Int) ((x9_2) % 4294967296))))); refine store_event (t := 47) (p := 72) (v := ?vo_w31) (w1 := (wr.setCell ⟨go29, ((ji26) : Int).toNat, none⟩ (.int .u32 ((x9_2) % 4294967296)))) ?hg ?ho ?hn ?hr ?_; (case ho => rfl); (case hg => rfl); (case hn => rfl); (case hr => exact Qa8); intro w31 hw; have hg : wr.grownBy w31 (some go29) := (by rw [hw]; exact HP30.2); have hp_ : Kd.R (Kd.int .u32) 47 w31 w.heap.size (fun k_ => some k_ ≠ (.slice Ao10 t409.length co10 : Value).ownBlock ∧ some k_ ≠ (.slice Ao11 t412.length co11 : Value).ownBlock) (.slice (some ⟨go29, 0, none⟩) x7_2.length co29) y425 := (by rw [hw, Ny425.out]; exact HP30.1); clear HP30; replace HO_5 := Yt.mk (Kd.R_after (v := (.slice (some ⟨go29, 0, none⟩) x7_2.length co29)) (v1 := (.slice (some ⟨go29, 0, none⟩) x7_2.length co29)) (ok := (fun k_ => some k_ ≠ (.slice Ao11 t412.length co11 : Value).ownBlock)) (Qr1 HO_5.out) hg (.inl rfl)); replace HO_6 := Yt.mk (Kd.R_after (v := (.slice (some ⟨go29, 0, none⟩) x7_2.length co29)) (v1 := (.slice (some ⟨go29, 0, none⟩) x7_2.length co29)) (ok := (fun k_ => some k_ ≠ (.slice Ao10 t409.length co10 : Value).ownBlock)) (Qr1 HO_6.out) hg (.inl rfl)); replace HO_7 := Yt.mk (hp_); replace HB := Yt.mk ((by rw [hw]; exact Zd (HB.out) GB29.out : Below w.heap.size w w31)); clear hg hw hp_)))
      go_roundg k2
      case measure => have := HK1.out; have := HK2.out; omega
      case rel => exact ⟨(y425), (wrap64 (x8_1 + 1)), Qa5, H', ⟨by have := HK1.out; have := HK2.out; omega⟩, ⟨Qr1 HO_5.out⟩, ⟨Qr1 HO_6.out⟩, ⟨Qr1 HO_7.out⟩, ⟨Qa0⟩⟩
     rw [if_pos c15] at H
     have c15b0 : decide (x10_2 < (t412.length : Int)) = true := decide_eq_true c15
     clear c15
     obtain ⟨ji16, hji16⟩ : ∃ j_ : Int, (wrap64 (x8_1 + x10_2)) = j_ := ⟨_, rfl⟩
     replace H : (if 0 ≤ (ji16) then (if (ji16) < (x7_2.length : Int) then (if 0 ≤ x8_1 then (if x8_1 < (t409.length : Int) then (if 0 ≤ x10_2 then (r1_Times.l1 k2 t409 t412 (x7_2.set ((ji16) : Int).toNat ((Int.tmod (IntKind.u64.wrap (x9_2 + (IntKind.u64.wrap ((IntKind.u64.wrap (rd x7_2 (ji16))) + (IntKind.u64.wrap ((IntKind.u64.wrap (rd t409 x8_1)) * (IntKind.u64.wrap (rd t412 x10_2)))))))) 4294967296) % 4294967296)) x8_1 (IntKind.u64.wrap (Int.tdiv (IntKind.u64.wrap (x9_2 + (IntKind.u64.wrap ((IntKind.u64.wrap (rd x7_2 (ji16))) + (IntKind.u64.wrap ((IntKind.u64.wrap (rd t409 x8_1)) * (IntKind.u64.wrap (rd t412 x10_2)))))))) 4294967296)) (wrap64 (x10_2 + 1))) else (none)) else (none)) else (none)) else (none)) else (none)) = some r := by first | (rw [hji16] at H; exact H) | (simp only [hji16] at H ⊢; exact H)
     have hji16w : (IntKind.i64.wrap (x8_1 + x10_2)) = ji16 := (Yi _).trans hji16
     by_cases c17 : 0 ≤ (ji16)
     rotate_left
     ·rw [if_neg c17] at H
      exact absurd H (by simp)
     rw [if_pos c17] at H
     have c17b0 : decide (0 ≤ (ji16)) = true := decide_eq_true c17
     clear c17
     by_cases c18 : (ji16) < (x7_2.length : Int)
     rotate_left
     ·rw [if_neg c18] at H
      exact absurd H (by simp)
     rw [if_pos c18] at H
     have c18b0 : decide ((ji16) < (x7_2.length : Int)) = true := decide_eq_true c18
     clear c18
     by_cases c19 : 0 ≤ x8_1
     rotate_left
     ·rw [if_neg c19] at H
      exact absurd H (by simp)
     rw [if_pos c19] at H
     have c19b0 : decide (0 ≤ x8_1) = true := decide_eq_true c19
     clear c19
     by_cases c20 : x8_1 < (t409.length : Int)
     rotate_left
     ·rw [if_neg c20] at H
      exact absurd H (by simp)
     rw [if_pos c20] at H
     have c20b0 : decide (x8_1 < (t409.length : Int)) = true := decide_eq_true c20
     clear c20
     by_cases c21 : 0 ≤ x10_2
     rotate_left
     ·rw [if_neg c21] at H
      exact absurd H (by simp)
     rw [if_pos c21] at H
     have c21b0 : decide (0 ≤ x10_2) = true := decide_eq_true c21
     clear c21
     obtain ⟨y424, hy424⟩ : ∃ y_ : List Int, y_ = (x7_2.set ((ji16) : Int).toNat ((Int.tmod (IntKind.u64.wrap (x9_2 + (IntKind.u64.wrap ((IntKind.u64.wrap (rd x7_2 (ji16))) + (IntKind.u64.wrap ((IntKind.u64.wrap (rd t409 x8_1)) * (IntKind.u64.wrap (rd t412 x10_2)))))))) 4294967296) % 4294967296)) := ⟨_, rfl⟩
     replace H : (r1_Times.l1 k2 t409 t412 y424 x8_1 (IntKind.u64.wrap (Int.tdiv (IntKind.u64.wrap (x9_2 + (IntKind.u64.wrap ((IntKind.u64.wrap (rd x7_2 (ji16))) + (IntKind.u64.wrap ((IntKind.u64.wrap (rd t409 x8_1)) * (IntKind.u64.wrap (rd t412 x10_2)))))))) 4294967296)) (wrap64 (x10_2 + 1))) = some r := Qh hy424 H
     have Ny424 := Yt.mk hy424
     clear hy424
     have H' := Yt.mk H
     clear H
     obtain ⟨Ao23, co23, eo23⟩ := Kd.Zx HO_7.out
     subst eo23
     have p421 : 0 ≤ ((ji16) : Int) := Qd
     have q421 : (ji16) < (x7_2.length : Int) := Qd
     obtain ⟨ad421, e421, hx421_0⟩ := Kd.at_int (Kd.Zs HO_7.out).2.2 (ji16) p421 q421
     cases e421
     replace p421 := eq_true p421
     replace q421 := eq_true q421
     have p422 : 0 ≤ (x8_1 : Int) := Qd
     have q422 : x8_1 < (t409.length : Int) := Qd
     obtain ⟨ad422, e422, hx422_0⟩ := Kd.at_int (Kd.Zs HO_5.out).2.2 x8_1 p422 q422
     cases e422
     replace p422 := eq_true p422
     replace q422 := eq_true q422
     have p423 : 0 ≤ (x10_2 : Int) := Qd
     have q423 : x10_2 < (t412.length : Int) := Qd
     obtain ⟨ad423, e423, hx423_0⟩ := Kd.at_int (Kd.Zs HO_6.out).2.2 x10_2 p423 q423
     cases e423
     replace p423 := eq_true p423
     replace q423 := eq_true q423
     have p22 : 0 ≤ ((ji16) : Int) := Qd
     have q22 : ((ji16) : Int) < ((x7_2.length : Int) : Int) := Qd
     obtain ⟨go22, co22, eo22, gb22, gl22, cl22, HG22⟩ := Kd.R_form HO_7.out (by omega)
     (first | cases eo22 | (injection eo22 with ea_ en_ ec_; (first | subst ea_ | (injection ea_ with ea_; subst ea_)); subst ec_; clear en_))
     have GB22 := Yt.mk gb22
     have GG22 := Yt.mk HG22
     clear gb22 gl22 HG22
     (first | simp only [add_plain] at hx421_0 | skip)
     obtain ⟨hx22_0, hf22_0⟩ := Kd.R_celln 0 HO_7.out ((ji16) : Int) p22 q22
     replace p22 := eq_true p22
     replace q22 := eq_true q22
     obtain ⟨hy24_, hz24_⟩ := Kd.R_celln 0 HO_7.out ((ji16) : Int) (Qd) (Qd)
     have HP24 := Kd.R_putg HO_7.out ((ji16) : Int) ((Int.tmod (IntKind.u64.wrap (x9_2 + (IntKind.u64.wrap ((IntKind.u64.wrap (rd x7_2 (ji16))) + (IntKind.u64.wrap ((IntKind.u64.wrap (rd t409 x8_1)) * (IntKind.u64.wrap (rd t412 x10_2)))))))) 4294967296) % 4294967296)
     go_wp2_with (first | ((with_reducible refine gate_store (t := 47) (p := 62) rfl ?_); (try (rw [drewN_self wr]; generalize hq_ : World.drewN wr _ = wr; have n0_ := Yt.mk (Kd.R_at hq_ HO_5.out); have n1_ := Yt.mk (Kd.R_at hq_ HO_6.out); have n2_ := Yt.mk (Kd.R_at hq_ HO_7.out); have n3_ := Yt.mk (below_at hq_ HB.out); clear hq_ HO_5 HO_6 HO_7 HB; have HO_5 := n0_; have HO_6 := n1_; have HO_7 := n2_; have HB := n3_; clear n0_ n1_ n2_ n3_; (try (obtain ⟨hy24_, hz24_⟩ := Kd.R_celln 0 HO_7.out ((ji16) : Int) (Qd) (Qd))); (try (have HP24 := Kd.R_putg HO_7.out ((ji16) : Int) ((Int.tmod (IntKind.u64.wrap (x9_2 + (IntKind.u64.wrap ((IntKind.u64.wrap (rd x7_2 (ji16))) + (IntKind.u64.wrap ((IntKind.u64.wrap (rd t409 x8_1)) * (IntKind.u64.wrap (rd t412 x10_2)))))))) 4294967296) % 4294967296))))); refine store_event (t := 47) (p := 62) (v := ?vo_w25) (w1 := (wr.setCell ⟨go22, ((ji16) : Int).toNat, none⟩ (.int .u32 ((Int.tmod (IntKind.u64.wrap (x9_2 + (IntKind.u64.wrap ((IntKind.u64.wrap (rd x7_2 (ji16))) + (IntKind.u64.wrap ((IntKind.u64.wrap (rd t409 x8_1)) * (IntKind.u64.wrap (rd t412 x10_2)))))))) 4294967296) % 4294967296)))) ?hg ?ho ?hn ?hr ?_; (case ho => rfl); (case hg => rfl); (case hn => rfl); (case hr => exact Qa8); intro w25 hw; have hg : wr.grownBy w25 (some go22) := (by rw [hw]; exact HP24.2); have hp_ : Kd.R (Kd.int .u32) 47 w25 w.heap.size (fun k_ => some k_ ≠ (.slice (some ad422) t409.length co10 : Value).ownBlock ∧ some k_ ≠ (.slice (some ad423) t412.length co11 : Value).ownBlock) (.slice (some ⟨go22, 0, none⟩) x7_2.length co23) y424 := (by rw [hw, Ny424.out]; exact HP24.1); clear HP24; replace HO_5 := Yt.mk (Kd.R_after (v := (.slice (some ⟨go22, 0, none⟩) x7_2.length co23)) (v1 := (.slice (some ⟨go22, 0, none⟩) x7_2.length co23)) (ok := (fun k_ => some k_ ≠ (.slice (some ad423) t412.length co11 : Value).ownBlock)) (Qr1 HO_5.out) hg (.inl rfl)); replace HO_6 := Yt.mk (Kd.R_after (v := (.slice (some ⟨go22, 0, none⟩) x7_2.length co23)) (v1 := (.slice (some ⟨go22, 0, none⟩) x7_2.length co23)) (ok := (fun k_ => some k_ ≠ (.slice (some ad422) t409.length co10 : Value).ownBlock)) (Qr1 HO_6.out) hg (.inl rfl)); replace HO_7 := Yt.mk (hp_); replace HB := Yt.mk ((by rw [hw]; exact Zd (HB.out) GB22.out : Below w.heap.size w w25)); clear hg hw hp_))
     repeat (go_quiet (first | ((with_reducible refine gate_store (t := 47) (p := 62) rfl ?_); (try (rw [drewN_self wr]; generalize hq_ : World.drewN wr _ = wr; have n0_ := Yt.mk (Kd.R_at hq_ HO_5.out); have n1_ := Yt.mk (Kd.R_at hq_ HO_6.out); have n2_ := Yt.mk (Kd.R_at hq_ HO_7.out); have n3_ := Yt.mk (below_at hq_ HB.out); clear hq_ HO_5 HO_6 HO_7 HB; have HO_5 := n0_; have HO_6 := n1_; have HO_7 := n2_; have HB := n3_; clear n0_ n1_ n2_ n3_; (try (obtain ⟨hy24_, hz24_⟩ := Kd.R_celln 0 HO_7.out ((ji16) : Int) (Qd) (Qd))); (try (have HP24 := Kd.R_putg HO_7.out ((ji16) : Int) ((Int.tmod (IntKind.u64.wrap (x9_2 + (IntKind.u64.wrap ((IntKind.u64.wrap (rd x7_2 (ji16))) + (IntKind.u64.wrap ((IntKind.u64.wrap (rd t409 x8_1)) * (IntKind.u64.wrap (rd t412 x10_2)))))))) 4294967296) % 4294967296))))); refine store_event (t := 47) (p := 62) (v := ?vo_w25) (w1 := (wr.setCell ⟨go22, ((ji16) : Int).toNat, none⟩ (.int .u32 ((Int.tmod (IntKind.u64.wrap (x9_2 + (IntKind.u64.wrap ((IntKind.u64.wrap (rd x7_2 (ji16))) + (IntKind.u64.wrap ((IntKind.u64.wrap (rd t409 x8_1)) * (IntKind.u64.wrap (rd t412 x10_2)))))))) 4294967296) % 4294967296)))) ?hg ?ho ?hn ?hr ?_; (case ho => rfl); (case hg => rfl); (case hn => rfl); (case hr => exact Qa8); intro w25 hw; have hg : wr.grownBy w25 (some go22) := (by rw [hw]; exact HP24.2); have hp_ : Kd.R (Kd.int .u32) 47 w25 w.heap.size (fun k_ => some k_ ≠ (.slice (some ad422) t409.length co10 : Value).ownBlock ∧ some k_ ≠ (.slice (some ad423) t412.length co11 : Value).ownBlock) (.slice (some ⟨go22, 0, none⟩) x7_2.length co23) y424 := (by rw [hw, Ny424.out]; exact HP24.1); clear HP24; replace HO_5 := Yt.mk (Kd.R_after (v := (.slice (some ⟨go22, 0, none⟩) x7_2.length co23)) (v1 := (.slice (some ⟨go22, 0, none⟩) x7_2.length co23)) (ok := (fun k_ => some k_ ≠ (.slice (some ad423) t412.length co11 : Value).ownBlock)) (Qr1 HO_5.out) hg (.inl rfl)); replace HO_6 := Yt.mk (Kd.R_after (v := (.slice (some ⟨go22, 0, none⟩) x7_2.length co23)) (v1 := (.slice (some ⟨go22, 0, none⟩) x7_2.length co23)) (ok := (fun k_ => some k_ ≠ (.slice (some ad422) t409.length co10 : Value).ownBlock)) (Qr1 HO_6.out) hg (.inl rfl)); replace HO_7 := Yt.mk (hp_); replace HB := Yt.mk ((by rw [hw]; exact Zd (HB.out) GB22.out : Below w.heap.size w w25)); clear hg hw hp_)); try go_wp2_with (first | ((with_reducible refine gate_store (t := 47) (p := 62) rfl ?_); (try (rw [drewN_self wr]; generalize hq_ : World.drewN wr _ = wr; have n0_ := Yt.mk (Kd.R_at hq_ HO_5.out); have n1_ := Yt.mk (Kd.R_at hq_ HO_6.out); have n2_ := Yt.mk (Kd.R_at hq_ HO_7.out); have n3_ := Yt.mk (below_at hq_ HB.out); clear hq_ HO_5 HO_6 HO_7 HB; have HO_5 := n0_; have HO_6 := n1_; have HO_7 := n2_; have HB := n3_; clear n0_ n1_ n2_ n3_; (try (obtain ⟨hy24_, hz24_⟩ := Kd.R_celln 0 HO_7.out ((ji16) : Int) (Qd) (Qd))); (try (have HP24 := Kd.R_putg HO_7.out ((ji16) : Int) ((Int.tmod (IntKind.u64.wrap (x9_2 + (IntKind.u64.wrap ((IntKind.u64.wrap (rd x7_2 (ji16))) + (IntKind.u64.wrap ((IntKind.u64.wrap (rd t409 x8_1)) * (IntKind.u64.wrap (rd t412 x10_2)))))))) 4294967296) % 4294967296))))); refine store_event (t := 47) (p := 62) (v := ?vo_w25) (w1 := (wr.setCell ⟨go22, ((ji16) : Int).toNat, none⟩ (.int .u32 ((Int.tmod (IntKind.u64.wrap (x9_2 + (IntKind.u64.wrap ((IntKind.u64.wrap (rd x7_2 (ji16))) + (IntKind.u64.wrap ((IntKind.u64.wrap (rd t409 x8_1)) * (IntKind.u64.wrap (rd t412 x10_2)))))))) 4294967296) % 4294967296)))) ?hg ?ho ?hn ?hr ?_; (case ho => rfl); (case hg => rfl); (case hn => rfl); (case hr => exact Qa8); intro w25 hw; have hg : wr.grownBy w25 (some go22) := (by rw [hw]; exact HP24.2); have hp_ : Kd.R (Kd.int .u32) 47 w25 w.heap.size (fun k_ => some k_ ≠ (.slice (some ad422) t409.length co10 : Value).ownBlock ∧ some k_ ≠ (.slice (some ad423) t412.length co11 : Value).ownBlock) (.slice (some ⟨go22, 0, none⟩) x7_2.length co23) y424 := (by rw [hw, Ny424.out]; exact HP24.1); clear HP24; replace HO_5 := Yt.mk (Kd.R_after (v := (.slice (some ⟨go22, 0, none⟩) x7_2.length co23)) (v1 := (.slice (some ⟨go22, 0, none⟩) x7_2.length co23)) (ok := (fun k_ => some k_ ≠ (.slice (some ad423) t412.length co11 : Value).ownBlock)) (Qr1 HO_5.out) hg (.inl rfl)); replace HO_6 := Yt.mk (Kd.R_after (v := (.slice (some ⟨go22, 0, none⟩) x7_2.length co23)) (v1 := (.slice (some ⟨go22, 0, none⟩) x7_2.length co23)) (ok := (fun k_ => some k_ ≠ (.slice (some ad422) t409.length co10 : Value).ownBlock)) (Qr1 HO_6.out) hg (.inl rfl)); replace HO_7 := Yt.mk (hp_); replace HB := Yt.mk ((by rw [hw]; exact Zd (HB.out) GB22.out : Below w.heap.size w w25)); clear hg hw hp_)))
     go_roundg k2
     case measure => have := HK1.out; have := HK2.out; omega
     case rel => exact ⟨(y424), (IntKind.u64.wrap (Int.tdiv (IntKind.u64.wrap (x9_2 + (IntKind.u64.wrap ((IntKind.u64.wrap (rd x7_2 (ji16))) + (IntKind.u64.wrap ((IntKind.u64.wrap (rd t409 x8_1)) * (IntKind.u64.wrap (rd t412 x10_2)))))))) 4294967296)), (wrap64 (x10_2 + 1)), (by first | rfl | (simp; done) | (simp only [← hji16] <;> (first | rfl | simp)) | (simp [*]; done)), Qa5, H', ⟨by have := HK1.out; have := HK2.out; omega⟩, ⟨Qr1 HO_5.out⟩, ⟨Qr1 HO_6.out⟩, ⟨Qr1 HO_7.out⟩, ⟨Qa0⟩⟩
def r2_natural.l0 : Nat → ByteArray → List Int → Int → Option (List Int)
 | 0, _, _, _ => none
 | k + 1, x0, x3, x4 => if x4 < (x0.size : Int) then ((r1_Times.f k x3 (([10] : List Int))).bind fun t1346 => (if 0 ≤ x4 then ((r1_Plus.f k t1346 (([((bt x0 x4) - 48) % 256] : List Int))).bind fun t1352 => (r2_natural.l0 k x0 t1352 (wrap64 (x4 + 1)))) else (none))) else (some x3)
def r2_natural.f (k : Nat) (a0 : ByteArray) : Option (List Int) := r2_natural.l0 k a0 ([] : List Int) 0
def r2_natural.T5 : Bool × List (List Nat × List Nat) := (true, [([], []), ([], []), ([0, 1], [0, 1]), ([], []), ([], []), ([3, 4], [3, 4]), ([5], [5]), ([6], [6]), ([7], [7]), ([2, 8, 2], [2, 8]), ([9, 9, 0, 1, 2, 3, 4, 5, 6, 7, 8, 9], [0, 9])])
def r2_natural.B5 : List Nat := [0, 0, 3, 0, 0, 24, 56, 120, 248, 511, 1023]
theorem r2_natural.tab5 : rtab .any (opsOf Try.f102 5) = r2_natural.T5 := by kernel_rfl
theorem r2_natural.bits5 : waitsOk r2_natural.T5.2 r2_natural.B5 = true := by kernel_rfl
theorem r2_natural.calls (k : Nat) (a0 : ByteArray) (r : List Int) (w : World) (h : r2_natural.f k a0 = some r) :
  Calls Try.prog 102 #[.string a0] w fun e w' => ∃ v0_ : Value, e = .returned (v0_) ∧ Kd.R (Kd.int .u32) 47 w' w.heap.size (fun _ => True) v0_ r ∧ Below w.heap.size w w' := by
 have HB := Yt.mk (Below.refl w.heap.size w)
 unfold r2_natural.f at h
 have H := h
 clear h
 have H' := Yt.mk H
 clear H
 go_enter Try.func102, Try.ntmps102
 go_wp2
 go_loopg [3, 4] k (fun kq v3 v4 w' => ∃ (x3_1 : List Int) (x4_1 : Int), v4 = .int .i64 x4_1 ∧ Yt (r2_natural.l0 kq a0 x3_1 x4_1 = some r) ∧ Yt (kq ≤ k) ∧ Yt (Kd.R (Kd.int .u32) 47 w' w.heap.size (fun _ => True) v3 x3_1) ∧ Yt (Below w.heap.size w w'))
 case atStart => exact ⟨(([] : List Int)), (0), Qa5, H', ⟨Nat.le_refl _⟩, ⟨by first | exact Kd.R_nil _ _ _ _ _ | exact Kd.N_nil _ _ _ _ _ | exact Kd.V_nil _ _ _ _ _ | exact Kd.Q_nil _ _ _ _ _ | exact Kd.S_nil _ _ _ _ _⟩, ⟨Qa0⟩⟩
 case round =>
  clear H'
  try clear c1
  obtain ⟨x3_1, x4_1, rfl, HA, HK1, HO_3, HB⟩ := hrel
  cases gk with
  | zero => exact absurd HA.out (by simp [r2_natural.l0])
  | succ k1 =>
   have H := HA.out
   clear HA
   simp only [r2_natural.l0] at H
   by_cases c2 : x4_1 < (a0.size : Int)
   rotate_left
   ·rw [if_neg c2] at H
    have c2b0 : decide (x4_1 < (a0.size : Int)) = false := decide_eq_false c2
    clear c2
    obtain rfl := Option.some.inj H
    go_wp2
    go_ret
    exact ⟨_, Qa4, Qr1 HO_3.out, Qa0⟩
   rw [if_pos c2] at H
   have c2b0 : decide (x4_1 < (a0.size : Int)) = true := decide_eq_true c2
   clear c2
   obtain ⟨y1343, hy1343⟩ : ∃ y_ : List Int, y_ = (([10] : List Int)) := ⟨_, rfl⟩
   replace H : ((r1_Times.f k1 x3_1 y1343).bind fun t1346 => (if 0 ≤ x4_1 then ((r1_Plus.f k1 t1346 (([((bt a0 x4_1) - 48) % 256] : List Int))).bind fun t1352 => (r2_natural.l0 k1 a0 t1352 (wrap64 (x4_1 + 1)))) else (none))) = some r := Qh hy1343 H
   have Ny1343 := Yt.mk hy1343
   clear hy1343
   replace H := Option.bind_eq_some_iff.mp H
   obtain ⟨t1346, A30, H⟩ := H
   try dsimp only at H
   have A3 := Yt.mk A30
   clear A30
   by_cases c4 : 0 ≤ x4_1
   rotate_left
   ·rw [if_neg c4] at H
    exact absurd H (by simp)
   rw [if_pos c4] at H
   have c4b0 : decide (0 ≤ x4_1) = true := decide_eq_true c4
   clear c4
   obtain ⟨y1349, hy1349⟩ : ∃ y_ : List Int, y_ = (([((bt a0 x4_1) - 48) % 256] : List Int)) := ⟨_, rfl⟩
   replace H : ((r1_Plus.f k1 t1346 y1349).bind fun t1352 => (r2_natural.l0 k1 a0 t1352 (wrap64 (x4_1 + 1)))) = some r := Qh hy1349 H
   have Ny1349 := Yt.mk hy1349
   clear hy1349
   replace H := Option.bind_eq_some_iff.mp H
   obtain ⟨t1352, A60, H⟩ := H
   try dsimp only at H
   have A6 := Yt.mk A60
   clear A60
   have H' := Yt.mk H
   clear H
   obtain ⟨Ao7, co7, eo7⟩ := Kd.Zx HO_3.out
   subst eo7
   try go_wp2
   replace HO_3 := Yt.mk (Kd.Zj HO_3.out)
   replace HB := Yt.mk (Zc HB.out)
   have p5 : 0 ≤ (x4_1 : Int) := Qd
   have q5 : x4_1 < (a0.size : Int) := Qd
   have hx5 := bt_at a0 x4_1
   replace p5 := eq_true p5
   replace q5 := eq_true q5
   refine start_ (n := 11) (S := fun w' => True) (ds := []) #[false, false, false, false, false, false, false, false, false, false, false] Qa7 rfl rfl trivial (fun hHeld => ?_); refine with_tabW r2_natural.tab5 r2_natural.bits5 (fun HT_ HW_ => ?_)
   generalize wr.drew = w8 at HO_3 HB hHeld ⊢
   refine pure_ (i := 0) (N := some 11) (v := ?_) (a' := ?_) #[true, false, false, false, false, false, false, false, false, false, false] rfl rfl (any_of HT_.out Qa7) (fun _ _ _ h => h) (Or.inl ⟨by rfl, ?_⟩) ?_ ?_
   rotate_left
   ·intro w'
    go_simp
    with_reducible rfl
   rotate_left
   ·simp only [Act.put, List.setIfInBounds_toArray, List.set_cons_zero, List.set_cons_succ, Yi, Yj]
    rfl
   refine pure_ (i := 3) (N := some 14) (v := ?_) (a' := ?_) #[true, false, false, true, false, false, false, false, false, false, false] rfl rfl (any_of HT_.out Qa7) (fun _ _ _ h => h) (Or.inl ⟨by rfl, ?_⟩) ?_ ?_
   rotate_left
   ·intro w'
    go_simp
    with_reducible rfl
   rotate_left
   ·simp only [Act.put, List.setIfInBounds_toArray, List.set_cons_zero, List.set_cons_succ, Yi, Yj]
    rfl
   refine pure_ (i := 4) (N := some 15) (v := ?_) (a' := ?_) #[true, false, false, true, true, false, false, false, false, false, false] rfl rfl (any_of HT_.out Qa7) (fun _ _ _ h => h) (Or.inl ⟨by rfl, ?_⟩) ?_ ?_
   rotate_left
   ·intro w'
    go_simp
    with_reducible rfl
   rotate_left
   ·simp only [Act.put, List.setIfInBounds_toArray, List.set_cons_zero, List.set_cons_succ, Yi, Yj]
    rfl
   refine take_ (i := 5) (N := some 16) (v := ?_) (a' := ?_) #[true, false, false, true, true, true, false, false, false, false, false] rfl rfl (take_ofW HT_.out HW_.out Qa7) (fun _ _ _ h => h) (Or.inl ⟨by rfl, ?_⟩) hHeld ?_ ?_
   rotate_left
   ·intro w' _
    go_simp
    with_reducible rfl
   rotate_left
   ·simp only [Act.put, List.setIfInBounds_toArray, List.set_cons_zero, List.set_cons_succ, Yi, Yj]
    rfl
   refine pure_ (i := 6) (N := some 17) (v := ?_) (a' := ?_) #[true, false, false, true, true, true, true, false, false, false, false] rfl rfl (any_of HT_.out Qa7) (fun _ _ _ h => h) (Or.inl ⟨by rfl, ?_⟩) ?_ ?_
   rotate_left
   ·intro w'
    go_simp
    with_reducible rfl
   rotate_left
   ·simp only [Act.put, List.setIfInBounds_toArray, List.set_cons_zero, List.set_cons_succ, Yi, Yj]
    rfl
   refine pure_ (i := 7) (N := some 18) (v := ?_) (a' := ?_) #[true, false, false, true, true, true, true, true, false, false, false] rfl rfl (any_of HT_.out Qa7) (fun _ _ _ h => h) (Or.inl ⟨by rfl, ?_⟩) ?_ ?_
   rotate_left
   ·intro w'
    go_simp
    with_reducible rfl
   rotate_left
   ·simp only [Act.put, List.setIfInBounds_toArray, List.set_cons_zero, List.set_cons_succ, Yi, Yj]
    rfl
   refine join_ (σ := Value × Value × Value) 2 #[true, true, true, true, true, true, true, true, true, false, false] (fun s_ => [(12, s_.1), (13, s_.2.1), (19, s_.2.2)]) (fun s_ w' => (Kd.R (Kd.int .u32) 47 w' w.heap.size (fun k_ => some k_ ≠ (s_.2.1 : Value).ownBlock ∧ some k_ ≠ (s_.2.2 : Value).ownBlock ∧ some k_ ≠ (.slice Ao7 x3_1.length co7 : Value).ownBlock) s_.1 y1343) ∧ (Kd.R (Kd.int .u32) 47 w' w.heap.size (fun k_ => some k_ ≠ (s_.1 : Value).ownBlock ∧ some k_ ≠ (s_.2.2 : Value).ownBlock ∧ some k_ ≠ (.slice Ao7 x3_1.length co7 : Value).ownBlock) s_.2.1 t1346) ∧ (Kd.R (Kd.int .u32) 47 w' w.heap.size (fun k_ => some k_ ≠ (s_.1 : Value).ownBlock ∧ some k_ ≠ (s_.2.1 : Value).ownBlock ∧ some k_ ≠ (.slice Ao7 x3_1.length co7 : Value).ownBlock) s_.2.2 y1349) ∧ (Kd.R (Kd.int .u32) 47 w' w.heap.size (fun k_ => some k_ ≠ (s_.1 : Value).ownBlock ∧ some k_ ≠ (s_.2.1 : Value).ownBlock ∧ some k_ ≠ (s_.2.2 : Value).ownBlock) (.slice Ao7 x3_1.length co7) x3_1) ∧ (Below w.heap.size w w')) ?_ ?_
   rotate_left
   ·intro hCont
    refine two_ (i := 1) (j := 8) (Ni := some 12) (Nj := some 19) #[true, true, false, true, true, true, true, true, false, false, false] #[true, false, false, true, true, true, true, true, true, false, false] rfl rfl rfl rfl (two_of HT_.out Qa7) (by decide) (by decide) (fun K hK => ?_) (fun K hK => ?_)
    rotate_left
    ·skip
     refine Kd.R_lit_step (Kd.int .u32) _ 47 ?hg (N := 19) ?hd (xs := ([((bt a0 x4_1) - 48) % 256] : List Int)) (inner := [.int .u32 (((bt a0 x4_1) - 48) % 256)]) (ok := fun _ => True) (okp := fun _ => True) ?hr ?hp (fun _ hk => hk) trivial (Below.refl _ _) (Nat.le_refl _) (by simp) ?_; (case hd => rfl); (case hg => rfl); (case hr => first | (go_simp; done) | (go_simp; rfl) | (go_simp; rw [show ∀ x_ : Int, IntKind.u32.wrap (IntKind.u8.wrap x_) = x_ % 256 from fun x_ => by simp [IntKind.wrap, IntKind.bits, IntKind.signed]; omega]; rfl) | (go_simp; rw [show ∀ x_ : Int, IntKind.u32.wrap (IntKind.u8.wrap x_) = x_ % 256 from fun x_ => by simp [IntKind.wrap, IntKind.bits, IntKind.signed]; omega])); (case hp => exact (Reps.one (show Kd.M (Kd.int .u32) _ _ _ (((bt a0 x4_1) - 48) % 256) [.int .u32 (((bt a0 x4_1) - 48) % 256)] from rfl) (Reps.none _ _)))
     intro v1350 w9 ho10 hb hg_ hnew_
     clear hg_ hnew_
     (first | rw [← Ny1349.out] at ho10 | (simp only [Int.reduceToNat] at ho10; rw [← Ny1349.out] at ho10))
     have HO1351 := Yt.mk (Kd.Yb (Kd.Ya ho10 (Kd.R_lt (Qr1 HO_3.out))) (Zk (Qa0)))
     replace HO_3 := Yt.mk (Kd.Yf (Qr1 HO_3.out) (Kd.Zw ho10) hb)
     replace HB := Yt.mk (Zm (Qa0) hb)
     clear hb ho10
     refine hK.out _ _ trivial (fun hHeld => ?_)
     clear hK K
     refine norm_ (a' := ?_) ?_ ?_
     rotate_left
     ·show Act.put _ (some 19) _ = _
      simp only [Act.put, List.setIfInBounds_toArray, List.set_cons_zero, List.set_cons_succ, Yi, Yj]
      rfl
     refine one_ (i := 1) (N := some 12) #[true, true, false, true, true, true, true, true, true, false, false] rfl rfl (one_of HT_.out Qa7) (by decide) (fun K hK => ?_)
     refine Kd.R_lit_step (Kd.int .u32) _ 47 ?hg (N := 12) ?hd (xs := ([10] : List Int)) (inner := [.int .u32 10]) (ok := fun _ => True) (okp := fun _ => True) ?hr ?hp (fun _ hk => hk) trivial (Below.refl _ _) (Nat.le_refl _) (by simp) ?_; (case hd => rfl); (case hg => rfl); (case hr => first | (go_simp; done) | (go_simp; rfl) | (go_simp; rw [show ∀ x_ : Int, IntKind.u32.wrap (IntKind.u8.wrap x_) = x_ % 256 from fun x_ => by simp [IntKind.wrap, IntKind.bits, IntKind.signed]; omega]; rfl) | (go_simp; rw [show ∀ x_ : Int, IntKind.u32.wrap (IntKind.u8.wrap x_) = x_ % 256 from fun x_ => by simp [IntKind.wrap, IntKind.bits, IntKind.signed]; omega])); (case hp => exact (Reps.one (show Kd.M (Kd.int .u32) _ _ _ 10 [.int .u32 10] from rfl) (Reps.none _ _)))
     intro v1344 w11 ho12 hb hg_ hnew_
     clear hg_ hnew_
     (first | rw [← Ny1343.out] at ho12 | (simp only [Int.reduceToNat] at ho12; rw [← Ny1343.out] at ho12))
     have HO1345 := Yt.mk (Kd.Yb (Kd.Ya (Kd.Ya ho12 (Kd.R_lt (Qr1 HO_3.out))) (Kd.R_lt (Qr1 HO1351.out))) (Zk (Qa0)))
     replace HO_3 := Yt.mk (Kd.Yf (Qr1 HO_3.out) (Kd.Zw ho12) hb)
     replace HO1351 := Yt.mk (Kd.Yf (Qr1 HO1351.out) (Kd.Zw ho12) hb)
     replace HB := Yt.mk (Zm (Qa0) hb)
     clear hb ho12
     obtain ⟨Ao13, co13, eo13⟩ := Kd.Zx HO1345.out
     (first | subst eo13 | (injection eo13 with f1_ f2_ f3_; have f4_ := f1_.symm; have f5_ := f3_.symm; clear f1_ f2_ f3_; subst f4_; subst f5_))
     refine hK.out _ _ trivial (fun hHeld => ?_)
     clear hK K
     refine norm_ (a' := ?_) ?_ ?_
     rotate_left
     ·show Act.put _ (some 12) _ = _
      simp only [Act.put, List.setIfInBounds_toArray, List.set_cons_zero, List.set_cons_succ, Yi, Yj]
      rfl
     refine one_ (i := 2) (N := some 13) #[true, true, true, true, true, true, true, true, true, false, false] rfl rfl (one_of HT_.out Qa7) (by decide) (fun K hK => ?_)
     refine goes_ Try.func24 Qa7 rfl #[.slice Ao7 x3_1.length co7, .slice Ao13 y1343.length co13] (by rfl) rfl rfl Qa2 ?_
     with_reducible refine (r1_Times.calls k1 _ _ x3_1 _ _ y1343 t1346 _ ?side1 ?side2 ?side3 ?side4 A3.out).mono ?_
     (case side1 => exact Qe9 (Kd.Zs HO_3.out).2.2)
     (case side2 => exact (Kd.Zs HO_3.out).2.1)
     (case side3 => exact Qe9 (Kd.Zs HO1345.out).2.2)
     (case side4 => exact (Kd.Zs HO1345.out).2.1)
     rintro e w14 ⟨v1347, rfl, ho0, hb⟩
     refine ⟨_, rfl, ?_⟩
     have HO1348 := Yt.mk (Kd.Yb (Kd.Ya (Kd.Ya (Kd.Ya ho0 (Kd.R_lt (Qr1 HO_3.out))) (Kd.R_lt (Qr1 HO1351.out))) (Kd.R_lt (Qr1 HO1345.out))) (Zk (Qa0)))
     replace HO_3 := Yt.mk (Kd.Yf (Qr1 HO_3.out) (Kd.Zw ho0) hb)
     replace HO1351 := Yt.mk (Kd.Yf (Qr1 HO1351.out) (Kd.Zw ho0) hb)
     replace HO1345 := Yt.mk (Kd.Yf (Qr1 HO1345.out) (Kd.Zw ho0) hb)
     replace HB := Yt.mk (Zm (Qa0) hb)
     (try clear hb)
     (try clear hb2)
     (try clear hk)
     (try clear hi)
     (try clear ho0)
     refine hK.out _ _ trivial (fun hHeld => ?_)
     clear hK K
     refine norm_ (a' := ?_) ?_ ?_
     rotate_left
     ·show Act.put _ (some 13) _ = _
      simp only [Act.put, List.setIfInBounds_toArray, List.set_cons_zero, List.set_cons_succ, Yi, Yj]
      rfl
     exact norm_ (by simp only [putAll, Act.put, List.setIfInBounds_toArray, List.set_cons_zero, List.set_cons_succ]) (hCont (.slice Ao13 y1343.length co13, v1347, v1350) _ ⟨(by (with_reducible repeat (first | apply Kd.Zf | apply Kd.Ze | apply Kd.Zj)); exact Kd.Zv HO1345.out (fun _ hk => ⟨hk.2, ⟨hk.1.2, hk.1.1.2⟩⟩)), (by (with_reducible repeat (first | apply Kd.Zf | apply Kd.Ze | apply Kd.Zj)); exact Kd.Zv HO1348.out (fun _ hk => ⟨hk.2, ⟨hk.1.2, hk.1.1.2⟩⟩)), (by (with_reducible repeat (first | apply Kd.Zf | apply Kd.Ze | apply Kd.Zj)); exact Kd.Zv HO1351.out (fun _ hk => ⟨hk.1.2, ⟨hk.2, hk.1.1.2⟩⟩)), (by (with_reducible repeat (first | apply Kd.Zf | apply Kd.Ze | apply Kd.Zj)); exact Kd.Zv HO_3.out (fun _ hk => ⟨hk.1.2, ⟨hk.2, hk.1.1.2⟩⟩)), (Qa0)⟩)
    skip
    refine Kd.R_lit_step (Kd.int .u32) _ 47 ?hg (N := 12) ?hd (xs := ([10] : List Int)) (inner := [.int .u32 10]) (ok := fun _ => True) (okp := fun _ => True) ?hr ?hp (fun _ hk => hk) trivial (Below.refl _ _) (Nat.le_refl _) (by simp) ?_; (case hd => rfl); (case hg => rfl); (case hr => first | (go_simp; done) | (go_simp; rfl) | (go_simp; rw [show ∀ x_ : Int, IntKind.u32.wrap (IntKind.u8.wrap x_) = x_ % 256 from fun x_ => by simp [IntKind.wrap, IntKind.bits, IntKind.signed]; omega]; rfl) | (go_simp; rw [show ∀ x_ : Int, IntKind.u32.wrap (IntKind.u8.wrap x_) = x_ % 256 from fun x_ => by simp [IntKind.wrap, IntKind.bits, IntKind.signed]; omega])); (case hp => exact (Reps.one (show Kd.M (Kd.int .u32) _ _ _ 10 [.int .u32 10] from rfl) (Reps.none _ _)))
    intro v1344 w9 ho10 hb hg_ hnew_
    clear hg_ hnew_
    (first | rw [← Ny1343.out] at ho10 | (simp only [Int.reduceToNat] at ho10; rw [← Ny1343.out] at ho10))
    have HO1345 := Yt.mk (Kd.Yb (Kd.Ya ho10 (Kd.R_lt (Qr1 HO_3.out))) (Zk (Qa0)))
    replace HO_3 := Yt.mk (Kd.Yf (Qr1 HO_3.out) (Kd.Zw ho10) hb)
    replace HB := Yt.mk (Zm (Qa0) hb)
    clear hb ho10
    obtain ⟨Ao11, co11, eo11⟩ := Kd.Zx HO1345.out
    (first | subst eo11 | (injection eo11 with f1_ f2_ f3_; have f4_ := f1_.symm; have f5_ := f3_.symm; clear f1_ f2_ f3_; subst f4_; subst f5_))
    refine hK.out _ _ trivial (fun hHeld => ?_)
    clear hK K
    refine norm_ (a' := ?_) ?_ ?_
    rotate_left
    ·show Act.put _ (some 12) _ = _
     simp only [Act.put, List.setIfInBounds_toArray, List.set_cons_zero, List.set_cons_succ, Yi, Yj]
     rfl
    refine two_ (i := 2) (j := 8) (Ni := some 13) (Nj := some 19) #[true, true, true, true, true, true, true, true, false, false, false] #[true, true, false, true, true, true, true, true, true, false, false] rfl rfl rfl rfl (two_of HT_.out Qa7) (by decide) (by decide) (fun K hK => ?_) (fun K hK => ?_)
    ·skip
     refine goes_ Try.func24 Qa7 rfl #[.slice Ao7 x3_1.length co7, .slice Ao11 y1343.length co11] (by rfl) rfl rfl Qa2 ?_
     with_reducible refine (r1_Times.calls k1 _ _ x3_1 _ _ y1343 t1346 _ ?side1 ?side2 ?side3 ?side4 A3.out).mono ?_
     (case side1 => exact Qe9 (Kd.Zs HO_3.out).2.2)
     (case side2 => exact (Kd.Zs HO_3.out).2.1)
     (case side3 => exact Qe9 (Kd.Zs HO1345.out).2.2)
     (case side4 => exact (Kd.Zs HO1345.out).2.1)
     rintro e w12 ⟨v1347, rfl, ho0, hb⟩
     refine ⟨_, rfl, ?_⟩
     have HO1348 := Yt.mk (Kd.Yb (Kd.Ya (Kd.Ya ho0 (Kd.R_lt (Qr1 HO_3.out))) (Kd.R_lt (Qr1 HO1345.out))) (Zk (Qa0)))
     replace HO_3 := Yt.mk (Kd.Yf (Qr1 HO_3.out) (Kd.Zw ho0) hb)
     replace HO1345 := Yt.mk (Kd.Yf (Qr1 HO1345.out) (Kd.Zw ho0) hb)
     replace HB := Yt.mk (Zm (Qa0) hb)
     (try clear hb)
     (try clear hb2)
     (try clear hk)
     (try clear hi)
     (try clear ho0)
     refine hK.out _ _ trivial (fun hHeld => ?_)
     clear hK K
     refine norm_ (a' := ?_) ?_ ?_
     rotate_left
     ·show Act.put _ (some 13) _ = _
      simp only [Act.put, List.setIfInBounds_toArray, List.set_cons_zero, List.set_cons_succ, Yi, Yj]
      rfl
     refine one_ (i := 8) (N := some 19) #[true, true, true, true, true, true, true, true, true, false, false] rfl rfl (one_of HT_.out Qa7) (by decide) (fun K hK => ?_)
     refine Kd.R_lit_step (Kd.int .u32) _ 47 ?hg (N := 19) ?hd (xs := ([((bt a0 x4_1) - 48) % 256] : List Int)) (inner := [.int .u32 (((bt a0 x4_1) - 48) % 256)]) (ok := fun _ => True) (okp := fun _ => True) ?hr ?hp (fun _ hk => hk) trivial (Below.refl _ _) (Nat.le_refl _) (by simp) ?_; (case hd => rfl); (case hg => rfl); (case hr => first | (go_simp; done) | (go_simp; rfl) | (go_simp; rw [show ∀ x_ : Int, IntKind.u32.wrap (IntKind.u8.wrap x_) = x_ % 256 from fun x_ => by simp [IntKind.wrap, IntKind.bits, IntKind.signed]; omega]; rfl) | (go_simp; rw [show ∀ x_ : Int, IntKind.u32.wrap (IntKind.u8.wrap x_) = x_ % 256 from fun x_ => by simp [IntKind.wrap, IntKind.bits, IntKind.signed]; omega])); (case hp => exact (Reps.one (show Kd.M (Kd.int .u32) _ _ _ (((bt a0 x4_1) - 48) % 256) [.int .u32 (((bt a0 x4_1) - 48) % 256)] from rfl) (Reps.none _ _)))
     intro v1350 w13 ho14 hb hg_ hnew_
     clear hg_ hnew_
     (first | rw [← Ny1349.out] at ho14 | (simp only [Int.reduceToNat] at ho14; rw [← Ny1349.out] at ho14))
     have HO1351 := Yt.mk (Kd.Yb (Kd.Ya (Kd.Ya (Kd.Ya ho14 (Kd.R_lt (Qr1 HO_3.out))) (Kd.R_lt (Qr1 HO1345.out))) (Kd.R_lt (Qr1 HO1348.out))) (Zk (Qa0)))
     replace HO_3 := Yt.mk (Kd.Yf (Qr1 HO_3.out) (Kd.Zw ho14) hb)
     replace HO1345 := Yt.mk (Kd.Yf (Qr1 HO1345.out) (Kd.Zw ho14) hb)
     replace HO1348 := Yt.mk (Kd.Yf (Qr1 HO1348.out) (Kd.Zw ho14) hb)
     replace HB := Yt.mk (Zm (Qa0) hb)
     clear hb ho14
     refine hK.out _ _ trivial (fun hHeld => ?_)
     clear hK K
     refine norm_ (a' := ?_) ?_ ?_
     rotate_left
     ·show Act.put _ (some 19) _ = _
      simp only [Act.put, List.setIfInBounds_toArray, List.set_cons_zero, List.set_cons_succ, Yi, Yj]
      rfl
     exact norm_ (by simp only [putAll, Act.put, List.setIfInBounds_toArray, List.set_cons_zero, List.set_cons_succ]) (hCont (.slice Ao11 y1343.length co11, v1347, v1350) _ ⟨(by (with_reducible repeat (first | apply Kd.Zf | apply Kd.Ze | apply Kd.Zj)); exact Kd.Zv HO1345.out (fun _ hk => ⟨hk.1.2, ⟨hk.2, hk.1.1.2⟩⟩)), (by (with_reducible repeat (first | apply Kd.Zf | apply Kd.Ze | apply Kd.Zj)); exact Kd.Zv HO1348.out (fun _ hk => ⟨hk.1.2, ⟨hk.2, hk.1.1.2⟩⟩)), (by (with_reducible repeat (first | apply Kd.Zf | apply Kd.Ze | apply Kd.Zj)); exact Kd.Zv HO1351.out (fun _ hk => ⟨hk.1.2, ⟨hk.2, hk.1.1.2⟩⟩)), (by (with_reducible repeat (first | apply Kd.Zf | apply Kd.Ze | apply Kd.Zj)); exact Kd.Zv HO_3.out (fun _ hk => ⟨hk.1.1.2, ⟨hk.1.2, hk.2⟩⟩)), (Qa0)⟩)
    skip
    refine Kd.R_lit_step (Kd.int .u32) _ 47 ?hg (N := 19) ?hd (xs := ([((bt a0 x4_1) - 48) % 256] : List Int)) (inner := [.int .u32 (((bt a0 x4_1) - 48) % 256)]) (ok := fun _ => True) (okp := fun _ => True) ?hr ?hp (fun _ hk => hk) trivial (Below.refl _ _) (Nat.le_refl _) (by simp) ?_; (case hd => rfl); (case hg => rfl); (case hr => first | (go_simp; done) | (go_simp; rfl) | (go_simp; rw [show ∀ x_ : Int, IntKind.u32.wrap (IntKind.u8.wrap x_) = x_ % 256 from fun x_ => by simp [IntKind.wrap, IntKind.bits, IntKind.signed]; omega]; rfl) | (go_simp; rw [show ∀ x_ : Int, IntKind.u32.wrap (IntKind.u8.wrap x_) = x_ % 256 from fun x_ => by simp [IntKind.wrap, IntKind.bits, IntKind.signed]; omega])); (case hp => exact (Reps.one (show Kd.M (Kd.int .u32) _ _ _ (((bt a0 x4_1) - 48) % 256) [.int .u32 (((bt a0 x4_1) - 48) % 256)] from rfl) (Reps.none _ _)))
    intro v1350 w11 ho12 hb hg_ hnew_
    clear hg_ hnew_
    (first | rw [← Ny1349.out] at ho12 | (simp only [Int.reduceToNat] at ho12; rw [← Ny1349.out] at ho12))
    have HO1351 := Yt.mk (Kd.Yb (Kd.Ya (Kd.Ya ho12 (Kd.R_lt (Qr1 HO_3.out))) (Kd.R_lt (Qr1 HO1345.out))) (Zk (Qa0)))
    replace HO_3 := Yt.mk (Kd.Yf (Qr1 HO_3.out) (Kd.Zw ho12) hb)
    replace HO1345 := Yt.mk (Kd.Yf (Qr1 HO1345.out) (Kd.Zw ho12) hb)
    replace HB := Yt.mk (Zm (Qa0) hb)
    clear hb ho12
    obtain ⟨Ao13, co13, eo13⟩ := Kd.Zx HO1345.out
    (first | subst eo13 | (injection eo13 with f1_ f2_ f3_; have f4_ := f1_.symm; have f5_ := f3_.symm; clear f1_ f2_ f3_; subst f4_; subst f5_))
    refine hK.out _ _ trivial (fun hHeld => ?_)
    clear hK K
    refine norm_ (a' := ?_) ?_ ?_
    rotate_left
    ·show Act.put _ (some 19) _ = _
     simp only [Act.put, List.setIfInBounds_toArray, List.set_cons_zero, List.set_cons_succ, Yi, Yj]
     rfl
    refine one_ (i := 2) (N := some 13) #[true, true, true, true, true, true, true, true, true, false, false] rfl rfl (one_of HT_.out Qa7) (by decide) (fun K hK => ?_)
    refine goes_ Try.func24 Qa7 rfl #[.slice Ao7 x3_1.length co7, .slice Ao13 y1343.length co13] (by rfl) rfl rfl Qa2 ?_
    with_reducible refine (r1_Times.calls k1 _ _ x3_1 _ _ y1343 t1346 _ ?side1 ?side2 ?side3 ?side4 A3.out).mono ?_
    (case side1 => exact Qe9 (Kd.Zs HO_3.out).2.2)
    (case side2 => exact (Kd.Zs HO_3.out).2.1)
    (case side3 => exact Qe9 (Kd.Zs HO1345.out).2.2)
    (case side4 => exact (Kd.Zs HO1345.out).2.1)
    rintro e w14 ⟨v1347, rfl, ho0, hb⟩
    refine ⟨_, rfl, ?_⟩
    have HO1348 := Yt.mk (Kd.Yb (Kd.Ya (Kd.Ya (Kd.Ya ho0 (Kd.R_lt (Qr1 HO_3.out))) (Kd.R_lt (Qr1 HO1345.out))) (Kd.R_lt (Qr1 HO1351.out))) (Zk (Qa0)))
    replace HO_3 := Yt.mk (Kd.Yf (Qr1 HO_3.out) (Kd.Zw ho0) hb)
    replace HO1345 := Yt.mk (Kd.Yf (Qr1 HO1345.out) (Kd.Zw ho0) hb)
    replace HO1351 := Yt.mk (Kd.Yf (Qr1 HO1351.out) (Kd.Zw ho0) hb)
    replace HB := Yt.mk (Zm (Qa0) hb)
    (try clear hb)
    (try clear hb2)
    (try clear hk)
    (try clear hi)
    (try clear ho0)
    refine hK.out _ _ trivial (fun hHeld => ?_)
    clear hK K
    refine norm_ (a' := ?_) ?_ ?_
    rotate_left
    ·show Act.put _ (some 13) _ = _
     simp only [Act.put, List.setIfInBounds_toArray, List.set_cons_zero, List.set_cons_succ, Yi, Yj]
     rfl
    exact norm_ (by simp only [putAll, Act.put, List.setIfInBounds_toArray, List.set_cons_zero, List.set_cons_succ]) (hCont (.slice Ao13 y1343.length co13, v1347, v1350) _ ⟨(by (with_reducible repeat (first | apply Kd.Zf | apply Kd.Ze | apply Kd.Zj)); exact Kd.Zv HO1345.out (fun _ hk => ⟨hk.2, ⟨hk.1.2, hk.1.1.2⟩⟩)), (by (with_reducible repeat (first | apply Kd.Zf | apply Kd.Ze | apply Kd.Zj)); exact Kd.Zv HO1348.out (fun _ hk => ⟨hk.1.2, ⟨hk.2, hk.1.1.2⟩⟩)), (by (with_reducible repeat (first | apply Kd.Zf | apply Kd.Ze | apply Kd.Zj)); exact Kd.Zv HO1351.out (fun _ hk => ⟨hk.1.2, ⟨hk.2, hk.1.1.2⟩⟩)), (by (with_reducible repeat (first | apply Kd.Zf | apply Kd.Ze | apply Kd.Zj)); exact Kd.Zv HO_3.out (fun _ hk => ⟨hk.1.1.2, ⟨hk.2, hk.1.2⟩⟩)), (Qa0)⟩)
   rintro ⟨v1344, v1347, v1350⟩ w15 ⟨h0_, h1_, h2_, h3_, h4_⟩
   have HO1345 : Yt (Kd.R (Kd.int .u32) 47 w15 w.heap.size (fun k_ => some k_ ≠ (v1347 : Value).ownBlock ∧ some k_ ≠ (v1350 : Value).ownBlock ∧ some k_ ≠ (.slice Ao7 x3_1.length co7 : Value).ownBlock) v1344 y1343) := ⟨h0_⟩
   have HO1348 : Yt (Kd.R (Kd.int .u32) 47 w15 w.heap.size (fun k_ => some k_ ≠ (v1344 : Value).ownBlock ∧ some k_ ≠ (v1350 : Value).ownBlock ∧ some k_ ≠ (.slice Ao7 x3_1.length co7 : Value).ownBlock) v1347 t1346) := ⟨h1_⟩
   have HO1351 : Yt (Kd.R (Kd.int .u32) 47 w15 w.heap.size (fun k_ => some k_ ≠ (v1344 : Value).ownBlock ∧ some k_ ≠ (v1347 : Value).ownBlock ∧ some k_ ≠ (.slice Ao7 x3_1.length co7 : Value).ownBlock) v1350 y1349) := ⟨h2_⟩
   replace HO_3 : Yt (Kd.R (Kd.int .u32) 47 w15 w.heap.size (fun k_ => some k_ ≠ (v1344 : Value).ownBlock ∧ some k_ ≠ (v1347 : Value).ownBlock ∧ some k_ ≠ (v1350 : Value).ownBlock) (.slice Ao7 x3_1.length co7) x3_1) := ⟨h3_⟩
   replace HB : Yt (Below w.heap.size w w15) := ⟨h4_⟩
   clear h0_ h1_ h2_ h3_ h4_
   have hHeld := trivial
   obtain ⟨Ao16, co16, eo16⟩ := Kd.Zx HO1348.out
   (first | subst eo16 | (injection eo16 with f1_ f2_ f3_; have f4_ := f1_.symm; have f5_ := f3_.symm; clear f1_ f2_ f3_; subst f4_; subst f5_))
   obtain ⟨Ao17, co17, eo17⟩ := Kd.Zx HO1351.out
   (first | subst eo17 | (injection eo17 with f1_ f2_ f3_; have f4_ := f1_.symm; have f5_ := f3_.symm; clear f1_ f2_ f3_; subst f4_; subst f5_))
   refine norm_ (a' := ?_) ?_ ?_
   rotate_left
   ·simp only [putAll, Act.put, List.setIfInBounds_toArray, List.set_cons_zero, List.set_cons_succ]
    rfl
   refine one_ (i := 9) (N := some 20) #[true, true, true, true, true, true, true, true, true, true, false] rfl rfl (one_of HT_.out Qa7) (by decide) (fun K hK => ?_)
   refine goes_ Try.func37 Qa7 rfl #[.slice Ao16 t1346.length co16, .slice Ao17 y1349.length co17] (by rfl) rfl rfl Qa2 ?_
   with_reducible refine (r1_Plus.calls k1 _ _ t1346 _ _ y1349 t1352 _ ?side1 ?side2 ?side3 ?side4 A6.out).mono ?_
   (case side1 => exact Qe9 (Kd.Zs HO1348.out).2.2)
   (case side2 => exact (Kd.Zs HO1348.out).2.1)
   (case side3 => exact Qe9 (Kd.Zs HO1351.out).2.2)
   (case side4 => exact (Kd.Zs HO1351.out).2.1)
   rintro e w18 ⟨v1353, rfl, ho0, hb⟩
   refine ⟨_, rfl, ?_⟩
   have HO1354 := Yt.mk (Kd.Yb (Kd.Ya (Kd.Ya (Kd.Ya (Kd.Ya ho0 (Kd.R_lt (Qr1 HO_3.out))) (Kd.R_lt (Qr1 HO1345.out))) (Kd.R_lt (Qr1 HO1348.out))) (Kd.R_lt (Qr1 HO1351.out))) (Zk (Qa0)))
   replace HO_3 := Yt.mk (Kd.Yf (Qr1 HO_3.out) (Kd.Zw ho0) hb)
   replace HO1345 := Yt.mk (Kd.Yf (Qr1 HO1345.out) (Kd.Zw ho0) hb)
   replace HO1348 := Yt.mk (Kd.Yf (Qr1 HO1348.out) (Kd.Zw ho0) hb)
   replace HO1351 := Yt.mk (Kd.Yf (Qr1 HO1351.out) (Kd.Zw ho0) hb)
   replace HB := Yt.mk (Zm (Qa0) hb)
   (try clear hb)
   (try clear hb2)
   (try clear hk)
   (try clear hi)
   (try clear ho0)
   refine hK.out _ _ trivial (fun hHeld => ?_)
   clear hK K
   refine norm_ (a' := ?_) ?_ ?_
   rotate_left
   ·show Act.put _ (some 20) _ = _
    simp only [Act.put, List.setIfInBounds_toArray, List.set_cons_zero, List.set_cons_succ, Yi, Yj]
    rfl
   refine pure_ (i := 10) (N := some 3) (v := ?_) (a' := ?_) #[true, true, true, true, true, true, true, true, true, true, true] rfl rfl (any_of HT_.out Qa7) (fun _ _ _ h => h) (Or.inl ⟨by rfl, ?_⟩) ?_ ?_
   rotate_left
   ·intro w'
    go_simp
    with_reducible rfl
   rotate_left
   ·simp only [Act.put, List.setIfInBounds_toArray, List.set_cons_zero, List.set_cons_succ, Yi, Yj]
    rfl
   refine done_ (done_of HT_.out Qa7) ?_
   try go_wp2
   go_roundg k1
   case measure => have := HK1.out; omega
   case rel => exact ⟨(t1352), (wrap64 (x4_1 + 1)), Qa5, H', ⟨by have := HK1.out; omega⟩, ⟨by (with_reducible repeat (first | apply Kd.Zf | apply Kd.Ze | apply Kd.Zj)); exact Kd.Zv HO1354.out (fun _ hk => trivial)⟩, ⟨Qa0⟩⟩
def r2_Read.f (k : Nat) (a0 : ByteArray) : Option (Bool × List Int × List Int × Int) := if (a0.size : Int) > 4096 then (some (false, ([] : List Int), ([] : List Int), 3)) else ((r2_Cut.f k a0).bind fun bt1356 => (if bt1356.2.2.2 = true then ((r2_natural.f k bt1356.2.1).bind fun t1360 => ((r2_natural.f k bt1356.2.2.1).bind fun t1363 => ((r2_Make.f k bt1356.1 t1360 t1363).bind fun bt1366 => (some (bt1366.1, bt1366.2.1, bt1366.2.2.1, bt1366.2.2.2))))) else (some (false, ([] : List Int), ([] : List Int), 21))))
theorem r2_Read.calls (k : Nat) (a0 : ByteArray) (r1 : Bool) (r2 : List Int) (r3 : List Int) (r4 : Int) (w : World) (h : r2_Read.f k a0 = some (r1, r2, r3, r4)) :
  Calls Try.prog 60 #[.string a0] w fun e w' => ∃ v1_ v2_ : Value, e = .returned (.tuple #[.agg #[.bool r1, v1_, v2_], .int .i64 r4]) ∧ Kd.R (Kd.int .u32) 47 w' w.heap.size (fun k_ => some k_ ≠ (v2_ : Value).ownBlock) v1_ r2 ∧ Kd.R (Kd.int .u32) 47 w' w.heap.size (fun k_ => some k_ ≠ (v1_ : Value).ownBlock) v2_ r3 ∧ Below w.heap.size w w' := by
 have hu50 := Try.underlying50
 have HB := Yt.mk (Below.refl w.heap.size w)
 unfold r2_Read.f at h
 have H := h
 clear h
 by_cases c2 : (a0.size : Int) > 4096
 ·rw [if_pos c2] at H
  have c2b0 : decide (4096 < (a0.size : Int)) = true := decide_eq_true c2
  have c2b1 : decide (4096 < a0.size) = true := decide_eq_true (by omega)
  clear c2
  simp only [Option.some.injEq, Prod.mk.injEq] at H
  obtain ⟨rfl, rfl, rfl, rfl⟩ := H
  go_enter Try.func60, Try.ntmps60
  go_wp2_with (first | ((with_reducible refine Yk (N := 2) rfl ?_); refine Yo ?hg (N := 2) ?hd (cs := #[.bool false, .slice none 0 0, .slice none 0 0]) (t := 50) ?hr ?_; (case hd => rfl); (case hg => rfl); (case hr => exact Qa8); intro gb1355 hg w3 hbox hb; have BK1355 := Yt.mk (hbox); have GW1355 := Yt.mk ((by rw [hg]; exact (Zk (Qa0)) : w.heap.size ≤ gb1355)); have GE1355 := Yt.mk ((by rw [hg]; exact (Zk (Qa0)) : w.heap.size ≤ gb1355)); replace HB := Yt.mk (Zm (Qa0) hb); clear hb hbox hg; have hcz4_0 : w3.cell? ⟨gb1355, 0, none⟩ = some (.bool false) := (Zl BK1355.out 0).trans rfl; have hcz4_1 : w3.cell? ⟨gb1355, 1, none⟩ = some (.slice none 0 0) := (Zl BK1355.out 1).trans rfl; have hcz4_2 : w3.cell? ⟨gb1355, 2, none⟩ = some (.slice none 0 0) := (Zl BK1355.out 2).trans rfl; have hfz4_0 := Zn BK1355.out 0; have hfz4_1 := Zn BK1355.out 1; have hfz4_2 := Zn BK1355.out 2))
  refine bodyPost_ret (results_ct rfl _ _ gb1355 50 #[.bool false, .slice none 0 0, .slice none 0 0] (0, 0) _ rfl (by (with_reducible repeat (first | refine Zg ?_ _ | refine Zi ?_ | refine Zh ?_ _)); refine Ym (cs := #[.bool false, .slice none 0 0, .slice none 0 0]) ?_ 2 _ rfl; (with_reducible repeat (first | refine Zg ?_ _ | refine Zi ?_ | refine Zh ?_ _)); refine Ym (cs := #[.bool false, .slice none 0 0, .slice none 0 0]) ?_ 1 _ rfl; (with_reducible repeat (first | refine Zg ?_ _ | refine Zi ?_ | refine Zh ?_ _)); refine Ym (cs := #[.bool false, .slice none 0 0, .slice none 0 0]) ?_ 0 _ rfl; (with_reducible repeat (first | refine Zg ?_ _ | refine Zi ?_ | refine Zh ?_ _)); exact BK1355.out) Try.underlying50 rfl Qa7) rfl ?_
  exact ⟨_, _, Qa4, by first | exact Kd.R_nil _ _ _ _ _ | exact Kd.N_nil _ _ _ _ _ | exact Kd.V_nil _ _ _ _ _ | exact Kd.Q_nil _ _ _ _ _ | exact Kd.S_nil _ _ _ _ _, by first | exact Kd.R_nil _ _ _ _ _ | exact Kd.N_nil _ _ _ _ _ | exact Kd.V_nil _ _ _ _ _ | exact Kd.Q_nil _ _ _ _ _ | exact Kd.S_nil _ _ _ _ _, Qa0⟩
 rw [if_neg c2] at H
 have c2b0 : decide (4096 < (a0.size : Int)) = false := decide_eq_false c2
 have c2b1 : decide (4096 < a0.size) = false := decide_eq_false (by omega)
 clear c2
 replace H := Option.bind_eq_some_iff.mp H
 obtain ⟨⟨t1356, t1357, t1358, t1359⟩, A50, H⟩ := H
 try dsimp only at H
 have A5 := Yt.mk A50
 clear A50
 by_cases c6 : t1359 = true
 rotate_left
 ·replace c6 := Bool.eq_false_iff.mpr c6
  subst c6
  rw [if_neg (show ¬ (false = true) by decide)] at H
  simp only [Option.some.injEq, Prod.mk.injEq] at H
  obtain ⟨rfl, rfl, rfl, rfl⟩ := H
  go_enter Try.func60, Try.ntmps60
  go_wp2_with (first | ((with_reducible refine Yk (N := 2) rfl ?_); refine Yo ?hg (N := 2) ?hd (cs := #[.bool false, .slice none 0 0, .slice none 0 0]) (t := 50) ?hr ?_; (case hd => rfl); (case hg => rfl); (case hr => exact Qa8); intro gb1355 hg w19 hbox hb; have BK1355 := Yt.mk (hbox); have GW1355 := Yt.mk ((by rw [hg]; exact (Zk (Qa0)) : w.heap.size ≤ gb1355)); have GE1355 := Yt.mk ((by rw [hg]; exact (Zk (Qa0)) : w.heap.size ≤ gb1355)); replace HB := Yt.mk (Zm (Qa0) hb); clear hb hbox hg) | ((with_reducible refine Zr (f := 101) rfl ?_); refine Yg (some 14) rfl rfl Try.func101 Qa7 rfl #[.string a0] rfl Qa2 ?_; (with_reducible refine (r2_Cut.calls k a0 t1356 t1357 t1358 false _ A5.out).mono ?_); rintro e w' ⟨rfl, ⟨nd, rfl⟩⟩; refine ⟨_, rfl, ?_⟩; (try (rw [drewN_self w19]; generalize hq_ : World.drewN w19 _ = w19; have n0_ : Yt (w19.heap[gb1355]? = some (.cells #[.bool false, .slice none 0 0, .slice none 0 0] 50 (0, 0))) := ⟨by rw [← hq_]; exact (Qr12 BK1355.out)⟩; have n1_ : Yt (Below w.heap.size w w19) := ⟨by rw [← hq_]; exact (Qa0)⟩; clear BK1355 HB hq_; have BK1355 := n0_; have HB := n1_; clear n0_ n1_)); have hcz20_0 : w19.cell? ⟨gb1355, 0, none⟩ = some (.bool false) := (Zl BK1355.out 0).trans rfl; have hcz20_1 : w19.cell? ⟨gb1355, 1, none⟩ = some (.slice none 0 0) := (Zl BK1355.out 1).trans rfl; have hcz20_2 : w19.cell? ⟨gb1355, 2, none⟩ = some (.slice none 0 0) := (Zl BK1355.out 2).trans rfl; have hfz20_0 := Zn BK1355.out 0; have hfz20_1 := Zn BK1355.out 1; have hfz20_2 := Zn BK1355.out 2))
  refine bodyPost_ret (results_ct rfl _ _ gb1355 50 #[.bool false, .slice none 0 0, .slice none 0 0] (0, 0) _ rfl (by (with_reducible repeat (first | refine Zg ?_ _ | refine Zi ?_ | refine Zh ?_ _)); refine Ym (cs := #[.bool false, .slice none 0 0, .slice none 0 0]) ?_ 2 _ rfl; (with_reducible repeat (first | refine Zg ?_ _ | refine Zi ?_ | refine Zh ?_ _)); refine Ym (cs := #[.bool false, .slice none 0 0, .slice none 0 0]) ?_ 1 _ rfl; (with_reducible repeat (first | refine Zg ?_ _ | refine Zi ?_ | refine Zh ?_ _)); refine Ym (cs := #[.bool false, .slice none 0 0, .slice none 0 0]) ?_ 0 _ rfl; (with_reducible repeat (first | refine Zg ?_ _ | refine Zi ?_ | refine Zh ?_ _)); exact BK1355.out) Try.underlying50 rfl Qa7) rfl ?_
  exact ⟨_, _, Qa4, by first | exact Kd.R_nil _ _ _ _ _ | exact Kd.N_nil _ _ _ _ _ | exact Kd.V_nil _ _ _ _ _ | exact Kd.Q_nil _ _ _ _ _ | exact Kd.S_nil _ _ _ _ _, by first | exact Kd.R_nil _ _ _ _ _ | exact Kd.N_nil _ _ _ _ _ | exact Kd.V_nil _ _ _ _ _ | exact Kd.Q_nil _ _ _ _ _ | exact Kd.S_nil _ _ _ _ _, Qa0⟩
 subst c6
 rw [if_pos rfl] at H
 replace H := Option.bind_eq_some_iff.mp H
 obtain ⟨t1360, A70, H⟩ := H
 try dsimp only at H
 have A7 := Yt.mk A70
 clear A70
 replace H := Option.bind_eq_some_iff.mp H
 obtain ⟨t1363, A80, H⟩ := H
 try dsimp only at H
 have A8 := Yt.mk A80
 clear A80
 replace H := Option.bind_eq_some_iff.mp H
 obtain ⟨⟨t1366, t1367, t1370, t1373⟩, A90, H⟩ := H
 replace H : (some (t1366, t1367, t1370, t1373)) = some (r1, r2, r3, r4) := H
 have A9 := Yt.mk A90
 clear A90
 simp only [Option.some.injEq, Prod.mk.injEq] at H
 obtain ⟨rfl, rfl, rfl, rfl⟩ := H
 go_enter Try.func60, Try.ntmps60
 go_wp2_with (first | ((with_reducible refine Yk (N := 2) rfl ?_); refine Yo ?hg (N := 2) ?hd (cs := #[.bool false, .slice none 0 0, .slice none 0 0]) (t := 50) ?hr ?_; (case hd => rfl); (case hg => rfl); (case hr => exact Qa8); intro gb1355 hg w10 hbox hb; have BK1355 := Yt.mk (hbox); have GW1355 := Yt.mk ((by rw [hg]; exact (Zk (Qa0)) : w.heap.size ≤ gb1355)); have GE1355 := Yt.mk ((by rw [hg]; exact (Zk (Qa0)) : w.heap.size ≤ gb1355)); replace HB := Yt.mk (Zm (Qa0) hb); clear hb hbox hg) | ((with_reducible refine Zr (f := 101) rfl ?_); refine Yg (some 14) rfl rfl Try.func101 Qa7 rfl #[.string a0] rfl Qa2 ?_; (with_reducible refine (r2_Cut.calls k a0 t1356 t1357 t1358 true _ A5.out).mono ?_); rintro e w' ⟨rfl, ⟨nd, rfl⟩⟩; refine ⟨_, rfl, ?_⟩; (try (rw [drewN_self w10]; generalize hq_ : World.drewN w10 _ = w10; have n0_ : Yt (w10.heap[gb1355]? = some (.cells #[.bool false, .slice none 0 0, .slice none 0 0] 50 (0, 0))) := ⟨by rw [← hq_]; exact (Qr12 BK1355.out)⟩; have n1_ : Yt (Below w.heap.size w w10) := ⟨by rw [← hq_]; exact (Qa0)⟩; clear BK1355 HB hq_; have BK1355 := n0_; have HB := n1_; clear n0_ n1_))) | ((with_reducible refine Zr (f := 102) rfl ?_); refine Yg (some 24) rfl rfl Try.func102 Qa7 rfl #[.string t1357] rfl Qa2 ?_; (with_reducible refine (r2_natural.calls k t1357 t1360 _ A7.out).mono ?_); rintro e w11 ⟨v1361, rfl, ho0, hb⟩; refine ⟨_, rfl, ?_⟩; have HO1362 := Yt.mk (Kd.Yb ho0 (Zk (Qa0))); replace BK1355 := Yt.mk (Zq (g := gb1355) (o := .cells #[.bool false, .slice none 0 0, .slice none 0 0] 50 (0, 0)) (Qr12 BK1355.out) hb); replace HB := Yt.mk (Zm (Qa0) hb); (try clear hb); (try clear ho0)) | ((with_reducible refine Zr (f := 102) rfl ?_); refine Yg (some 26) rfl rfl Try.func102 Qa7 rfl #[.string t1358] rfl Qa2 ?_; (with_reducible refine (r2_natural.calls k t1358 t1363 _ A8.out).mono ?_); rintro e w12 ⟨v1364, rfl, ho0, hb⟩; refine ⟨_, rfl, ?_⟩; have HO1365 := Yt.mk (Kd.Yb (Kd.Ya ho0 (Kd.R_lt (Qr1 HO1362.out))) (Zk (Qa0))); replace HO1362 := Yt.mk (Kd.Yf (Qr1 HO1362.out) (Kd.Zw ho0) hb); replace BK1355 := Yt.mk (Zq (g := gb1355) (o := .cells #[.bool false, .slice none 0 0, .slice none 0 0] 50 (0, 0)) (Qr12 BK1355.out) hb); replace HB := Yt.mk (Zm (Qa0) hb); (try clear hb); (try clear ho0); obtain ⟨Ao13, co13, eo13⟩ := Kd.Zx HO1362.out; subst eo13; obtain ⟨Ao14, co14, eo14⟩ := Kd.Zx HO1365.out; subst eo14) | ((with_reducible refine Zr (f := 49) rfl ?_); refine Yg (some 27) rfl rfl Try.func49 Qa7 rfl #[.bool t1356, .slice Ao13 t1360.length co13, .slice Ao14 t1363.length co14] rfl Qa2 ?_; (with_reducible refine (r2_Make.calls k t1356 _ _ t1360 _ _ t1363 t1366 t1367 t1370 t1373 _ ?side1 ?side2 ?side3 ?side4 A9.out).mono ?_); (case side1 => exact Qe9 (Kd.Zs HO1362.out).2.2); (case side2 => exact (Kd.Zs HO1362.out).2.1); (case side3 => exact Qe9 (Kd.Zs HO1365.out).2.2); (case side4 => exact (Kd.Zs HO1365.out).2.1); rintro e w15 ⟨v1368, v1371, rfl, ho0, ho1, hb⟩; refine ⟨_, rfl, ?_⟩; have HO1369 := Yt.mk (Kd.Yb (Kd.Ya (Kd.Ya ho0 (Kd.R_lt (Qr1 HO1362.out))) (Kd.R_lt (Qr1 HO1365.out))) (Zk (Qa0))); have HO1372 := Yt.mk (Kd.Yb (Kd.Ya (Kd.Ya ho1 (Kd.R_lt (Qr1 HO1362.out))) (Kd.R_lt (Qr1 HO1365.out))) (Zk (Qa0))); replace HO1362 := Yt.mk (Kd.Zv (Kd.Yl (Kd.Yl (Kd.R_old (Qr1 HO1362.out) hb) (Kd.Zw ho0)) (Kd.Zw ho1)) (fun _ h_ => h_.1)); replace HO1365 := Yt.mk (Kd.Zv (Kd.Yl (Kd.Yl (Kd.R_old (Qr1 HO1365.out) hb) (Kd.Zw ho0)) (Kd.Zw ho1)) (fun _ h_ => h_.1)); replace BK1355 := Yt.mk (Zq (g := gb1355) (o := .cells #[.bool false, .slice none 0 0, .slice none 0 0] 50 (0, 0)) (Qr12 BK1355.out) hb); replace HB := Yt.mk (Zm (Qa0) hb); (try clear hb); (try clear ho0); (try clear ho1); have hcz16_0 : w15.cell? ⟨gb1355, 0, none⟩ = some (.bool false) := (Zl BK1355.out 0).trans rfl; have hcz16_1 : w15.cell? ⟨gb1355, 1, none⟩ = some (.slice none 0 0) := (Zl BK1355.out 1).trans rfl; have hcz16_2 : w15.cell? ⟨gb1355, 2, none⟩ = some (.slice none 0 0) := (Zl BK1355.out 2).trans rfl; have hfz16_0 := Zn BK1355.out 0; have hfz16_1 := Zn BK1355.out 1; have hfz16_2 := Zn BK1355.out 2; obtain ⟨Ao17, co17, eo17⟩ := Kd.Zx HO1369.out; subst eo17; obtain ⟨Ao18, co18, eo18⟩ := Kd.Zx HO1372.out; subst eo18))
 refine bodyPost_ret (results_ct rfl _ _ gb1355 50 #[.bool t1366, .slice Ao17 t1367.length co17, .slice Ao18 t1370.length co18] (0, 0) _ rfl (by (with_reducible repeat (first | refine Zg ?_ _ | refine Zi ?_ | refine Zh ?_ _)); refine Ym (cs := #[.bool t1366, .slice Ao17 t1367.length co17, .slice none 0 0]) ?_ 2 _ rfl; (with_reducible repeat (first | refine Zg ?_ _ | refine Zi ?_ | refine Zh ?_ _)); refine Ym (cs := #[.bool t1366, .slice none 0 0, .slice none 0 0]) ?_ 1 _ rfl; (with_reducible repeat (first | refine Zg ?_ _ | refine Zi ?_ | refine Zh ?_ _)); refine Ym (cs := #[.bool false, .slice none 0 0, .slice none 0 0]) ?_ 0 _ rfl; (with_reducible repeat (first | refine Zg ?_ _ | refine Zi ?_ | refine Zh ?_ _)); exact BK1355.out) Try.underlying50 rfl Qa7) rfl ?_
 exact ⟨_, _, Qa4, by (with_reducible repeat (first | apply Kd.Zf | apply Kd.Ze | apply Kd.Zj)); exact Kd.Zv (Kd.Yh (p := ⟨gb1355, 2, none⟩) (Kd.Yh (p := ⟨gb1355, 1, none⟩) (Kd.Yh (p := ⟨gb1355, 0, none⟩) (Kd.Yq HO1369.out BK1355.out (by decide)) (fun _ hk => hk.2) (.bool t1366)) (fun _ hk => hk.2) (.slice Ao17 t1367.length co17)) (fun _ hk => hk.2) (.slice Ao18 t1370.length co18)) (fun _ hk => hk.1.1.1), by (with_reducible repeat (first | apply Kd.Zf | apply Kd.Ze | apply Kd.Zj)); exact Kd.Zv (Kd.Yh (p := ⟨gb1355, 2, none⟩) (Kd.Yh (p := ⟨gb1355, 1, none⟩) (Kd.Yh (p := ⟨gb1355, 0, none⟩) (Kd.Yq HO1372.out BK1355.out (by decide)) (fun _ hk => hk.2) (.bool t1366)) (fun _ hk => hk.2) (.slice Ao17 t1367.length co17)) (fun _ hk => hk.2) (.slice Ao18 t1370.length co18)) (fun _ hk => hk.1.1.1), Qa0⟩
mutual
def nats_Add.j0 : Nat → List Int → List Int → Option (List Int)
 | 0, _, _ => none
 | k + 1, x0, x1 => if 0 ≤ (wrap64 ((x0.length : Int) + 1)) then (if (wrap64 ((x0.length : Int) + 1) : Int).toNat ≤ 70368744177664 then (nats_Add.l0 k x0 x1 (([] : List Int)) 0 (x0.length : Int) 0) else (none)) else (none)
def nats_Add.l0 : Nat → List Int → List Int → List Int → Int → Int → Int → Option (List Int)
 | 0, _, _, _, _, _, _ => none
 | k + 1, x0, x1, x5, x6, x22, x23 => if x23 < x22 then (if x23 < (x1.length : Int) then (if 0 ≤ x23 then (if x23 < (x0.length : Int) then ((bits_Add32.f (rd x0 x23) (rd x1 x23) x6).bind fun bt305 => (if x5.length < 35184372088832 then (nats_Add.l0 k x0 x1 (x5 ++ [bt305.1]) bt305.2 x22 (wrap64 (x23 + 1))) else (none))) else (none)) else (none)) else (if 0 ≤ x23 then (if x23 < (x0.length : Int) then ((bits_Add32.f (rd x0 x23) 0 x6).bind fun bt311 => (if x5.length < 35184372088832 then (nats_Add.l0 k x0 x1 (x5 ++ [bt311.1]) bt311.2 x22 (wrap64 (x23 + 1))) else (none))) else (none)) else (none))) else (if x5.length < 35184372088832 then ((nats_cuto.f k (x5 ++ [x6])).bind fun t319 => (some t319)) else (none))
end
def nats_Add.f (k : Nat) (l0 : List Int) (l1 : List Int) : Option (List Int) := if (l0.length : Int) < (l1.length : Int) then (nats_Add.j0 k l1 l0) else (nats_Add.j0 k l0 l1)
end Go.Proofs.Ytgffficaoioljaa.P
end
section
namespace Go.Proofs.Ytgffficaoioljaa.P
open Go.RowKit Go.Proofs.YtgffficaoioljaaW.PrintWords Go.Proofs.YtgffficaoioljaaW.PrintLast Go.Proofs.YtgffficaoioljaaW.PrintMore
attribute [local go_sem] max2_int min2_int max_two min_two max_three min_three max_four min_four
set_option linter.unusedVariables false
set_option linter.unusedSimpArgs false
set_option linter.unusedSimpArgs false
set_option linter.unusedSimpArgs false
set_option linter.unusedSimpArgs false
set_option linter.unusedSimpArgs false
set_option linter.unusedSimpArgs false
set_option linter.unusedSimpArgs false
end Go.Proofs.Ytgffficaoioljaa.P
end
